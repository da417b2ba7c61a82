/- Where up to 32 bits one behind the other are turned, the sum is another one: of every input, of no condition. -/
import Derived.Test.YtlpbhmhkobhkeaaCrcP
namespace Go.Proofs.Ytlpbhmhkobhkeaa
set_option linter.all false
open Go.ChangeShapes Go.WideShapes Go.ChangeAt Go.RowKit

theorem said_CrcBurst (h : ∀ (p0 : (List UInt8)) (p1 : Int) (p2 : Int), okStr p0 → (okInt .u16) p1 → (okInt .u32) p2 → PureF Try.prog 11 [D.str p0, (D.int .u16) p1, (D.int .u32) p2] (.bool true)) : Rows.CrcBurstSaid :=
  OpenClaim.holds_of_wide 11 Try.f11 rfl rfl rfl rfl rfl rfl rfl ⟨rfl, rfl, rfl, rfl, rfl⟩ rfl rfl rfl rfl rfl (by kernel_rfl) Try.func11 (by kernel_rfl)
    (of_decide_eq_true (by kernel_rfl)) (by unfold Func.isWrapper; first | (rw [if_pos (by decide +kernel)]; kernel_rfl) | (rw [if_neg (by decide +kernel)]; exact ⟨rfl, rfl⟩))
    (fun os started H enc _ => lift_CrcBurst h os started H enc)

theorem crcBurst_said : Rows.CrcBurstSaid := said_CrcBurst fun s at' bits hs ha hb => by
  obtain ⟨x, rfl⟩ := u32_of hb
  exact crcBurst s at' x hs ha

end Go.Proofs.Ytlpbhmhkobhkeaa
