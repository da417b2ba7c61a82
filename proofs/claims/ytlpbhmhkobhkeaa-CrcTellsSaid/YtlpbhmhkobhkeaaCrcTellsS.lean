/- The sums of texts and a sum's bytes are the document's: of every input, of no condition. -/
import Derived.Test.YtlpbhmhkobhkeaaCrcW
namespace Go.Proofs.Ytlpbhmhkobhkeaa
set_option linter.all false
open Go.ChangeShapes Go.WideShapes Go.ChangeAt Go.RowKit

theorem said_CrcTells (h : ∀ (p0 : (List (List UInt8))) (p1 : Int), (okL okStr) p0 → (okInt .u32) p1 → PureF Try.prog 9 [(dl 1 D.str) p0, (D.int .u32) p1] (.bool true)) : Rows.CrcTellsSaid :=
  OpenClaim.holds_of_wide 9 Try.f9 rfl rfl rfl rfl rfl rfl rfl ⟨rfl, rfl, rfl, rfl, rfl⟩ rfl rfl rfl rfl rfl (by kernel_rfl) Try.func9 (by kernel_rfl)
    (of_decide_eq_true (by kernel_rfl)) (by unfold Func.isWrapper; first | (rw [if_pos (by decide +kernel)]; kernel_rfl) | (rw [if_neg (by decide +kernel)]; exact ⟨rfl, rfl⟩))
    (fun os started H enc _ => lift_CrcTells h os started H enc)

theorem crcTells_said : Rows.CrcTellsSaid := said_CrcTells fun l sum hl hs => by
  obtain ⟨x, rfl⟩ := u32_of hs
  exact crcTells l x ⟨hl.max, fun s h => (hl.2 s h).max⟩

end Go.Proofs.Ytlpbhmhkobhkeaa
