/- In whatever parts bytes come, their sum is the same: of every input, of no condition. -/
import Derived.Test.YtlpbhmhkobhkeaaCrcW
namespace Go.Proofs.Ytlpbhmhkobhkeaa
set_option linter.all false
open Go.ChangeShapes Go.WideShapes Go.ChangeAt Go.RowKit

theorem said_CrcParts (h : ∀ (p0 : (List UInt8)) (p1 : (List UInt8)) (p2 : (List UInt8)), okStr p0 → okStr p1 → okStr p2 → PureF Try.prog 10 [D.str p0, D.str p1, D.str p2] (.bool true)) : Rows.CrcPartsSaid :=
  OpenClaim.holds_of_wide 10 Try.f10 rfl rfl rfl rfl rfl rfl rfl ⟨rfl, rfl, rfl, rfl, rfl⟩ rfl rfl rfl rfl rfl (by kernel_rfl) Try.func10 (by kernel_rfl)
    (of_decide_eq_true (by kernel_rfl)) (by unfold Func.isWrapper; first | (rw [if_pos (by decide +kernel)]; kernel_rfl) | (rw [if_neg (by decide +kernel)]; exact ⟨rfl, rfl⟩))
    (fun os started H enc _ => lift_CrcParts h os started H enc)

theorem crcParts_said : Rows.CrcPartsSaid := said_CrcParts fun a b c ha hb hc => crcParts a b c ha hb hc

end Go.Proofs.Ytlpbhmhkobhkeaa
