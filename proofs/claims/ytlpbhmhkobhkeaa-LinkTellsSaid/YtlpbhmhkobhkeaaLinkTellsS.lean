/- A link with one more message, without any, and with any twice, is the document's, and the elder one stays: of every input, of no condition. -/
import Derived.Test.YtlpbhmhkobhkeaaLinkL
namespace Go.Proofs.Ytlpbhmhkobhkeaa
set_option linter.all false
open Go.ChangeShapes Go.WideShapes Go.ChangeAt Go.RowKit

theorem said_LinkTells (h : ∀ (p0 : GWagonerlaw17Ask), GWagonerlaw17Ask.ok p0 → PureF Try.prog 7 [GWagonerlaw17Ask.d p0] (.bool true)) : Rows.LinkTellsSaid :=
  OpenClaim.holds_of_wide 7 Try.f7 rfl rfl rfl rfl rfl rfl rfl ⟨rfl, rfl, rfl, rfl, rfl⟩ rfl rfl rfl rfl rfl (by kernel_rfl) Try.func7 (by kernel_rfl)
    (of_decide_eq_true (by kernel_rfl)) (by unfold Func.isWrapper; first | (rw [if_pos (by decide +kernel)]; kernel_rfl) | (rw [if_neg (by decide +kernel)]; exact ⟨rfl, rfl⟩))
    (fun os started H enc _ => lift_LinkTells h os started H enc)

theorem linkTells_said : Rows.LinkTellsSaid := said_LinkTells fun p hp => linkTells p hp

end Go.Proofs.Ytlpbhmhkobhkeaa
