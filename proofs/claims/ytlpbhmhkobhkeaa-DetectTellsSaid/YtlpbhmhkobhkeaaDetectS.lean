/- Failure detection: whether any follower is live, what any have, and what it is when it is heard, are the document's: of every input, of no condition. -/
import Derived.Test.YtlpbhmhkobhkeaaDetectL
namespace Go.Proofs.Ytlpbhmhkobhkeaa
set_option linter.all false
open Go.ChangeShapes Go.WideShapes Go.ChangeAt Go.RowKit

theorem said_DetectTells (h : ∀ (p0 : GAsk), GAsk.ok p0 → PureF Try.prog 3 [GAsk.d p0] (.bool true)) : Rows.DetectTellsSaid :=
  OpenClaim.holds_of_wide 3 Try.f3 rfl rfl rfl rfl rfl rfl rfl ⟨rfl, rfl, rfl, rfl, rfl⟩ rfl rfl rfl rfl rfl (by kernel_rfl) Try.func3 (by kernel_rfl)
    (of_decide_eq_true (by kernel_rfl)) (by unfold Func.isWrapper; first | (rw [if_pos (by decide +kernel)]; kernel_rfl) | (rw [if_neg (by decide +kernel)]; exact ⟨rfl, rfl⟩))
    (fun os started H enc _ => lift_DetectTells h os started H enc)

theorem detectTells_said : Rows.DetectTellsSaid := said_DetectTells fun p hp => detectTells p hp

end Go.Proofs.Ytlpbhmhkobhkeaa
