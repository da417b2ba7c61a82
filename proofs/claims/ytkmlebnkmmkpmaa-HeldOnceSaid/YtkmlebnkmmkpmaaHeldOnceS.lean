/- What was put is not put again; what isn't ahead of its turn is never held: of every input, of no condition. -/
import Derived.Test.YtkmlebnkmmkpmaaHeldG
namespace Go.Proofs.Ytkmlebnkmmkpmaa
set_option linter.all false
-- bundled
open Go.ChangeShapes Go.WideShapes Go.ChangeAt Go.RowKit

theorem said_HeldOnce (h : ∀ (p0 : GAsk), GAsk.ok p0 → PureF Try.prog 8 [GAsk.d p0] (.bool true)) : Rows.HeldOnceSaid :=
  OpenClaim.holds_of_wide 8 Try.f8 rfl rfl rfl rfl rfl rfl rfl ⟨rfl, rfl, rfl, rfl, rfl⟩ rfl rfl rfl rfl rfl (by kernel_rfl) Try.func8 (by kernel_rfl)
    (of_decide_eq_true (by kernel_rfl)) (by unfold Func.isWrapper; first | (rw [if_pos (by decide +kernel)]; kernel_rfl) | (rw [if_neg (by decide +kernel)]; exact ⟨rfl, rfl⟩))
    (fun os started H enc _ => lift_HeldOnce h os started H enc)

theorem heldOnce_said : Rows.HeldOnceSaid := said_HeldOnce fun a ha => heldOnce a ha

end Go.Proofs.Ytkmlebnkmmkpmaa
