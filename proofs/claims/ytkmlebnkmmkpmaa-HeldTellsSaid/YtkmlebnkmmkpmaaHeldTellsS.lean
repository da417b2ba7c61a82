/- Held batches with one more, their bytes, and what is taken of them, are the document's: of every input, of no condition. -/
import Derived.Test.YtkmlebnkmmkpmaaHeldF
namespace Go.Proofs.Ytkmlebnkmmkpmaa
set_option linter.all false
-- bundled
open Go.ChangeShapes Go.WideShapes Go.ChangeAt Go.RowKit

theorem said_HeldTells (h : ∀ (p0 : GAsk), GAsk.ok p0 → PureF Try.prog 4 [GAsk.d p0] (.bool true)) : Rows.HeldTellsSaid :=
  OpenClaim.holds_of_wide 4 Try.f4 rfl rfl rfl rfl rfl rfl rfl ⟨rfl, rfl, rfl, rfl, rfl⟩ rfl rfl rfl rfl rfl (by kernel_rfl) Try.func4 (by kernel_rfl)
    (of_decide_eq_true (by kernel_rfl)) (by unfold Func.isWrapper; first | (rw [if_pos (by decide +kernel)]; kernel_rfl) | (rw [if_neg (by decide +kernel)]; exact ⟨rfl, rfl⟩))
    (fun os started H enc _ => lift_HeldTells h os started H enc)

theorem heldTells_said : Rows.HeldTellsSaid := said_HeldTells fun a ha => heldTells a ha

end Go.Proofs.Ytkmlebnkmmkpmaa
