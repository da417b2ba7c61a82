/- What is taken is in a row from next on; what is held on begins above it: of every input, of no condition. -/
import Derived.Test.YtkmlebnkmmkpmaaHeldG
namespace Go.Proofs.Ytkmlebnkmmkpmaa
set_option linter.all false
-- bundled
open Go.ChangeShapes Go.WideShapes Go.ChangeAt Go.RowKit

theorem said_HeldRow (h : ∀ (p0 : GAsk), GAsk.ok p0 → PureF Try.prog 5 [GAsk.d p0] (.bool true)) : Rows.HeldRowSaid :=
  OpenClaim.holds_of_wide 5 Try.f5 rfl rfl rfl rfl rfl rfl rfl ⟨rfl, rfl, rfl, rfl, rfl⟩ rfl rfl rfl rfl rfl (by kernel_rfl) Try.func5 (by kernel_rfl)
    (of_decide_eq_true (by kernel_rfl)) (by unfold Func.isWrapper; first | (rw [if_pos (by decide +kernel)]; kernel_rfl) | (rw [if_neg (by decide +kernel)]; exact ⟨rfl, rfl⟩))
    (fun os started H enc _ => lift_HeldRow h os started H enc)

theorem heldRow_said : Rows.HeldRowSaid := said_HeldRow fun a ha => heldRow a ha

end Go.Proofs.Ytkmlebnkmmkpmaa
