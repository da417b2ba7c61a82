/- There are never more than most, nor more bytes than there may be: of every input, of no condition. -/
import Derived.Test.YtkmlebnkmmkpmaaHeldG
namespace Go.Proofs.Ytkmlebnkmmkpmaa
set_option linter.all false
-- bundled
open Go.ChangeShapes Go.WideShapes Go.ChangeAt Go.RowKit

theorem said_HeldBound (h : ∀ (p0 : (List (List GRec))) (p1 : UInt8) (p2 : UInt8), (okL (okL GRec.ok)) p0 → okT p1 → okT p2 → PureF Try.prog 7 [(dl 1 (dl 3 GRec.d)) p0, byteD p1, byteD p2] (.bool true)) : Rows.HeldBoundSaid :=
  OpenClaim.holds_of_wide 7 Try.f7 rfl rfl rfl rfl rfl rfl rfl ⟨rfl, rfl, rfl, rfl, rfl⟩ rfl rfl rfl rfl rfl (by kernel_rfl) Try.func7 (by kernel_rfl)
    (of_decide_eq_true (by kernel_rfl)) (by unfold Func.isWrapper; first | (rw [if_pos (by decide +kernel)]; kernel_rfl) | (rw [if_neg (by decide +kernel)]; exact ⟨rfl, rfl⟩))
    (fun os started H enc _ => lift_HeldBound h os started H enc)

theorem heldBound_said : Rows.HeldBoundSaid := said_HeldBound fun l most bytes hl _ _ => heldBound l most bytes hl

end Go.Proofs.Ytkmlebnkmmkpmaa
