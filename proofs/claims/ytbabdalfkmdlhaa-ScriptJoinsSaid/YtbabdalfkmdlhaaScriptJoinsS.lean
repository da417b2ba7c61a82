/- The bytes of two scripts, one behind the other, are those of both: of every input, of no condition. -/
import Derived.Test.YtbabdalfkmdlhaaScrX
namespace Go.Proofs.Ytbabdalfkmdlhaa
set_option linter.all false
-- bundled
open Go.ChangeShapes Go.WideShapes Go.ChangeAt Go.RowKit

theorem said_ScriptJoins (h : ∀ (p0 : (List GOp)) (p1 : (List GOp)), (okL GOp.ok) p0 → (okL GOp.ok) p1 → PureF Try.prog 14 [(dl 6 GOp.d) p0, (dl 6 GOp.d) p1] (.bool true)) : Rows.ScriptJoinsSaid :=
  OpenClaim.holds_of_wide 14 Try.f14 rfl rfl rfl rfl rfl rfl rfl ⟨rfl, rfl, rfl, rfl, rfl⟩ rfl rfl rfl rfl rfl (by kernel_rfl) Try.func14 (by kernel_rfl)
    (of_decide_eq_true (by kernel_rfl)) (by unfold Func.isWrapper; first | (rw [if_pos (by decide +kernel)]; kernel_rfl) | (rw [if_neg (by decide +kernel)]; exact ⟨rfl, rfl⟩))
    (fun os started H enc _ => lift_ScriptJoins h os started H enc)

theorem scriptJoins_said : Rows.ScriptJoinsSaid := said_ScriptJoins fun a b ha hb => scriptJoins a b ha hb

end Go.Proofs.Ytbabdalfkmdlhaa
