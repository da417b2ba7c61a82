/- Of any bodies in frames the operations, or where and why they end, are the document's: of every input, of no condition. -/
import Derived.Test.YtbabdalfkmdlhaaScrX
namespace Go.Proofs.Ytbabdalfkmdlhaa
set_option linter.all false
-- bundled
open Go.ChangeShapes Go.WideShapes Go.ChangeAt Go.RowKit

theorem said_ScriptFramed (h : ∀ (p0 : (List (List UInt8))), (okL okStr) p0 → PureF Try.prog 12 [(dl 1 D.str) p0] (.bool true)) : Rows.ScriptFramedSaid :=
  OpenClaim.holds_of_wide 12 Try.f12 rfl rfl rfl rfl rfl rfl rfl ⟨rfl, rfl, rfl, rfl, rfl⟩ rfl rfl rfl rfl rfl (by kernel_rfl) Try.func12 (by kernel_rfl)
    (of_decide_eq_true (by kernel_rfl)) (by unfold Func.isWrapper; first | (rw [if_pos (by decide +kernel)]; kernel_rfl) | (rw [if_neg (by decide +kernel)]; exact ⟨rfl, rfl⟩))
    (fun os started H enc _ => lift_ScriptFramed h os started H enc)

theorem scriptFramed_said : Rows.ScriptFramedSaid := said_ScriptFramed fun l hl => scriptFramed l hl

end Go.Proofs.Ytbabdalfkmdlhaa
