/- The state of any text, or that it is none's, is the document's: of every input, of no condition. -/
import Derived.Test.YtkmlebnkmmkpmaaFoldR
namespace Go.Proofs.Ytkmlebnkmmkpmaa
set_option linter.all false
-- bundled
open Go.ChangeShapes Go.WideShapes Go.ChangeAt Go.RowKit

theorem said_FoldParses (h : ∀ (p0 : (List UInt8)), okStr p0 → PureF Try.prog 10 [D.str p0] (.bool true)) : Rows.FoldParsesSaid :=
  OpenClaim.holds_of_wide 10 Try.f10 rfl rfl rfl rfl rfl rfl rfl ⟨rfl, rfl, rfl, rfl, rfl⟩ rfl rfl rfl rfl rfl (by kernel_rfl) Try.func10 (by kernel_rfl)
    (of_decide_eq_true (by kernel_rfl)) (by unfold Func.isWrapper; first | (rw [if_pos (by decide +kernel)]; kernel_rfl) | (rw [if_neg (by decide +kernel)]; exact ⟨rfl, rfl⟩))
    (fun os started H enc _ => lift_FoldParses h os started H enc)

theorem foldParses_said : Rows.FoldParsesSaid := said_FoldParses fun s hs => foldParses s hs

end Go.Proofs.Ytkmlebnkmmkpmaa
