/- Only the last record of each key counts: of every input, of no condition. -/
import Derived.Test.YtkmlebnkmmkpmaaFoldT
namespace Go.Proofs.Ytkmlebnkmmkpmaa
set_option linter.all false
-- bundled
open Go.ChangeShapes Go.WideShapes Go.ChangeAt Go.RowKit

theorem said_FoldLast (h : ∀ (p0 : (List GRec)), (okL GRec.ok) p0 → PureF Try.prog 3 [(dl 3 GRec.d) p0] (.bool true)) : Rows.FoldLastSaid :=
  OpenClaim.holds_of_wide 3 Try.f3 rfl rfl rfl rfl rfl rfl rfl ⟨rfl, rfl, rfl, rfl, rfl⟩ rfl rfl rfl rfl rfl (by kernel_rfl) Try.func3 (by kernel_rfl)
    (of_decide_eq_true (by kernel_rfl)) (by unfold Func.isWrapper; first | (rw [if_pos (by decide +kernel)]; kernel_rfl) | (rw [if_neg (by decide +kernel)]; exact ⟨rfl, rfl⟩))
    (fun os started H enc _ => lift_FoldLast h os started H enc)

theorem foldLast_said : Rows.FoldLastSaid := said_FoldLast fun recs hr => foldLast recs hr

end Go.Proofs.Ytkmlebnkmmkpmaa
