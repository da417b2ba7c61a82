/- What records come to is a state, is parsed of its bytes, and in two parts they come to the same: of every input, of no condition. -/
import Derived.Test.YtkmlebnkmmkpmaaFoldT
namespace Go.Proofs.Ytkmlebnkmmkpmaa
set_option linter.all false
-- bundled
open Go.ChangeShapes Go.WideShapes Go.ChangeAt Go.RowKit

theorem said_FoldBack (h : ∀ (p0 : (List GRec)) (p1 : UInt8), (okL GRec.ok) p0 → okT p1 → PureF Try.prog 11 [(dl 3 GRec.d) p0, byteD p1] (.bool true)) : Rows.FoldBackSaid :=
  OpenClaim.holds_of_wide 11 Try.f11 rfl rfl rfl rfl rfl rfl rfl ⟨rfl, rfl, rfl, rfl, rfl⟩ rfl rfl rfl rfl rfl (by kernel_rfl) Try.func11 (by kernel_rfl)
    (of_decide_eq_true (by kernel_rfl)) (by unfold Func.isWrapper; first | (rw [if_pos (by decide +kernel)]; kernel_rfl) | (rw [if_neg (by decide +kernel)]; exact ⟨rfl, rfl⟩))
    (fun os started H enc _ => lift_FoldBack h os started H enc)

theorem foldBack_said : Rows.FoldBackSaid := said_FoldBack fun recs cut hr _ => foldBack recs cut hr

end Go.Proofs.Ytkmlebnkmmkpmaa
