/- Whether pairs are a state, what comes of it by data, and its bytes, are the document's: of every input, of no condition. -/
import Derived.Test.YtkmlebnkmmkpmaaFoldR
namespace Go.Proofs.Ytkmlebnkmmkpmaa
set_option linter.all false
-- bundled
open Go.ChangeShapes Go.WideShapes Go.ChangeAt Go.RowKit

theorem said_FoldTells (h : ∀ (p0 : (List GPair)) (p1 : (List UInt8)), (okL GPair.ok) p0 → okStr p1 → PureF Try.prog 9 [(dl 2 GPair.d) p0, D.str p1] (.bool true)) : Rows.FoldTellsSaid :=
  OpenClaim.holds_of_wide 9 Try.f9 rfl rfl rfl rfl rfl rfl rfl ⟨rfl, rfl, rfl, rfl, rfl⟩ rfl rfl rfl rfl rfl (by kernel_rfl) Try.func9 (by kernel_rfl)
    (of_decide_eq_true (by kernel_rfl)) (by unfold Func.isWrapper; first | (rw [if_pos (by decide +kernel)]; kernel_rfl) | (rw [if_neg (by decide +kernel)]; exact ⟨rfl, rfl⟩))
    (fun os started H enc _ => lift_FoldTells h os started H enc)

theorem foldTells_said : Rows.FoldTellsSaid := said_FoldTells fun l data hl hd => foldTells l data hl hd

end Go.Proofs.Ytkmlebnkmmkpmaa
