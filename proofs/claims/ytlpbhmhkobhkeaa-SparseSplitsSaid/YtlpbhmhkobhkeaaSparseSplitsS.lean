/- A mark that is found is not above what was asked, and none that is left out between is: of every input, of no condition. -/
import Derived.Test.YtlpbhmhkobhkeaaSparseL
namespace Go.Proofs.Ytlpbhmhkobhkeaa
set_option linter.all false
open Go.ChangeShapes Go.WideShapes Go.ChangeAt Go.RowKit

theorem said_SparseSplits (h : ∀ (p0 : (List GMark)) (p1 : Int), (okL GMark.ok) p0 → (okInt .i64) p1 → PureF Try.prog 14 [(dl 2 GMark.d) p0, (D.int .i64) p1] (.bool true)) : Rows.SparseSplitsSaid :=
  OpenClaim.holds_of_wide 14 Try.f14 rfl rfl rfl rfl rfl rfl rfl ⟨rfl, rfl, rfl, rfl, rfl⟩ rfl rfl rfl rfl rfl (by kernel_rfl) Try.func14 (by kernel_rfl)
    (of_decide_eq_true (by kernel_rfl)) (by unfold Func.isWrapper; first | (rw [if_pos (by decide +kernel)]; kernel_rfl) | (rw [if_neg (by decide +kernel)]; exact ⟨rfl, rfl⟩))
    (fun os started H enc _ => lift_SparseSplits h os started H enc)

theorem sparseSplits_said : Rows.SparseSplitsSaid := said_SparseSplits fun l off hl ho => sparseSplits l off hl.1 ho

end Go.Proofs.Ytlpbhmhkobhkeaa
