/- Whether any marks may be, one more, and the one that is found for any offset, are the document's: of every input, of no condition. -/
import Derived.Test.YtlpbhmhkobhkeaaSparseL
namespace Go.Proofs.Ytlpbhmhkobhkeaa
set_option linter.all false
open Go.ChangeShapes Go.WideShapes Go.ChangeAt Go.RowKit

theorem said_SparseTells (h : ∀ (p0 : GWagonerlaw08Ask), GWagonerlaw08Ask.ok p0 → PureF Try.prog 12 [GWagonerlaw08Ask.d p0] (.bool true)) : Rows.SparseTellsSaid :=
  OpenClaim.holds_of_wide 12 Try.f12 rfl rfl rfl rfl rfl rfl rfl ⟨rfl, rfl, rfl, rfl, rfl⟩ rfl rfl rfl rfl rfl (by kernel_rfl) Try.func12 (by kernel_rfl)
    (of_decide_eq_true (by kernel_rfl)) (by unfold Func.isWrapper; first | (rw [if_pos (by decide +kernel)]; kernel_rfl) | (rw [if_neg (by decide +kernel)]; exact ⟨rfl, rfl⟩))
    (fun os started H enc _ => lift_SparseTells h os started H enc)

theorem sparseTells_said : Rows.SparseTellsSaid := said_SparseTells fun z hz => sparseTells z hz

end Go.Proofs.Ytlpbhmhkobhkeaa
