/- Numbers one behind the other are read one behind the other: of every input, of no condition. -/
import Derived.Test.YtbabdalfkmdlhaaVarJ
namespace Go.Proofs.Ytbabdalfkmdlhaa
set_option linter.all false
-- bundled
open Go.ChangeShapes Go.WideShapes Go.ChangeAt Go.RowKit

theorem said_VarintJoins (h : ∀ (p0 : (List Int)), (okL (okInt .u64)) p0 → PureF Try.prog 7 [(dl 1 (D.int .u64)) p0] (.bool true)) : Rows.VarintJoinsSaid :=
  OpenClaim.holds_of_wide 7 Try.f7 rfl rfl rfl rfl rfl rfl rfl ⟨rfl, rfl, rfl, rfl, rfl⟩ rfl rfl rfl rfl rfl (by kernel_rfl) Try.func7 (by kernel_rfl)
    (of_decide_eq_true (by kernel_rfl)) (by unfold Func.isWrapper; first | (rw [if_pos (by decide +kernel)]; kernel_rfl) | (rw [if_neg (by decide +kernel)]; exact ⟨rfl, rfl⟩))
    (fun os started H enc _ => lift_VarintJoins h os started H enc)

theorem varintJoins_said : Rows.VarintJoinsSaid := said_VarintJoins fun l hl => varintJoins l hl.1 hl.2

end Go.Proofs.Ytbabdalfkmdlhaa
