/- Greater numbers have no fewer bytes, from one to nine: of every input, of no condition. -/
import Derived.Test.YtbabdalfkmdlhaaVarR
namespace Go.Proofs.Ytbabdalfkmdlhaa
set_option linter.all false
-- bundled
open Go.ChangeShapes Go.WideShapes Go.ChangeAt Go.RowKit

theorem said_VarintRises (h : ∀ (p0 : Int) (p1 : Int), (okInt .i64) p0 → (okInt .i64) p1 → PureF Try.prog 6 [(D.int .i64) p0, (D.int .i64) p1] (.bool true)) : Rows.VarintRisesSaid :=
  OpenClaim.holds_of_wide 6 Try.f6 rfl rfl rfl rfl rfl rfl rfl ⟨rfl, rfl, rfl, rfl, rfl⟩ rfl rfl rfl rfl rfl (by kernel_rfl) Try.func6 (by kernel_rfl)
    (of_decide_eq_true (by kernel_rfl)) (by unfold Func.isWrapper; first | (rw [if_pos (by decide +kernel)]; kernel_rfl) | (rw [if_neg (by decide +kernel)]; exact ⟨rfl, rfl⟩))
    (fun os started H enc _ => lift_VarintRises h os started H enc)

theorem varintRises_said : Rows.VarintRisesSaid := said_VarintRises fun a b ha hb => varintRises a b ha hb

end Go.Proofs.Ytbabdalfkmdlhaa
