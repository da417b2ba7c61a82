/- What is put is read, whatever stands ahead and behind: of every input, of no condition. -/
import Derived.Test.YtbabdalfkmdlhaaVarR
namespace Go.Proofs.Ytbabdalfkmdlhaa
set_option linter.all false
-- bundled
open Go.ChangeShapes Go.WideShapes Go.ChangeAt Go.RowKit

theorem said_VarintBack (h : ∀ (p0 : Int) (p1 : (List UInt8)) (p2 : (List UInt8)), (okInt .i64) p0 → okStr p1 → okStr p2 → PureF Try.prog 4 [(D.int .i64) p0, D.str p1, D.str p2] (.bool true)) : Rows.VarintBackSaid :=
  OpenClaim.holds_of_wide 4 Try.f4 rfl rfl rfl rfl rfl rfl rfl ⟨rfl, rfl, rfl, rfl, rfl⟩ rfl rfl rfl rfl rfl (by kernel_rfl) Try.func4 (by kernel_rfl)
    (of_decide_eq_true (by kernel_rfl)) (by unfold Func.isWrapper; first | (rw [if_pos (by decide +kernel)]; kernel_rfl) | (rw [if_neg (by decide +kernel)]; exact ⟨rfl, rfl⟩))
    (fun os started H enc _ => lift_VarintBack h os started H enc)

theorem varintBack_said : Rows.VarintBackSaid := said_VarintBack fun n a b hn ha hb => varintBack n a b hn ha hb

end Go.Proofs.Ytbabdalfkmdlhaa
