/- What is read has just the bytes that it was read of: of every input, of no condition. -/
import Derived.Test.YtbabdalfkmdlhaaVarR
namespace Go.Proofs.Ytbabdalfkmdlhaa
set_option linter.all false
-- bundled
open Go.ChangeShapes Go.WideShapes Go.ChangeAt Go.RowKit

theorem said_VarintOnce (h : ∀ (p0 : (List UInt8)) (p1 : Int), okStr p0 → (okInt .i64) p1 → PureF Try.prog 5 [D.str p0, (D.int .i64) p1] (.bool true)) : Rows.VarintOnceSaid :=
  OpenClaim.holds_of_wide 5 Try.f5 rfl rfl rfl rfl rfl rfl rfl ⟨rfl, rfl, rfl, rfl, rfl⟩ rfl rfl rfl rfl rfl (by kernel_rfl) Try.func5 (by kernel_rfl)
    (of_decide_eq_true (by kernel_rfl)) (by unfold Func.isWrapper; first | (rw [if_pos (by decide +kernel)]; kernel_rfl) | (rw [if_neg (by decide +kernel)]; exact ⟨rfl, rfl⟩))
    (fun os started H enc _ => lift_VarintOnce h os started H enc)

theorem varintOnce_said : Rows.VarintOnceSaid := said_VarintOnce fun s at' hs ha => varintOnce s at' hs ha

end Go.Proofs.Ytbabdalfkmdlhaa
