/- The bytes of any number, and the number at any place of any text, are the document's: of every input, of no condition. -/
import Derived.Test.YtbabdalfkmdlhaaVarR
namespace Go.Proofs.Ytbabdalfkmdlhaa
set_option linter.all false
-- bundled
open Go.ChangeShapes Go.WideShapes Go.ChangeAt Go.RowKit

theorem said_VarintTells (h : ∀ (p0 : Int) (p1 : (List UInt8)) (p2 : Int), (okInt .i64) p0 → okStr p1 → (okInt .i64) p2 → PureF Try.prog 3 [(D.int .i64) p0, D.str p1, (D.int .i64) p2] (.bool true)) : Rows.VarintTellsSaid :=
  OpenClaim.holds_of_wide 3 Try.f3 rfl rfl rfl rfl rfl rfl rfl ⟨rfl, rfl, rfl, rfl, rfl⟩ rfl rfl rfl rfl rfl (by kernel_rfl) Try.func3 (by kernel_rfl)
    (of_decide_eq_true (by kernel_rfl)) (by unfold Func.isWrapper; first | (rw [if_pos (by decide +kernel)]; kernel_rfl) | (rw [if_neg (by decide +kernel)]; exact ⟨rfl, rfl⟩))
    (fun os started H enc _ => lift_VarintTells h os started H enc)

theorem varintTells_said : Rows.VarintTellsSaid := said_VarintTells fun n s at' hn hs ha => varintTells n s at' hn hs ha

end Go.Proofs.Ytbabdalfkmdlhaa
