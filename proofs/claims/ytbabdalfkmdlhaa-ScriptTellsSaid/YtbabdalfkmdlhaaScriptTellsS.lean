/- The bytes of any operations, and the operations of any text, or where and why they end, are the document's: of every input, of no condition. -/
import Derived.Test.YtbabdalfkmdlhaaScrX
namespace Go.Proofs.Ytbabdalfkmdlhaa
set_option linter.all false
-- bundled
open Go.ChangeShapes Go.WideShapes Go.ChangeAt Go.RowKit

theorem said_ScriptTells (h : ∀ (p0 : (List GOp)) (p1 : (List UInt8)), (okL GOp.ok) p0 → okStr p1 → PureF Try.prog 11 [(dl 6 GOp.d) p0, D.str p1] (.bool true)) : Rows.ScriptTellsSaid :=
  OpenClaim.holds_of_wide 11 Try.f11 rfl rfl rfl rfl rfl rfl rfl ⟨rfl, rfl, rfl, rfl, rfl⟩ rfl rfl rfl rfl rfl (by kernel_rfl) Try.func11 (by kernel_rfl)
    (of_decide_eq_true (by kernel_rfl)) (by unfold Func.isWrapper; first | (rw [if_pos (by decide +kernel)]; kernel_rfl) | (rw [if_neg (by decide +kernel)]; exact ⟨rfl, rfl⟩))
    (fun os started H enc _ => lift_ScriptTells h os started H enc)

theorem scriptTells_said : Rows.ScriptTellsSaid := said_ScriptTells fun l s hl hs => scriptTells l s hl hs

end Go.Proofs.Ytbabdalfkmdlhaa
