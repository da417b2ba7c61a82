/- How many of any segments go, and their bytes, are the document's: of every input, of no condition. -/
import Derived.Test.YtlpbhmhkobhkeaaRetainL
namespace Go.Proofs.Ytlpbhmhkobhkeaa
set_option linter.all false
open Go.ChangeShapes Go.WideShapes Go.ChangeAt Go.RowKit

theorem said_RetainTells (h : ∀ (p0 : (List GSeg)) (p1 : Int) (p2 : Int), (okL GSeg.ok) p0 → (okInt .i64) p1 → (okInt .i64) p2 → PureF Try.prog 4 [(dl 3 GSeg.d) p0, (D.int .i64) p1, (D.int .i64) p2] (.bool true)) : Rows.RetainTellsSaid :=
  OpenClaim.holds_of_wide 4 Try.f4 rfl rfl rfl rfl rfl rfl rfl ⟨rfl, rfl, rfl, rfl, rfl⟩ rfl rfl rfl rfl rfl (by kernel_rfl) Try.func4 (by kernel_rfl)
    (of_decide_eq_true (by kernel_rfl)) (by unfold Func.isWrapper; first | (rw [if_pos (by decide +kernel)]; kernel_rfl) | (rw [if_neg (by decide +kernel)]; exact ⟨rfl, rfl⟩))
    (fun os started H enc _ => lift_RetainTells h os started H enc)

theorem retainTells_said : Rows.RetainTellsSaid := said_RetainTells fun l keep count h _ _ => retainTells l keep count h.1

end Go.Proofs.Ytlpbhmhkobhkeaa
