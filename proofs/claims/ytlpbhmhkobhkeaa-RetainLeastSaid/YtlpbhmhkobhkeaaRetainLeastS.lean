/- What is left of segments is not too much, and one more would be, unless none go: of every input, of no condition. -/
import Derived.Test.YtlpbhmhkobhkeaaRetainL
namespace Go.Proofs.Ytlpbhmhkobhkeaa
set_option linter.all false
open Go.ChangeShapes Go.WideShapes Go.ChangeAt Go.RowKit

theorem said_RetainLeast (h : ∀ (p0 : (List GSeg)) (p1 : Int) (p2 : Int), (okL GSeg.ok) p0 → (okInt .i64) p1 → (okInt .i64) p2 → PureF Try.prog 5 [(dl 3 GSeg.d) p0, (D.int .i64) p1, (D.int .i64) p2] (.bool true)) : Rows.RetainLeastSaid :=
  OpenClaim.holds_of_wide 5 Try.f5 rfl rfl rfl rfl rfl rfl rfl ⟨rfl, rfl, rfl, rfl, rfl⟩ rfl rfl rfl rfl rfl (by kernel_rfl) Try.func5 (by kernel_rfl)
    (of_decide_eq_true (by kernel_rfl)) (by unfold Func.isWrapper; first | (rw [if_pos (by decide +kernel)]; kernel_rfl) | (rw [if_neg (by decide +kernel)]; exact ⟨rfl, rfl⟩))
    (fun os started H enc _ => lift_RetainLeast h os started H enc)

theorem retainLeast_said : Rows.RetainLeastSaid := said_RetainLeast fun l keep count h _ _ => retainLeast l keep count h.1

end Go.Proofs.Ytlpbhmhkobhkeaa
