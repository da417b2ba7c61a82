/- Of any body in a frame, and of what stands behind it, the manifest, or why there is none, is the document's: of every input, of no condition. -/
import Derived.Test.YtbabdalfkmdlhaaManL
namespace Go.Proofs.Ytbabdalfkmdlhaa
set_option linter.all false
-- bundled
open Go.ChangeShapes Go.WideShapes Go.ChangeAt Go.RowKit

theorem said_ManifestFramed (h : ∀ (p0 : (List UInt8)) (p1 : (List UInt8)), okStr p0 → okStr p1 → PureF Try.prog 9 [D.str p0, D.str p1] (.bool true)) : Rows.ManifestFramedSaid :=
  OpenClaim.holds_of_wide 9 Try.f9 rfl rfl rfl rfl rfl rfl rfl ⟨rfl, rfl, rfl, rfl, rfl⟩ rfl rfl rfl rfl rfl (by kernel_rfl) Try.func9 (by kernel_rfl)
    (of_decide_eq_true (by kernel_rfl)) (by unfold Func.isWrapper; first | (rw [if_pos (by decide +kernel)]; kernel_rfl) | (rw [if_neg (by decide +kernel)]; exact ⟨rfl, rfl⟩))
    (fun os started H enc _ => lift_ManifestFramed h os started H enc)

theorem manifestFramed_said : Rows.ManifestFramedSaid := said_ManifestFramed fun b t hb ht => manifestFramed b t hb ht

end Go.Proofs.Ytbabdalfkmdlhaa
