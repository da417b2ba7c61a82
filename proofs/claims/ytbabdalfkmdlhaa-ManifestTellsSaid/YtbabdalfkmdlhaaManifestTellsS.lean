/- Whether any manifest may be, its bytes, and the manifest of any text, or why there is none, are the document's: of every input, of no condition. -/
import Derived.Test.YtbabdalfkmdlhaaManL
namespace Go.Proofs.Ytbabdalfkmdlhaa
set_option linter.all false
-- bundled
open Go.ChangeShapes Go.WideShapes Go.ChangeAt Go.RowKit

theorem said_ManifestTells (h : ∀ (p0 : GMan) (p1 : (List UInt8)), GMan.ok p0 → okStr p1 → PureF Try.prog 8 [GMan.d p0, D.str p1] (.bool true)) : Rows.ManifestTellsSaid :=
  OpenClaim.holds_of_wide 8 Try.f8 rfl rfl rfl rfl rfl rfl rfl ⟨rfl, rfl, rfl, rfl, rfl⟩ rfl rfl rfl rfl rfl (by kernel_rfl) Try.func8 (by kernel_rfl)
    (of_decide_eq_true (by kernel_rfl)) (by unfold Func.isWrapper; first | (rw [if_pos (by decide +kernel)]; kernel_rfl) | (rw [if_neg (by decide +kernel)]; exact ⟨rfl, rfl⟩))
    (fun os started H enc _ => lift_ManifestTells h os started H enc)

theorem manifestTells_said : Rows.ManifestTellsSaid := said_ManifestTells fun m s hm hs => by
  obtain ⟨x, hx⟩ := u32_of hm.2.2.2
  have h := manifestTells ⟨m.ver, m.segs, m.size, x⟩ s hm.2.1.1 hs
  simp only [MM.d] at h
  simp only [GMan.d, hx]
  exact h

end Go.Proofs.Ytbabdalfkmdlhaa
