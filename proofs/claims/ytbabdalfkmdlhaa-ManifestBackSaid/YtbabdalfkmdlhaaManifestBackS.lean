/- A manifest that may be comes back; cut off anywhere its bytes are none's: of every input, of no condition. -/
import Derived.Test.YtbabdalfkmdlhaaManL
namespace Go.Proofs.Ytbabdalfkmdlhaa
set_option linter.all false
-- bundled
open Go.ChangeShapes Go.WideShapes Go.ChangeAt Go.RowKit

theorem said_ManifestBack (h : ∀ (p0 : GMan) (p1 : Int), GMan.ok p0 → (okInt .u16) p1 → PureF Try.prog 10 [GMan.d p0, (D.int .u16) p1] (.bool true)) : Rows.ManifestBackSaid :=
  OpenClaim.holds_of_wide 10 Try.f10 rfl rfl rfl rfl rfl rfl rfl ⟨rfl, rfl, rfl, rfl, rfl⟩ rfl rfl rfl rfl rfl (by kernel_rfl) Try.func10 (by kernel_rfl)
    (of_decide_eq_true (by kernel_rfl)) (by unfold Func.isWrapper; first | (rw [if_pos (by decide +kernel)]; kernel_rfl) | (rw [if_neg (by decide +kernel)]; exact ⟨rfl, rfl⟩))
    (fun os started H enc _ => lift_ManifestBack h os started H enc)

theorem manifestBack_said : Rows.ManifestBackSaid := said_ManifestBack fun m cut hm hc => by
  obtain ⟨x, hx⟩ := u32_of hm.2.2.2
  obtain ⟨c, rfl⟩ : ∃ c : Nat, cut = c := ⟨cut.toNat, by have := hc.1; rw [min_u16] at this; omega⟩
  have hc2 := hc.2
  rw [max_u16] at hc2
  have h := manifestBack ⟨m.ver, m.segs, m.size, x⟩ c hm.2.1.1 (by omega)
  simp only [MM.d] at h
  simp only [GMan.d, hx]
  exact h

end Go.Proofs.Ytbabdalfkmdlhaa
