/- Whether any disk may be, its names, its bytes, and what any act makes of it, are the document's: of every input, of no condition. -/
import Derived.Test.YtlkffgmejcgdbaaDiskT
namespace Go.Proofs.Ytlkffgmejcgdbaa
set_option linter.all false
-- bundled
open Go.ChangeShapes Go.WideShapes Go.ChangeAt Go.RowKit

theorem said_DiskTells (h : ∀ (p0 : GDisk) (p1 : GAct), GDisk.ok p0 → GAct.ok p1 → PureF Try.prog 7 [GDisk.d p0, GAct.d p1] (.bool true)) : Rows.DiskTellsSaid :=
  OpenClaim.holds_of_wide 7 Try.f7 rfl rfl rfl rfl rfl rfl rfl ⟨rfl, rfl, rfl, rfl, rfl⟩ rfl rfl rfl rfl rfl (by kernel_rfl) Try.func7 (by kernel_rfl)
    (of_decide_eq_true (by kernel_rfl)) (by unfold Func.isWrapper; first | (rw [if_pos (by decide +kernel)]; kernel_rfl) | (rw [if_neg (by decide +kernel)]; exact ⟨rfl, rfl⟩))
    (fun os started H enc _ => lift_DiskTells h os started H enc)

theorem diskTells_said : Rows.DiskTellsSaid := said_DiskTells fun d a hd ha => diskTells d a hd ha

end Go.Proofs.Ytlkffgmejcgdbaa
