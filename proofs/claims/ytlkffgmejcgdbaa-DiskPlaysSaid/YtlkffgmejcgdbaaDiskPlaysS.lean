/- Any acts, one behind the other, make of an empty disk what the document says, and so at each step: of every input, of no condition. -/
import Derived.Test.YtlkffgmejcgdbaaDiskL
namespace Go.Proofs.Ytlkffgmejcgdbaa
set_option linter.all false
-- bundled
open Go.ChangeShapes Go.WideShapes Go.ChangeAt Go.RowKit

theorem said_DiskPlays (h : ∀ (p0 : (List GAct)), (okL GAct.ok) p0 → PureF Try.prog 3 [(dl 5 GAct.d) p0] (.bool true)) : Rows.DiskPlaysSaid :=
  OpenClaim.holds_of_wide 3 Try.f3 rfl rfl rfl rfl rfl rfl rfl ⟨rfl, rfl, rfl, rfl, rfl⟩ rfl rfl rfl rfl rfl (by kernel_rfl) Try.func3 (by kernel_rfl)
    (of_decide_eq_true (by kernel_rfl)) (by unfold Func.isWrapper; first | (rw [if_pos (by decide +kernel)]; kernel_rfl) | (rw [if_neg (by decide +kernel)]; exact ⟨rfl, rfl⟩))
    (fun os started H enc _ => lift_DiskPlays h os started H enc)

theorem diskPlays_said : Rows.DiskPlaysSaid := said_DiskPlays fun l hl => diskPlays l hl

end Go.Proofs.Ytlkffgmejcgdbaa
