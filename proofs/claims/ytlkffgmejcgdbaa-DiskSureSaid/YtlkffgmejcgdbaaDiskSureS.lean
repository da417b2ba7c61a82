/- What is sure of a file stays at its beginning, whatever is done, unless it is cut, deleted, or another one takes its name; a crash leaves what is sure, and of the rest the beginning: of every input, of no condition. -/
import Derived.Test.YtlkffgmejcgdbaaDiskX
namespace Go.Proofs.Ytlkffgmejcgdbaa
set_option linter.all false
-- bundled
open Go.ChangeShapes Go.WideShapes Go.ChangeAt Go.RowKit

theorem said_DiskSure (h : ∀ (p0 : (List GAct)) (p1 : (List Int)), (okL GAct.ok) p0 → (okL (okInt .i64)) p1 → PureF Try.prog 4 [(dl 5 GAct.d) p0, (dl 1 (D.int .i64)) p1] (.bool true)) : Rows.DiskSureSaid :=
  OpenClaim.holds_of_wide 4 Try.f4 rfl rfl rfl rfl rfl rfl rfl ⟨rfl, rfl, rfl, rfl, rfl⟩ rfl rfl rfl rfl rfl (by kernel_rfl) Try.func4 (by kernel_rfl)
    (of_decide_eq_true (by kernel_rfl)) (by unfold Func.isWrapper; first | (rw [if_pos (by decide +kernel)]; kernel_rfl) | (rw [if_neg (by decide +kernel)]; exact ⟨rfl, rfl⟩))
    (fun os started H enc _ => lift_DiskSure h os started H enc)

theorem diskSure_said : Rows.DiskSureSaid := said_DiskSure fun l k hl hk => diskSure l k hl hk

end Go.Proofs.Ytlkffgmejcgdbaa
