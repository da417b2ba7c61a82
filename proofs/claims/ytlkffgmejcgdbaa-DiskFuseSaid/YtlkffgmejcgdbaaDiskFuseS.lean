/- A fuse lets just as many changes as it was told, then the power is gone, and nothing is changed any more, until a crash: of every input, of no condition. -/
import Derived.Test.YtlkffgmejcgdbaaDiskU
namespace Go.Proofs.Ytlkffgmejcgdbaa
set_option linter.all false
-- bundled
open Go.ChangeShapes Go.WideShapes Go.ChangeAt Go.RowKit

theorem said_DiskFuse (h : ∀ (p0 : (List GAct)) (p1 : UInt8), (okL GAct.ok) p0 → okT p1 → PureF Try.prog 6 [(dl 5 GAct.d) p0, byteD p1] (.bool true)) : Rows.DiskFuseSaid :=
  OpenClaim.holds_of_wide 6 Try.f6 rfl rfl rfl rfl rfl rfl rfl ⟨rfl, rfl, rfl, rfl, rfl⟩ rfl rfl rfl rfl rfl (by kernel_rfl) Try.func6 (by kernel_rfl)
    (of_decide_eq_true (by kernel_rfl)) (by unfold Func.isWrapper; first | (rw [if_pos (by decide +kernel)]; kernel_rfl) | (rw [if_neg (by decide +kernel)]; exact ⟨rfl, rfl⟩))
    (fun os started H enc _ => lift_DiskFuse h os started H enc)

theorem diskFuse_said : Rows.DiskFuseSaid := said_DiskFuse fun l p hl _ => diskFuse l p hl

end Go.Proofs.Ytlkffgmejcgdbaa
