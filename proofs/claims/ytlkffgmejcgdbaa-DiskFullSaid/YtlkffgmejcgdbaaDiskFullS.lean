/- There are never more bytes than Cap, if there weren't; what is refused changes nothing: of every input, of no condition. -/
import Derived.Test.YtlkffgmejcgdbaaDiskV
namespace Go.Proofs.Ytlkffgmejcgdbaa
set_option linter.all false
-- bundled
open Go.ChangeShapes Go.WideShapes Go.ChangeAt Go.RowKit

theorem said_DiskFull (h : ∀ (p0 : (List GAct)) (p1 : UInt8), (okL GAct.ok) p0 → okT p1 → PureF Try.prog 5 [(dl 5 GAct.d) p0, byteD p1] (.bool true)) : Rows.DiskFullSaid :=
  OpenClaim.holds_of_wide 5 Try.f5 rfl rfl rfl rfl rfl rfl rfl ⟨rfl, rfl, rfl, rfl, rfl⟩ rfl rfl rfl rfl rfl (by kernel_rfl) Try.func5 (by kernel_rfl)
    (of_decide_eq_true (by kernel_rfl)) (by unfold Func.isWrapper; first | (rw [if_pos (by decide +kernel)]; kernel_rfl) | (rw [if_neg (by decide +kernel)]; exact ⟨rfl, rfl⟩))
    (fun os started H enc _ => lift_DiskFull h os started H enc)

theorem diskFull_said : Rows.DiskFullSaid := said_DiskFull fun l p hl _ => diskFull l p hl

end Go.Proofs.Ytlkffgmejcgdbaa
