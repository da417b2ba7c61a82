/- Pieces of a row, held in whatever order, are taken as the row, from its second record on: of every input, of no condition. -/
import Derived.Test.YtkmlebnkmmkpmaaHeldP
namespace Go.Proofs.Ytkmlebnkmmkpmaa
set_option linter.all false
-- bundled
open Go.ChangeShapes Go.WideShapes Go.ChangeAt Go.RowKit

theorem said_HeldOrder (h : ∀ (p0 : Int) (p1 : (List UInt8)) (p2 : (List UInt8)), (okInt .u16) p0 → (okL okT) p1 → (okL okT) p2 → PureF Try.prog 6 [(D.int .u16) p0, (dl 1 byteD) p1, (dl 1 byteD) p2] (.bool true)) : Rows.HeldOrderSaid :=
  OpenClaim.holds_of_wide 6 Try.f6 rfl rfl rfl rfl rfl rfl rfl ⟨rfl, rfl, rfl, rfl, rfl⟩ rfl rfl rfl rfl rfl (by kernel_rfl) Try.func6 (by kernel_rfl)
    (of_decide_eq_true (by kernel_rfl)) (by unfold Func.isWrapper; first | (rw [if_pos (by decide +kernel)]; kernel_rfl) | (rw [if_neg (by decide +kernel)]; exact ⟨rfl, rfl⟩))
    (fun os started H enc _ => lift_HeldOrder h os started H enc)

theorem heldOrder_said : Rows.HeldOrderSaid := said_HeldOrder fun base sizes order hb hs ho => heldOrder base sizes order hb hs ho

end Go.Proofs.Ytkmlebnkmmkpmaa
