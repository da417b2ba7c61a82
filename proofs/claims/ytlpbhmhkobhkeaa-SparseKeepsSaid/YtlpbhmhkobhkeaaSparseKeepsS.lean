/- Of records in a row one of every so many is kept, and for each the mark that is found is less than so many behind: of every input, of no condition. -/
import Derived.Test.YtlpbhmhkobhkeaaSparseK
namespace Go.Proofs.Ytlpbhmhkobhkeaa
set_option linter.all false
open Go.ChangeShapes Go.WideShapes Go.ChangeAt Go.RowKit

theorem said_SparseKeeps (h : ∀ (p0 : Int) (p1 : UInt8) (p2 : (List UInt8)), (okInt .u16) p0 → okT p1 → (okL okT) p2 → PureF Try.prog 13 [(D.int .u16) p0, byteD p1, (dl 1 byteD) p2] (.bool true)) : Rows.SparseKeepsSaid :=
  OpenClaim.holds_of_wide 13 Try.f13 rfl rfl rfl rfl rfl rfl rfl ⟨rfl, rfl, rfl, rfl, rfl⟩ rfl rfl rfl rfl rfl (by kernel_rfl) Try.func13 (by kernel_rfl)
    (of_decide_eq_true (by kernel_rfl)) (by unfold Func.isWrapper; first | (rw [if_pos (by decide +kernel)]; kernel_rfl) | (rw [if_neg (by decide +kernel)]; exact ⟨rfl, rfl⟩))
    (fun os started H enc _ => lift_SparseKeeps h os started H enc)

theorem sparseKeeps_said : Rows.SparseKeepsSaid := said_SparseKeeps fun base every sizes hb _ hs => by
  obtain ⟨b, rfl⟩ : ∃ b : Nat, base = b := ⟨base.toNat, by have := hb.1; rw [min_u16] at this; omega⟩
  have := hb.2
  rw [max_u16] at this
  exact sparseKeeps b every sizes (by omega) hs.1

end Go.Proofs.Ytlpbhmhkobhkeaa
