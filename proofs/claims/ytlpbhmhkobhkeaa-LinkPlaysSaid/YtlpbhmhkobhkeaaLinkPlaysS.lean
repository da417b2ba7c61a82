/- Whatever is done with a link, its messages come in order and from somewhere: of every input, of no condition. -/
import Derived.Test.YtlpbhmhkobhkeaaLinkP
namespace Go.Proofs.Ytlpbhmhkobhkeaa
set_option linter.all false
open Go.ChangeShapes Go.WideShapes Go.ChangeAt Go.RowKit

theorem said_LinkPlays (h : ∀ (p0 : (List GAct)) (p1 : UInt8), (okL GAct.ok) p0 → okT p1 → PureF Try.prog 8 [(dl 2 GAct.d) p0, byteD p1] (.bool true)) : Rows.LinkPlaysSaid :=
  OpenClaim.holds_of_wide 8 Try.f8 rfl rfl rfl rfl rfl rfl rfl ⟨rfl, rfl, rfl, rfl, rfl⟩ rfl rfl rfl rfl rfl (by kernel_rfl) Try.func8 (by kernel_rfl)
    (of_decide_eq_true (by kernel_rfl)) (by unfold Func.isWrapper; first | (rw [if_pos (by decide +kernel)]; kernel_rfl) | (rw [if_neg (by decide +kernel)]; exact ⟨rfl, rfl⟩))
    (fun os started H enc _ => lift_LinkPlays h os started H enc)

theorem linkPlays_said : Rows.LinkPlaysSaid := said_LinkPlays fun acts most ha _ => linkPlays acts most ha.1

end Go.Proofs.Ytlpbhmhkobhkeaa
