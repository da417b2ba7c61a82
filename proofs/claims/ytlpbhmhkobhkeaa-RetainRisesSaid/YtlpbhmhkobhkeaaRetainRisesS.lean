/- Where more may be kept no more segments go, and of what is left none go: of every input, of no condition. -/
import Derived.Test.YtlpbhmhkobhkeaaRetainL
namespace Go.Proofs.Ytlpbhmhkobhkeaa
set_option linter.all false
open Go.ChangeShapes Go.WideShapes Go.ChangeAt Go.RowKit

theorem said_RetainRises (h : ∀ (p0 : GMore), GMore.ok p0 → PureF Try.prog 6 [GMore.d p0] (.bool true)) : Rows.RetainRisesSaid :=
  OpenClaim.holds_of_wide 6 Try.f6 rfl rfl rfl rfl rfl rfl rfl ⟨rfl, rfl, rfl, rfl, rfl⟩ rfl rfl rfl rfl rfl (by kernel_rfl) Try.func6 (by kernel_rfl)
    (of_decide_eq_true (by kernel_rfl)) (by unfold Func.isWrapper; first | (rw [if_pos (by decide +kernel)]; kernel_rfl) | (rw [if_neg (by decide +kernel)]; exact ⟨rfl, rfl⟩))
    (fun os started H enc _ => lift_RetainRises h os started H enc)

theorem retainRises_said : Rows.RetainRisesSaid := said_RetainRises fun p hp => retainRises p hp

end Go.Proofs.Ytlpbhmhkobhkeaa
