/- Operations that may be written come back; a text that is read whole is what is written of them; cut off, what is left of it is a beginning of them: of every input, of no condition. -/
import Derived.Test.YtbabdalfkmdlhaaScrX
namespace Go.Proofs.Ytbabdalfkmdlhaa
set_option linter.all false
-- bundled
open Go.ChangeShapes Go.WideShapes Go.ChangeAt Go.RowKit

theorem said_ScriptBack (h : ∀ (p0 : (List GOp)) (p1 : (List UInt8)) (p2 : Int), (okL GOp.ok) p0 → okStr p1 → (okInt .u16) p2 → PureF Try.prog 13 [(dl 6 GOp.d) p0, D.str p1, (D.int .u16) p2] (.bool true)) : Rows.ScriptBackSaid :=
  OpenClaim.holds_of_wide 13 Try.f13 rfl rfl rfl rfl rfl rfl rfl ⟨rfl, rfl, rfl, rfl, rfl⟩ rfl rfl rfl rfl rfl (by kernel_rfl) Try.func13 (by kernel_rfl)
    (of_decide_eq_true (by kernel_rfl)) (by unfold Func.isWrapper; first | (rw [if_pos (by decide +kernel)]; kernel_rfl) | (rw [if_neg (by decide +kernel)]; exact ⟨rfl, rfl⟩))
    (fun os started H enc _ => lift_ScriptBack h os started H enc)

theorem scriptBack_said : Rows.ScriptBackSaid := said_ScriptBack fun l s cut hl hs hc => by
  obtain ⟨c, rfl⟩ : ∃ c : Nat, cut = c := ⟨cut.toNat, by have := hc.1; rw [min_u16] at this; omega⟩
  have hc2 := hc.2
  rw [max_u16] at hc2
  exact scriptBack l s c hl hs (by omega)

end Go.Proofs.Ytbabdalfkmdlhaa
