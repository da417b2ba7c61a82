/- A text that is a name is that one's: of every input; the card's package-level variables hold what the program's text lays. -/
import Derived.Test.YtlkffgmejcgdbaaDoorNameL
namespace Go.Proofs.YtlkffgmejcgdbaaDoor
set_option linter.all false
-- bundled
open Go.ChangeShapes Go.WideShapes Go.ChangeAt Go.RowKit

set_option maxRecDepth 100000
theorem lift_NameOnce (os : Os) (started : os.Started) (H : Type) (enc : TypeId × Value → H) :
    ReturnsInHanded {} Tryd.checked os 5 .any (fun w args => (Rows.nameOnceSpec.pre enc Tryd.prog Tryd.f5 [] false w args ∧ laidMetH Tryd.prog laidAll w) ∧ sizedMet enc Tryd.prog Tryd.f5 (OpenSpec.ofChange Rows.nameOnceSpec) false w args)
      (Rows.nameOnceSpec.post enc Tryd.prog Tryd.f5 false true false false) :=
  liftedL (C := Tryd.checked) (τ := ty) (t := 4) (X := fun w _ => laidMetH Tryd.prog laidAll w) 16 (fun _ _ _ hh h => h.of_heap hh) Tryd.own started (by kernel_rfl) Tryd.func5
    (ChangeSpec.witness_shaped (enc := enc) (C := Tryd.checked) (os := os) (X := fun w _ => laidMetH Tryd.prog laidAll w) false (World.doorLaid Tryd.prog 400 os) #[.string ⟨#[]⟩] 8 rfl (World.shaped_of_RefB (by kernel_rfl) (by kernel_rfl)) (by kernel_rfl) (by kernel_rfl) (by kernel_rfl) (door_met os _))
    (fun w _ h => gl_of_laid h) tyOk Tryd.laidOut (by kernel_rfl) (by kernel_rfl) rfl (fun ds hd => by
      match ds, hd with
      | [_], _ => rfl) rfl Tryd.underlying4 (fun Ds hDs => by
      obtain ⟨p0, k0, rfl⟩ := args_NameOnce hDs
      exact nameOnce p0 k0)

theorem nameOnce_row : Rows.NameOnceSaid :=
  OpenClaim.holds_of_wide 5 Tryd.f5 rfl rfl rfl rfl rfl rfl rfl ⟨rfl, rfl, rfl, rfl, rfl⟩ rfl rfl rfl rfl rfl (by kernel_rfl) Tryd.func5 (by kernel_rfl)
    (of_decide_eq_true (by kernel_rfl)) (by unfold Func.isWrapper; first | (rw [if_pos (by decide +kernel)]; kernel_rfl) | (rw [if_neg (by decide +kernel)]; exact ⟨rfl, rfl⟩))
    (fun os started H enc _ => lift_NameOnce os started H enc)

theorem nameOnce_said : Rows.NameOnceCardSaid :=
  Claim7.holds_tied_plain_at .later [] [.data, .data, .data, .sentinel, .sentinel] true (true, "c6c6d623c2cc8927c9bcb55eb4d197989d5f3dc2953ecc4a21f3d53b50a322a8") true
    nameOnce_row (fun _ h => by cases h) (by kernel_rfl) (fun _ h => by cases h) nameOnce_row_tie rfl ⟨rfl, rfl⟩ (by kernel_rfl) rfl
    (fun f fn hf hfn => by
      obtain rfl : f = 5 := Option.some.inj ((show Tryd.prog.funcNamed "wagoner/wagonerlaw07.NameOnce" = some 5 by kernel_rfl).symm.trans hf) |>.symm
      obtain rfl : fn = Tryd.f5 := (Option.some.inj (Tryd.func5.symm.trans hfn)).symm
      exact ⟨by kernel_rfl, fun j t ht => by
        rw [Tryd.params5] at ht
        have hm : t ∈ [9] := by simpa using Array.mem_of_getElem? ht
        have hall : ([9].all fun u => !Tryd.prog.wantsStandIn u) = true := by kernel_rfl
        exact (show Tryd.prog.wantsStandIn t = false by simpa using List.all_eq_true.1 hall t hm)⟩)
    (by kernel_rfl)

end Go.Proofs.YtlkffgmejcgdbaaDoor
