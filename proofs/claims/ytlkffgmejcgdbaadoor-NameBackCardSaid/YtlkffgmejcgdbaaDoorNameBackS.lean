/- Each offset's names are its own, and rise as offsets do: of every input; the card's package-level variables hold what the program's text lays. -/
import Derived.Test.YtlkffgmejcgdbaaDoorNameL
namespace Go.Proofs.YtlkffgmejcgdbaaDoor
set_option linter.all false
-- bundled
open Go.ChangeShapes Go.WideShapes Go.ChangeAt Go.RowKit

set_option maxRecDepth 100000
theorem lift_NameBack (os : Os) (started : os.Started) (H : Type) (enc : TypeId × Value → H) :
    ReturnsInHanded {} Tryd.checked os 4 .any (fun w args => (Rows.nameBackSpec.pre enc Tryd.prog Tryd.f4 [] false w args ∧ laidMetH Tryd.prog laidAll w) ∧ sizedMet enc Tryd.prog Tryd.f4 (OpenSpec.ofChange Rows.nameBackSpec) false w args)
      (Rows.nameBackSpec.post enc Tryd.prog Tryd.f4 false true false false) :=
  liftedL (C := Tryd.checked) (τ := ty) (t := 4) (X := fun w _ => laidMetH Tryd.prog laidAll w) 16 (fun _ _ _ hh h => h.of_heap hh) Tryd.own started (by kernel_rfl) Tryd.func4
    (ChangeSpec.witness_shaped (enc := enc) (C := Tryd.checked) (os := os) (X := fun w _ => laidMetH Tryd.prog laidAll w) false (World.doorLaid Tryd.prog 400 os) #[.int .i64 0, .int .i64 0] 8 rfl (World.shaped_of_RefB (by kernel_rfl) (by kernel_rfl)) (by kernel_rfl) (by kernel_rfl) (by kernel_rfl) (door_met os _))
    (fun w _ h => gl_of_laid h) tyOk Tryd.laidOut (by kernel_rfl) (by kernel_rfl) rfl (fun ds hd => by
      match ds, hd with
      | [_, _], _ => rfl) rfl Tryd.underlying4 (fun Ds hDs => by
      obtain ⟨p0, p1, ⟨k0, k1⟩, rfl⟩ := args_NameBack hDs
      exact nameBack p0 p1 k0 k1)

theorem nameBack_row : Rows.NameBackSaid :=
  OpenClaim.holds_of_wide 4 Tryd.f4 rfl rfl rfl rfl rfl rfl rfl ⟨rfl, rfl, rfl, rfl, rfl⟩ rfl rfl rfl rfl rfl (by kernel_rfl) Tryd.func4 (by kernel_rfl)
    (of_decide_eq_true (by kernel_rfl)) (by unfold Func.isWrapper; first | (rw [if_pos (by decide +kernel)]; kernel_rfl) | (rw [if_neg (by decide +kernel)]; exact ⟨rfl, rfl⟩))
    (fun os started H enc _ => lift_NameBack os started H enc)

theorem nameBack_said : Rows.NameBackCardSaid :=
  Claim7.holds_tied_plain_at .later [] [.data, .data, .data, .sentinel, .sentinel] true (true, "c6c6d623c2cc8927c9bcb55eb4d197989d5f3dc2953ecc4a21f3d53b50a322a8") true
    nameBack_row (fun _ h => by cases h) (by kernel_rfl) (fun _ h => by cases h) nameBack_row_tie rfl ⟨rfl, rfl⟩ (by kernel_rfl) rfl
    (fun f fn hf hfn => by
      obtain rfl : f = 4 := Option.some.inj ((show Tryd.prog.funcNamed "wagoner/wagonerlaw07.NameBack" = some 4 by kernel_rfl).symm.trans hf) |>.symm
      obtain rfl : fn = Tryd.f4 := (Option.some.inj (Tryd.func4.symm.trans hfn)).symm
      exact ⟨by kernel_rfl, fun j t ht => by
        rw [Tryd.params4] at ht
        have hm : t ∈ [3, 3] := by simpa using Array.mem_of_getElem? ht
        have hall : ([3, 3].all fun u => !Tryd.prog.wantsStandIn u) = true := by kernel_rfl
        exact (show Tryd.prog.wantsStandIn t = false by simpa using List.all_eq_true.1 hall t hm)⟩)
    (by kernel_rfl)

end Go.Proofs.YtlkffgmejcgdbaaDoor
