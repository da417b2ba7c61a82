/- The abstract operations are sound, ninth part: the copy, the conversions. Of no program. -/
import Derived.Test.YtbabdalfkmdlhaaA11
import Derived.Laws.BytesArg
namespace Go.Proofs.Ytbabdalfkmdlhaa
set_option linter.all false
section
variable {P : Program} {τ : Ty} {w : World} {S : Nat → Prop} {β : Bmap} {H : AHeap}

theorem copy_ok (hT : TyOk P τ) (hI : AInv w S β H) {ts : List TypeId} {ty : TypeId} {d s : D} {vd vs : Value} (hd : Rel w S β d vd) (hs : Rel w S β s vs) :
    OpOk P w S β H (Builtin.copy_ ts.toArray ty #[vd, vs]) (aCopy τ ts d s H) := by
  unfold aCopy
  split
  · rename_i t tr
    cases htd : (τ t).td <;> simp only <;> first | exact OpOk.bad | skip
    rename_i e
    cases d <;> (try simp only) <;> first | exact OpOk.bad | skip
    rename_i b o len sz
    split
    · rename_i cs xs n hb hel
      intro ho
      obtain ⟨o1, rfl, o2, o3⟩ := ho
      have hu := (hT t (by rw [htd]; rfl)).slice htd
      have hsz := (hT e o3).run_sizeOf w
      obtain ⟨hn, arr, hf, hr⟩ := elem_ok (P := P) hI hs hel (τ e).size (min n len) o1 (Nat.min_le_left _ _)
      have hml : min n len * (τ e).size ≤ n * (τ e).size := Nat.mul_le_mul_right _ (Nat.min_le_left _ _)
      have hml2 : min n len * (τ e).size ≤ len * (τ e).size := Nat.mul_le_mul_right _ (Nat.min_le_right _ _)
      have hfw := hf w rfl
      have hmax : min n len ≤ maxLen := by
        cases hd with
        | ref _ _ _ _ blk off cap g1 g2 g3 T m g4 g5 => omega
        | refEmpty => simp
      have hmin : Nat.min n len = min n len := rfl
      by_cases hz : (xs.take (min n len * (τ e).size)) = []
      · have harr : arr.toList = [] := List.eq_nil_of_length_eq_zero (by rw [hr.1, hz]; rfl)
        rw [hz]
        have e1 : splice cs o ([] : List D) = cs := by simp [splice]
        rw [e1, set_self hb]
        refine ⟨_, w, S, β, ?_, hI, Evo.refl _ _ _ _, goInt_rel hmax⟩
        cases hd with
        | ref _ _ _ _ blk off cap g1 g2 g3 T m g4 g5 => simp [Builtin.copy_, run_underlying hu, hn w, hsz, hmin, hfw, harr, storeCells]
        | refEmpty _ _ _ a =>
          have hfw0 : (Builtin.firstCells (τ e).size 0 vs).run P w = .ok arr w := by simpa using hfw
          cases a <;> simp [Builtin.copy_, run_underlying hu, hn w, hsz, hmin, hfw0, harr, storeCells]
      · cases hd with
        | refEmpty _ _ _ a => simp at hz
        | ref _ _ _ _ blk off cap g1 g2 g3 T m g4 g5 =>
          obtain ⟨w', h3, h4, h5⟩ := hI.write (P := P) hb g1 o (xs.take (min n len * (τ e).size)) arr.toList (.inr hz) hr.1 (by rw [List.length_take]; omega) hr.2
          refine ⟨_, w', S, β, ?_, h4, h5, goInt_rel hmax⟩
          simp [Builtin.copy_, run_underlying hu, hn w, hsz, hmin, hfw, h3]
    · exact OpOk.bad
  · exact OpOk.bad

theorem bytes_of (xs : List D) (vs : List Value) (h : RelCells w S β xs vs) (hb : xs.all isByte = true) : ∃ ns : List Int, vs = ns.map (Value.int .u8) ∧ xs = ns.map (D.int .u8) := by
  have conc : ∀ (xs : List D) (vs : List Value), vs.length = xs.length → (∀ (i : Nat) (d : D), xs[i]? = some d → ∃ v, vs[i]? = some v ∧ v.oneCell' = true ∧ Rel w S β d v) → xs.all isByte = true → ∃ ns : List Int, vs = ns.map (Value.int .u8) ∧ xs = ns.map (D.int .u8) := by
    intro xs
    induction xs with
    | nil => intro vs hl _ _; exact ⟨[], List.eq_nil_of_length_eq_zero (by simpa using hl), rfl⟩
    | cons x xs ih =>
      intro vs hl hr hb
      cases vs with
      | nil => simp at hl
      | cons v vs =>
        simp only [List.all_cons, Bool.and_eq_true] at hb
        obtain ⟨ns, h1, h2⟩ := ih vs (by simpa using hl) (fun i d hd => by simpa using hr (i + 1) d (by simpa using hd)) hb.2
        obtain ⟨v', h3, _, h4⟩ := hr 0 x rfl
        simp only [List.getElem?_cons_zero, Option.some.injEq] at h3
        subst h3
        cases x <;> simp [isByte] at hb
        rename_i k n
        cases k <;> simp at hb
        cases h4
        exact ⟨n :: ns, by rw [h1]; rfl, by rw [h2]; rfl⟩
  exact conc xs vs h.1 h.2 hb

theorem bytes_str {a : Addr} {len cap : Nat} (ds : List D) (hl : ds.length = len) (hlm : len ≤ maxLen) (hc : ∀ (j : Nat) (d : D), ds[j]? = some d → ∃ v, w.cell? (a.add j) = some v ∧ v.oneCell' = true ∧ Rel w S β d v) (hb : ds.all isByte = true) :
    ∃ v, (Conv.bytesToString (.slice (some a) len cap)).run P w = .ok v w ∧ Rel w S β (.str (ds.map unbyte)) v := by
  obtain ⟨arr, h1, h2⟩ := load_cells (P := P) ds a hc
  obtain ⟨ns, h3, h4⟩ := bytes_of ds arr.toList h2 hb
  have h5 : arr = (ns.map (Value.int .u8)).toArray := by rw [← h3]
  have h6 := run_bytesToString (P := P) w a len cap ns (by rw [← hl, h1 w rfl, h5])
  rw [foldl_push_bytes] at h6
  refine ⟨_, h6, ?_⟩
  subst h4
  have e : (ByteArray.empty.data ++ (ns.map fun n => UInt8.ofNat n.toNat).toArray) = ((ns.map (D.int .u8)).map unbyte).toArray := by
    apply Array.ext'
    simp [unbyte, Function.comp_def]
  rw [e]
  exact .str _ (by simp at hl ⊢; omega)

theorem conv_ok (hT : TyOk P τ) (hI : AInv w S β H) {src dst : TypeId} {slot : Nat} (hv : H[slot]? = some Blk.void ∨ ∀ e, (τ dst).td ≠ .slice e) {x : D} {v : Value} (hx : Rel w S β x v) :
    OpOk P w S β H (convert src dst v) (aConv τ src dst x slot H) := by
  unfold aConv
  cases htd : (τ dst).td <;> simp only <;> first | exact OpOk.bad | skip
  · -- to a number
    rename_i k
    have hu := (hT dst (by rw [htd]; rfl)).int htd
    cases hx <;> simp only <;> first | exact OpOk.bad | skip
    refine OpOk.same hI fun ho => ⟨_, ?_, Rel.wrapped k _⟩
    have h2 := (hT src ho).und
    cases hs : P.underlying src with
    | none => rw [hs] at h2; cases h2
    | some d => simp [convert, run_underlying hu, run_underlying hs, Conv.intToInt]
  · -- to a string
    have hu := (hT dst (by rw [htd]; rfl)).str htd
    cases x <;> (try simp only) <;> first | exact OpOk.bad | skip
    · refine OpOk.same hI fun ho => ⟨_, ?_, hx⟩
      have hs := (hT src (by rw [ho]; rfl)).str ho
      cases hx
      simp [convert, run_underlying hu, run_underlying hs]
    · refine OpOk.same hI fun ho => ?_
      obtain ⟨e, h1, h2⟩ := ho
      have hs := (hT src (by rw [h1]; rfl)).slice h1
      have he := (hT e (by rw [h2]; rfl)).int h2
      cases hx
      refine ⟨.string .empty, ?_, .str [] (by simp)⟩
      rw [run_convert_bytes_string w src dst e none 0 0 hs he hu]
      rfl
    · rename_i sz es tight
      refine OpOk.same hI fun ho => ?_
      obtain ⟨⟨e, h1, h2⟩, rfl, h3⟩ := ho
      have hs := (hT src (by rw [h1]; rfl)).slice h1
      have he := (hT e (by rw [h2]; rfl)).int h2
      cases hx with
      | slNone =>
        refine ⟨.string .empty, ?_, .str [] (by simp)⟩
        rw [run_convert_bytes_string w src dst e none 0 0 hs he hu]
        rfl
      | sl _ _ _ ad cap vf g1 g2 g3 g4 g5 g6 =>
        have one : ∀ e, e ∈ es → e.cells = [e] := fun e he => by
          have := List.all_eq_true.1 h3 e he
          cases e <;> simp [isByte] at this; rfl
        obtain ⟨u, k1, k2⟩ := bytes_str (P := P) (w := w) (S := S) (β := β) (a := ad) (len := es.length) (cap := cap) es rfl (by omega) (fun j d hd => by
          have hj := (List.getElem?_eq_some_iff.1 hd).1
          have := g5 j (by omega)
          refine ⟨vf j, this.2.1, this.2.2, ?_⟩
          have := g6 j d 0 d hd (by rw [one d (List.mem_of_getElem? hd)]; rfl)
          simpa using this) h3
        exact ⟨u, by rw [run_convert_bytes_string w src dst e _ _ _ hs he hu]; exact k1, k2⟩
    · rename_i b o len sz
      split
      · rename_i cs hcs
        refine OpOk.same hI fun ho => ?_
        obtain ⟨⟨e, h1, h2⟩, rfl, hfit, h3⟩ := ho
        have hs := (hT src (by rw [h1]; rfl)).slice h1
        have he := (hT e (by rw [h2]; rfl)).int h2
        cases hx with
        | refEmpty _ _ _ a =>
          have e0 : (((cs.drop o).take 0).map unbyte) = [] := by simp
          rw [e0]
          refine ⟨.string .empty, ?_, .str [] (by simp)⟩
          rw [run_convert_bytes_string w src dst e a 0 0 hs he hu]
          cases a <;> simp [Conv.bytesToString, loadCells, loadCellsFrom]
        | ref _ _ _ _ blk off cap g1 g2 g3 T m g4 g5 =>
          obtain ⟨u, k1, k2⟩ := bytes_str (P := P) (w := w) (S := S) (β := β) (a := ⟨blk, off + o, none⟩) (len := len) (cap := cap) ((cs.drop o).take len) (by simp; omega) (by omega) (fun j d hd => by
            rw [List.getElem?_take] at hd
            split at hd
            · rw [List.getElem?_drop] at hd
              obtain ⟨v, q1, q2, q3⟩ := hI.cellsAt hcs g1 (o + j) d hd
              exact ⟨v, by rw [addr_at, Nat.add_assoc]; exact q1, q2, q3⟩
            · cases hd) h3
          exact ⟨u, by rw [run_convert_bytes_string w src dst e _ _ _ hs he hu]; exact k1, k2⟩
      · exact OpOk.bad
  · -- to bytes
    rename_i e
    have hv := hv.resolve_right (fun h => h e htd)
    have hu := (hT dst (by rw [htd]; rfl)).slice htd
    cases hx <;> simp only <;> first | exact OpOk.bad | skip
    rename_i s hs
    intro ho
    obtain ⟨h1, h2, h3⟩ := ho
    have he := (hT e (by rw [h1]; rfl)).int h1
    have hss := (hT src (by rw [h3]; rfl)).str h3
    have hrun := Lib.run_convert_string_bytes (P := P) w src dst e ⟨⟨s⟩⟩ hss hu he
    have hsz : (⟨⟨s⟩⟩ : ByteArray).size = s.length := rfl
    have hlt : slot < H.length := (List.getElem?_eq_some_iff.1 hv).1
    have hβv := hI.void slot hv
    have hbk' : Bk (β.set slot (some (some (w.heap.size, 0)))) slot (some (w.heap.size, 0)) := by
      unfold Bk; exact List.getElem?_set_self (by rw [hI.len]; exact hlt)
    have hcells : (Lib.bytesCells w e ⟨⟨s⟩⟩).size = grownCap w s.length 0 e := by
      have := grownCap_ge w s.length 0 e
      simp [Lib.bytesCells, hsz]; omega
    have := hI.step (w' := Lib.bytesWorld w e ⟨⟨s⟩⟩) (β' := β.set slot (some (some (w.heap.size, 0)))) (H1 := H) slot w.heap.size 0 _ e _ (s.map byteD) rfl rfl (by rw [Lib.bytesWorld_size]; omega)
      (fun b hb _ => Lib.bytesWorld_at_old w e _ b hb)
      (fun b y h => by
        have hb : b < w.heap.size := by
          unfold World.shape? at h
          rcases Nat.lt_or_ge b w.heap.size with h' | h'
          · exact h'
          · simp [Array.getElem?_eq_none h'] at h
        unfold World.shape? at h ⊢
        rw [Lib.bytesWorld_at_old w e _ b hb]; exact h)
      (.inl (Nat.le_refl _)) (Lib.bytesWorld_at_new w e _) (.inr (Nat.le_refl _)) rfl hlt
      (fun b' c hne hl => ⟨hl, fun off' hk => by
        rcases hI.live b' c hl with ⟨_, h⟩ | ⟨b0, o, vs0, T0, fr0, h3, _, _, h6⟩
        · unfold Bk at *; rw [hk] at h; cases h
        · unfold Bk at *; rw [hk] at h3; cases h3
          have := (Array.getElem?_eq_some_iff.1 h6.heap).1
          omega⟩)
      (fun _ _ _ h => h) (fun _ _ h => h) (by simp) (fun b' hne => List.getElem?_set_ne (Ne.symm hne)) hbk'
      (fun x h => by unfold Bk at h; rw [hβv] at h; cases h)
      (fun i d hd => by
        simp only [List.getElem?_map, Option.map_eq_some_iff] at hd
        obtain ⟨b, hb, rfl⟩ := hd
        have hi := (List.getElem?_eq_some_iff.1 hb).1
        refine ⟨.int .u8 b.toNat, ?_, rfl, byteD_rel b⟩
        simp only [Nat.zero_add, Lib.bytesCells]
        rw [Array.getElem?_append_left (by simpa using hi)]
        simp [hb])
    refine ⟨_, _, S, _, hrun, this.1, this.2, ?_⟩
    have hr := Rel.ref (w := Lib.bytesWorld w e ⟨⟨s⟩⟩) (S := S) (β := β.set slot (some (some (w.heap.size, 0)))) slot 0 s.length 1 w.heap.size 0 (grownCap w s.length 0 e) hbk' (grownCap_ge w _ 0 e) (grownCap_le_maxLen w _ 0 e hs) e (grownCap w s.length 0 e)
      (by unfold World.shape?; rw [Lib.bytesWorld_at_new]; simp [hcells]) (by omega)
    exact hr

end
end Go.Proofs.Ytbabdalfkmdlhaa
