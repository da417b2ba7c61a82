/- The abstract operations are sound, fifth part: stores, new blocks. Of no program. -/
import Derived.Test.YtbabdalfkmdlhaaA7
namespace Go.Proofs.Ytbabdalfkmdlhaa
set_option linter.all false

theorem splice_get {α : Type} (cs : List α) (o : Nat) (vs : List α) (h : o + vs.length ≤ cs.length) (i : Nat) :
    (splice cs o vs)[i]? = if i < o then cs[i]? else if i < o + vs.length then vs[i - o]? else cs[i]? := by
  unfold splice
  have hl : (cs.take o).length = o := by simp; omega
  by_cases h1 : i < o
  · rw [if_pos h1, List.append_assoc, List.getElem?_append_left (by omega), List.getElem?_take_of_lt h1]
  · rw [if_neg h1]
    by_cases h2 : i < o + vs.length
    · rw [if_pos h2, List.append_assoc, List.getElem?_append_right (by omega), hl, List.getElem?_append_left (by omega)]
    · rw [if_neg h2, List.getElem?_append_right (by simp; omega), List.getElem?_drop]
      congr 1
      simp
      omega

theorem set_self {α : Type} {l : List α} {i : Nat} {x : α} (h : l[i]? = some x) : l.set i x = l := by
  apply List.ext_getElem?
  intro j
  rw [List.getElem?_set]
  split
  · rename_i e; subst e
    split
    · exact h.symm
    · rename_i hj; rw [List.getElem?_eq_none (by omega)]
  · rfl

theorem splice_length {α : Type} (cs : List α) (o : Nat) (vs : List α) (h : o + vs.length ≤ cs.length) : (splice cs o vs).length = cs.length := by
  simp [splice]
  omega

theorem run_storeCells_any (P : Program) (g o : Nat) (t : TypeId) (fz : Nat × Nat) : ∀ (vs : List Value) (i : Nat) (cur : Array Value) (w : World), w.heap[g]? = some (.cells cur t fz) → (fz.2 ≤ fz.1 ∨ cur.size ≤ fz.1) → o + i + vs.length ≤ cur.size → (∀ v ∈ vs, v.oneCell' = true) →
    (storeCells ⟨g, o, none⟩ vs i).run P w = .ok () (w.setRow g (splice cur.toList (o + i) vs).toArray)
  | [], i, cur, w, hg, _, _, _ => by
    simp only [splice, storeCells, List.append_nil, List.length_nil, Nat.add_zero, List.take_append_drop, Array.toArray_toList]
    rw [setRow_self w g cur t fz hg]
    rfl
  | v :: rest, i, cur, w, hg, hfz, hl, h1 => by
    have hi : o + i < cur.size := by simp at hl; omega
    have hadd : (⟨g, o, none⟩ : Addr).add i = ⟨g, o + i, none⟩ := addr_at g o i
    have hcell : w.cell? ⟨g, o + i, none⟩ = some cur[o + i] := by simp [World.cell?, hg, hi]
    have hfro : w.frozen? ⟨g, o + i, none⟩ = false := by
      obtain ⟨lo, hi'⟩ := fz
      simp only [World.frozen?, hg, Bool.and_eq_false_iff, decide_eq_false_iff_not]
      simp only at hfz
      omega
    have hst : (store ((⟨g, o, none⟩ : Addr).add i) v).run P w = .ok () (w.setRow g (cur.setIfInBounds (o + i) v)) := by
      rw [hadd, run_store P w _ v _ (h1 v (by simp)), hcell]
      simp [hfro, setCell_eq_setRow w g (o + i) cur t fz v hg]
    have ih := run_storeCells_any P g o t fz rest (i + 1) (cur.setIfInBounds (o + i) v) (w.setRow g (cur.setIfInBounds (o + i) v)) (setRow_heap w g cur _ t _ hg) (by simpa using hfz) (by simp at hl ⊢; omega) (fun x hx => h1 x (by simp [hx]))
    simp only [storeCells, Sem.run_bind, hst, Result.andThen_ok, ih, setRow_setRow]
    congr 3
    have e := list_seg_step cur.toList (o + i) v rest (by simp at hl ⊢; omega)
    simpa [splice, Array.toList_setIfInBounds, Nat.add_assoc] using e

section
variable {P : Program} {τ : Ty} {w : World} {S : Nat → Prop} {β : Bmap} {H : AHeap}

theorem AInv.lt (hI : AInv w S β H) {b : Nat} {x : Option (Nat × Nat)} (h : Bk β b x) : b < H.length := by
  rw [← hI.len]; exact (List.getElem?_eq_some_iff.1 h).1

theorem set_none_of_void (hI : AInv w S β H) {slot : Nat} (h : H[slot]? = some Blk.void) : β[slot]? = some none := hI.void slot h

/-- Cells written into a block of one's own. -/
theorem AInv.write (hI : AInv w S β H) {b : Nat} {cs : List D} (hb : H[b]? = some (.live cs)) {blk off : Nat} (hk : Bk β b (some (blk, off))) (o : Nat) (ds : List D) (us : List Value) (hne : cs ≠ [] ∨ ds ≠ [] )
    (hlen : us.length = ds.length) (hfit : o + ds.length ≤ cs.length) (hrel : ∀ (i : Nat) (d : D), ds[i]? = some d → ∃ u, us[i]? = some u ∧ u.oneCell' = true ∧ Rel w S β d u) :
    ∃ w', (storeCells ⟨blk, off + o, none⟩ us).run P w = .ok () w' ∧ AInv w' S β (H.set b (.live (splice cs o ds))) ∧ Evo w S β H w' S β (H.set b (.live (splice cs o ds))) := by
  rcases hI.live b cs hb with ⟨rfl, hn⟩ | ⟨b1, o1, vs, T, fr, h1, h2, h3, h4⟩
  · unfold Bk at hk hn; rw [hk] at hn; cases hn
  · have e : b1 = blk ∧ o1 = off := by unfold Bk at hk h1; rw [hk] at h1; cases h1; exact ⟨rfl, rfl⟩
    obtain ⟨rfl, rfl⟩ := e
    have hcl : cs.length ≠ 0 → o1 + cs.length ≤ vs.size := fun hz => by
      obtain ⟨v, hv, _⟩ := h4.cell (cs.length - 1) _ (List.getElem?_eq_getElem (by omega))
      have := (Array.getElem?_eq_some_iff.1 hv).1
      omega
    have hcs : cs.length ≠ 0 := by
      intro hz
      rcases hne with h | h
      · exact h (List.eq_nil_of_length_eq_zero hz)
      · apply h; apply List.eq_nil_of_length_eq_zero; omega
    have hcl' := hcl hcs
    have hone : ∀ v ∈ us, v.oneCell' = true := fun v hv => by
      obtain ⟨i, hi, hv⟩ := List.mem_iff_getElem.1 hv
      obtain ⟨u, h5, h6, _⟩ := hrel i _ (List.getElem?_eq_getElem (by omega))
      rw [List.getElem?_eq_getElem hi] at h5
      cases h5; rw [← hv]; exact h6
    have hrun := run_storeCells_any P b1 (o1 + o) T fr us 0 vs w h4.heap h3 (by omega) hone
    refine ⟨_, hrun, ?_⟩
    have hblt : b < H.length := hI.lt hk
    have hsl : (splice vs.toList (o1 + o) us).length = vs.size := by rw [splice_length _ _ _ (by simp; omega)]; simp
    have hset : (H.set b .dead).set b (.live (splice cs o ds)) = H.set b (.live (splice cs o ds)) := by rw [List.set_set]
    rw [← hset]
    simp only [Nat.add_zero]
    refine hI.step (w' := w.setRow b1 (splice vs.toList (o1 + o) us).toArray) (β' := β) (H1 := H.set b .dead) b b1 o1 (splice vs.toList (o1 + o) us).toArray T fr (splice cs o ds) rfl rfl (by simp)
      (fun k _ hne => setRow_other w b1 k _ hne) (fun k x hx => ?_) (.inr ⟨b, cs, o1, hb, hk⟩) (setRow_heap w b1 vs _ T fr h4.heap) ?_ (by simp) hblt
      (fun b' c hne hl => ?_) (fun b' c hne hl => ?_) (fun b' hne hl => ?_) rfl (fun _ _ => rfl) hk (fun _ h => h) (fun i d hd => ?_)
    · by_cases hkb : k = b1
      · subst hkb
        simp only [World.shape?, h4.heap, setRow_heap w k vs _ T fr h4.heap] at hx ⊢
        simpa [hsl] using hx
      · simp only [World.shape?, setRow_other w b1 k _ hkb] at hx ⊢
        exact hx
    · simpa [hsl] using h3
    · rw [List.getElem?_set_ne (Ne.symm hne)] at hl
      refine ⟨hl, fun off' hk' => hne (hI.apart b' b c cs b1 off' o1 hl hb hk' hk)⟩
    · rwa [List.getElem?_set_ne (Ne.symm hne)] at hl
    · rwa [List.getElem?_set_ne (Ne.symm hne)] at hl
    · rw [splice_get cs o ds hfit] at hd
      simp only [List.getElem?_toArray]
      rw [splice_get vs.toList (o1 + o) us (by simp; omega)]
      by_cases c1 : i < o
      · rw [if_pos c1] at hd
        rw [if_pos (by omega)]
        obtain ⟨v, hv, hr⟩ := h4.cell i d hd
        exact ⟨v, by simpa using hv, h4.one i v (List.getElem?_eq_some_iff.1 hd).1 hv, hr⟩
      · rw [if_neg c1] at hd
        by_cases c2 : i < o + ds.length
        · rw [if_pos c2] at hd
          rw [if_neg (by omega), if_pos (by omega)]
          obtain ⟨u, h5, h6, h7⟩ := hrel _ d hd
          exact ⟨u, by rw [show o1 + i - (o1 + o) = i - o by omega]; exact h5, h6, h7⟩
        · rw [if_neg c2] at hd
          rw [if_neg (by omega), if_neg (by omega)]
          obtain ⟨v, hv, hr⟩ := h4.cell i d hd
          exact ⟨v, by simpa using hv, h4.one i v (List.getElem?_eq_some_iff.1 hd).1 hv, hr⟩

theorem AInv.voidEmpty (hI : AInv w S β H) (slot : Nat) (hv : H[slot]? = some Blk.void) (H1 : AHeap) (hH1 : H1 = H ∨ ∃ b, b ≠ slot ∧ H1 = H.set b .dead) :
    ∃ β', AInv w S β' (H1.set slot (.live [])) ∧ Evo w S β H w S β' (H1.set slot (.live [])) := by
  have hlt : slot < H.length := (List.getElem?_eq_some_iff.1 hv).1
  have hβv := hI.void slot hv
  have hbk : ∀ b x, Bk β b x → Bk (β.set slot (some none)) b x := fun b x h => by
    unfold Bk at *
    by_cases hb : b = slot
    · subst hb; rw [hβv] at h; cases h
    · rw [List.getElem?_set_ne (Ne.symm hb)]; exact h
  have hlen : H1.length = H.length := by rcases hH1 with rfl | ⟨b, _, rfl⟩ <;> simp
  have hget : ∀ (b' : Nat) (x : Blk), b' ≠ slot → (H1.set slot (.live []))[b']? = some x → x = Blk.dead ∨ H[b']? = some x := fun b' x hb h => by
    rw [List.getElem?_set_ne (Ne.symm hb)] at h
    rcases hH1 with rfl | ⟨b, _, rfl⟩
    · exact .inr h
    · by_cases e : b = b'
      · subst e
        by_cases hl : b < H.length
        · rw [List.getElem?_set_self hl] at h; cases h; exact .inl rfl
        · rw [List.set_eq_of_length_le (by omega)] at h; exact .inr h
      · rw [List.getElem?_set_ne e] at h; exact .inr h
  have hgets : (H1.set slot (.live []))[slot]? = some (.live []) := List.getElem?_set_self (by omega)
  have keep : ∀ {d v}, Rel w S β d v → Rel w S (β.set slot (some none)) d v := fun h => h.keep (fun _ _ => rfl) (fun _ h => h) hbk (fun _ _ h => h)
  have lies : ∀ {cs b0 o1 vs0 T0 fr0}, Lies w S β cs b0 o1 vs0 T0 fr0 → Lies w S (β.set slot (some none)) cs b0 o1 vs0 T0 fr0 := fun h =>
    ⟨h.heap, h.one, fun i d hd => let ⟨v, h1, h2⟩ := h.cell i d hd; ⟨v, h1, keep h2⟩⟩
  have hother : ∀ b', b' ≠ slot → (β.set slot (some none))[b']? = β[b']? := fun b' hb => List.getElem?_set_ne (Ne.symm hb)
  have hself : (β.set slot (some none))[slot]? = some (some none) := List.getElem?_set_self (by rw [hI.len]; exact hlt)
  refine ⟨β.set slot (some none), ⟨by simp [hlen, hI.len], fun b cs h => ?_, fun b cs h => ?_, fun b b' cs cs' blk off off' h h' k k' => ?_, hI.old, fun b h => ?_⟩,
    ⟨rfl, rfl, Nat.le_refl _, fun _ _ _ => rfl, fun _ _ h => h, fun _ h => h, hbk, fun _ h => .inl h, ?_⟩⟩
  · by_cases hb : b = slot
    · subst hb; rw [hgets] at h; cases h
      exact .inl ⟨rfl, hself⟩
    · rcases hget b _ hb h with h | h
      · cases h
      · rcases hI.live b cs h with ⟨h1, h2⟩ | ⟨b0, o, vs0, T0, fr0, h3, h4, h5, h6⟩
        · exact .inl ⟨h1, hbk _ _ h2⟩
        · exact .inr ⟨b0, o, vs0, T0, fr0, hbk _ _ h3, h4, h5, lies h6⟩
  · by_cases hb : b = slot
    · subst hb; rw [hgets] at h; cases h
    · rcases hget b _ hb h with h | h
      · cases h
      · rcases hI.froz b cs h with ⟨h1, h2⟩ | ⟨b0, o, vs0, T0, fr0, h3, h4, h6⟩
        · exact .inl ⟨h1, hbk _ _ h2⟩
        · exact .inr ⟨b0, o, vs0, T0, fr0, hbk _ _ h3, h4, lies h6⟩
  · have hb : b ≠ slot := fun e => by subst e; unfold Bk at k; rw [hself] at k; cases k
    have hb' : b' ≠ slot := fun e => by subst e; unfold Bk at k'; rw [hself] at k'; cases k'
    unfold Bk at k k'
    rw [hother b hb] at k
    rw [hother b' hb'] at k'
    rcases hget b _ hb h with h | h
    · cases h
    rcases hget b' _ hb' h' with h' | h'
    · cases h'
    exact hI.apart b b' cs cs' blk off off' h h' k k'
  · by_cases hb : b = slot
    · subst hb; rw [hgets] at h; cases h
    · rcases hget b _ hb h with h | h
      · cases h
      · rw [hother b hb]; exact hI.void b h
  · rintro b ⟨i, cs, o, h, k⟩
    have hb : i ≠ slot := fun e => by subst e; unfold Bk at k; rw [hself] at k; cases k
    unfold Bk at k
    rw [hother i hb] at k
    rcases hget i _ hb h with h | h
    · cases h
    · exact .inl ⟨i, cs, o, h, k⟩

theorem store_ok (hT : TyOk P τ) (hI : AInv w S β H) {t : TypeId} {x d : D} {v u : Value} (hx : Rel w S β x v) (hd : Rel w S β d u) (ho : (aStore τ t x d H).ob) :
    ∃ w', (Instr.storeAt t v u).run P w = .ok () w' ∧ AInv w' S β (aStore τ t x d H).H ∧ Evo w S β H w' S β (aStore τ t x d H).H := by
  cases hx with
  | ptr b o blk off hk =>
    cases hb : H[b]? with
    | none => simp [aStore, hb, bad] at ho
    | some bl =>
      cases bl with
      | live cs =>
        simp only [aStore, hb] at ho ⊢
        obtain ⟨hkn, hl, h1, hfit⟩ := ho
        obtain ⟨hs, hr⟩ := hd.cells_of h1
        have ht := hT t hkn
        by_cases hz : d.cells = []
        · rw [hz] at hl hs hfit ⊢
          have hu0 : u.cells = #[] := Array.eq_empty_of_size_eq_zero (by simpa using hs)
          have e : splice cs o ([] : List D) = cs := by simp [splice]
          rw [e]
          have e2 : H.set b (.live cs) = H := set_self hb
          rw [e2]
          refine ⟨w, ?_, hI, Evo.refl _ _ _ _⟩
          simp only [List.length_nil] at hl
          simp [Instr.storeAt, Instr.sureAddr, storeVar, ht.run_sizeOf, hu0, ← hl, storeCells]
        · obtain ⟨w', h3, h4, h5⟩ := hI.write (P := P) hb hk o d.cells u.cells.toList (.inr hz) (by simpa using hs) hfit (fun i d hd => by
            obtain ⟨u', h6, h7, h8⟩ := hr i d hd
            exact ⟨u', by simpa using h6, h7, h8⟩)
          refine ⟨w', ?_, h4, h5⟩
          have hsz : u.cells.size = (τ t).size := by rw [hs, hl]
          simp [Instr.storeAt, Instr.sureAddr, storeVar, ht.run_sizeOf, hsz, h3]
      | _ => simp [aStore, hb, bad] at ho
  | _ => simp [aStore, bad] at ho

theorem newVar_ok (hI : AInv w S β H) (t : TypeId) {d : D} {u : Value} (hd : Rel w S β d u) (h1 : d.cells.all D.one = true) {slot : Nat} (hv : H[slot]? = some Blk.void) :
    ∃ a w' β', (newVar t u).run P w = .ok a w' ∧ AInv w' S β' (H.set slot (.live d.cells)) ∧ Evo w S β H w' S β' (H.set slot (.live d.cells)) ∧ Rel w' S β' (.ptr slot 0) (.pointer (some a)) := by
  obtain ⟨hs, hr⟩ := hd.cells_of h1
  obtain ⟨β', h3, h4, h5⟩ := hI.alloc slot hv u.cells t d.cells (fun i d hd => hr i d hd)
  exact ⟨⟨w.heap.size, 0, none⟩, _, β', by simp [newVar, newRow], h3, h4, .ptr slot 0 w.heap.size 0 h5⟩

theorem ofVal_ones {v : Value} (h : okVal v = true) : (ofVal v).cells.all D.one = true := by
  have one : ∀ u, okCell u = true → (ofVal u).one = true ∧ (ofVal u).cells = [ofVal u] := fun u hu => by
    cases u with
    | pointer a => cases a <;> simp [okCell] at hu; simp [ofVal, D.one, D.cells]
    | slice a l c => cases a <;> simp [okCell] at hu; simp [ofVal, D.one, D.cells]
    | _ => first | (simp [okCell] at hu; done) | simp [ofVal, D.one, D.cells]
  cases v with
  | agg cs =>
    simp only [okVal, List.all_eq_true] at h
    simp only [ofVal, ofVals_eq, D.cells, List.all_eq_true, List.mem_map]
    rintro _ ⟨u, hu, rfl⟩
    exact (one u (h u hu)).1
  | _ =>
    have h' := one _ (by simpa [okVal] using h)
    rw [h'.2]
    simpa using h'.1

theorem alloc_ok (hT : TyOk P τ) (hI : AInv w S β H) {t : TypeId} {slot : Nat} (hv : H[slot]? = some Blk.void) : OpOk P w S β H (Instr.alloc t true (.tuple #[])) (aAlloc τ t slot H) := by
  intro ho
  obtain ⟨hk, ho⟩ := ho
  have ht := hT t hk
  obtain ⟨a, w', β', h1, h2, h3, h4⟩ := newVar_ok (P := P) hI t (ofVal_rel w S β ho) (ofVal_ones ho) hv
  exact ⟨.pointer (some a), w', S, β', by simp [Instr.alloc, ht.run_zero, h1], h2, h3, h4⟩

theorem box_ok (hI : AInv w S β H) {t : TypeId} {slot : Nat} (hv : H[slot]? = some Blk.void) {d : D} {u : Value} (hd : Rel w S β d u) : OpOk P w S β H (Instr.box t u) (aBox d slot H) := by
  intro ho
  obtain ⟨a, w', β', h1, h2, h3, h4⟩ := newVar_ok (P := P) hI t hd ho hv
  exact ⟨.pointer (some a), w', S, β', by simp [Instr.box, h1], h2, h3, h4⟩

end
end Go.Proofs.Ytbabdalfkmdlhaa
