/- How the abstract heap goes with the world: a new block, a block written, a block moved. Of no program. -/
import Derived.Test.YtbabdalfkmdlhaaA2
import Derived.Lib.FrozenHead
namespace Go.Proofs.Ytbabdalfkmdlhaa
set_option linter.all false

theorem ofVals_eq (vs : List Value) : ofVals vs = vs.map ofVal := by
  induction vs with
  | nil => rfl
  | cons v vs ih => rw [ofVals, ih, List.map_cons]

theorem okCell_one {v : Value} (h : okCell v = true) : v.oneCell' = true := by
  cases v <;> simp [okCell, Value.oneCell'] at *

theorem ofCell_rel (w : World) (S : Nat → Prop) (β : Bmap) {v : Value} (h : okCell v = true) : Rel w S β (ofVal v) v := by
  cases v with
  | bool b => simp only [ofVal]; exact .bool b
  | int k n =>
    simp [okCell] at h
    simp only [ofVal]
    exact .int k n h.1 h.2
  | string s =>
    simp [okCell] at h
    obtain ⟨⟨l⟩⟩ := s
    simp only [ofVal]
    exact .str l (by simpa [ByteArray.size] using h)
  | pointer a =>
    cases a with
    | none => simp only [ofVal]; exact .nilp
    | some a => simp [okCell] at h
  | slice a l c =>
    cases a with
    | some a => simp [okCell] at h
    | none =>
      match l, c, h with
      | 0, 0, _ => simp only [ofVal]; exact .nil
  | func f a b =>
    simp [okCell] at h
    obtain ⟨rfl, rfl⟩ := h
    simp only [ofVal]
    exact .fn f [] #[] rfl (by simp)
  | nilFunc => simp only [ofVal]; exact .nilf
  | nilIface => simp only [ofVal]; exact .niface
  | _ => simp [okCell] at h

theorem ofVal_rel (w : World) (S : Nat → Prop) (β : Bmap) {v : Value} (h : okVal v = true) : Rel w S β (ofVal v) v := by
  cases v with
  | agg cs =>
    simp only [okVal, List.all_eq_true] at h
    simp only [ofVal, ofVals_eq]
    refine .agg _ _ (by simp) (fun i v hv => okCell_one (h v ?_)) (fun i d v hd hv => ?_)
    · have := Array.mem_of_getElem? hv; simpa using this
    · simp only [List.getElem?_map] at hd
      rw [show cs.toList[i]? = some v by simpa using hv] at hd
      simp at hd
      subst hd
      exact ofCell_rel w S β (h v (by have := Array.mem_of_getElem? hv; simpa using this))
  | _ => exact ofCell_rel w S β (by simpa [okVal] using h)

theorem Rel.one {w : World} {S : Nat → Prop} {β : Bmap} {d : D} {v : Value} (h : Rel w S β d v) (h1 : d.one = true) : v.oneCell' = true := by
  cases h <;> simp_all [D.one, Value.oneCell']

theorem Rel.cells_of {w : World} {S : Nat → Prop} {β : Bmap} {d : D} {v : Value} (h : Rel w S β d v) (h1 : d.cells.all D.one = true) :
    v.cells.size = d.cells.length ∧ ∀ (i : Nat) (x : D), d.cells[i]? = some x → ∃ u, v.cells[i]? = some u ∧ u.oneCell' = true ∧ Rel w S β x u := by
  by_cases ha : ∃ cs, d = .agg cs
  · obtain ⟨cs, rfl⟩ := ha
    cases h with
    | agg _ vs e h0 h2 =>
      refine ⟨e, fun i x hx => ?_⟩
      simp only [D.cells] at hx
      have hlt : i < vs.size := by rw [e]; exact (List.getElem?_eq_some_iff.1 hx).1
      exact ⟨vs[i], by simp [Value.cells, hlt], h0 i _ (by simp [hlt]), h2 i x _ hx (by simp [hlt])⟩
  · have hd : d.cells = [d] := by
      cases d <;> first | rfl | exact absurd ⟨_, rfl⟩ ha
    have h1' : d.one = true := by simpa [hd] using h1
    have hv := h.one h1'
    have hvc : v.cells = #[v] := by cases v <;> first | rfl | simp [Value.oneCell'] at hv
    rw [hd, hvc]
    refine ⟨rfl, fun i x hx => ?_⟩
    match i, hx with
    | 0, hx => simp at hx; subst hx; exact ⟨v, rfl, hv, h⟩

/-- THE ONE STEP OF THE ABSTRACT HEAP: at most one block of memory is another one now, and abstract block 'slot' is told of it. -/
theorem AInv.step {w w' : World} {S : Nat → Prop} {β β' : Bmap} {H H1 : AHeap} (hI : AInv w S β H) (slot blk off : Nat) (vs : Array Value) (T : TypeId) (fr : Nat × Nat) (ds : List D)
    (hos : w'.os = w.os) (hout : w'.output = w.output) (hsz : w.heap.size ≤ w'.heap.size)
    (hother : ∀ b, b < w.heap.size → b ≠ blk → w'.heap[b]? = w.heap[b]?)
    (hshape : ∀ b x, w.shape? b = some x → w'.shape? b = some x)
    (hblk : w.heap.size ≤ blk ∨ Mut β H blk)
    (hnew : w'.heap[blk]? = some (.cells vs T fr)) (hfr : fr.2 ≤ fr.1 ∨ vs.size ≤ fr.1)
    (hlen1 : H1.length = H.length) (hslot : slot < H.length)
    (hlive : ∀ b' c, b' ≠ slot → H1[b']? = some (.live c) → H[b']? = some (.live c) ∧ ∀ off', ¬ Bk β b' (some (blk, off')))
    (hfroz : ∀ b' c, b' ≠ slot → H1[b']? = some (.froz c) → H[b']? = some (.froz c))
    (hvoid : ∀ b', b' ≠ slot → H1[b']? = some Blk.void → H[b']? = some Blk.void)
    (hβlen : β'.length = β.length) (hβother : ∀ b', b' ≠ slot → β'[b']? = β[b']?) (hβslot : Bk β' slot (some (blk, off))) (hβmono : ∀ x, Bk β slot x → Bk β' slot x)
    (hds : ∀ (i : Nat) (d : D), ds[i]? = some d → ∃ v, vs[off + i]? = some v ∧ v.oneCell' = true ∧ Rel w S β d v) :
    AInv w' S β' (H1.set slot (.live ds)) ∧ Evo w S β H w' S β' (H1.set slot (.live ds)) := by
  have hnS : ¬ S blk := fun h => by
    rcases hblk with h' | h'
    · have := hI.old blk h; omega
    · exact hI.notMut h h'
  have hbk : ∀ b x, Bk β b x → Bk β' b x := fun b x h => by
    by_cases hb : b = slot
    · subst hb; exact hβmono x h
    · unfold Bk; rw [hβother b hb]; exact h
  have hS : ∀ b, S b → w'.heap[b]? = w.heap[b]? := fun b hb => hother b (hI.old b hb) (fun e => hnS (e ▸ hb))
  have keep : ∀ {d v}, Rel w S β d v → Rel w' S β' d v := fun h => h.keep hS (fun _ h => h) hbk hshape
  have lies : ∀ {cs b0 o vs0 T0 fr0}, b0 ≠ blk → Lies w S β cs b0 o vs0 T0 fr0 → Lies w' S β' cs b0 o vs0 T0 fr0 := fun hne h =>
    ⟨by rw [hother _ (Array.getElem?_eq_some_iff.1 h.heap).1 hne]; exact h.heap, h.one, fun i d hd => let ⟨v, h1, h2⟩ := h.cell i d hd; ⟨v, h1, keep h2⟩⟩
  have hget : ∀ b', b' ≠ slot → (H1.set slot (.live ds))[b']? = H1[b']? := fun b' hb => List.getElem?_set_ne (Ne.symm hb)
  have hgets : (H1.set slot (.live ds))[slot]? = some (.live ds) := List.getElem?_set_self (by omega)
  have hlies : Lies w' S β' ds blk off vs T fr := ⟨hnew, fun i v hi hv => by
      obtain ⟨v', h1, h2, _⟩ := hds i _ (List.getElem?_eq_getElem hi)
      rw [hv] at h1; cases h1; exact h2, fun i d hd => let ⟨v, h1, _, h2⟩ := hds i d hd; ⟨v, h1, keep h2⟩⟩
  have hM : ∀ b, Mut β' (H1.set slot (.live ds)) b → Mut β H b ∨ w.heap.size ≤ b := by
    rintro b ⟨i, cs, o, hl, hk⟩
    by_cases hi : i = slot
    · subst hi
      unfold Bk at hk hβslot
      rw [hβslot] at hk
      cases hk
      exact hblk.symm
    · rw [hget i hi] at hl
      exact .inl ⟨i, cs, o, (hlive i cs hi hl).1, by unfold Bk at *; rw [hβother i hi] at hk; exact hk⟩
  refine ⟨⟨by simp [hβlen, hlen1, hI.len], ?_, ?_, ?_, fun b hb => Nat.lt_of_lt_of_le (hI.old b hb) hsz, ?_⟩, ⟨hos, hout, hsz, fun b hb hm => hother b hb (fun e => ?_), hshape, fun _ h => h, hbk, fun _ h => .inl h, hM⟩⟩
  · intro b cs hb
    by_cases hbs : b = slot
    · subst hbs
      rw [hgets] at hb
      cases hb
      exact .inr ⟨blk, off, vs, T, fr, hβslot, hnS, hfr, hlies⟩
    · rw [hget b hbs] at hb
      obtain ⟨h1, h2⟩ := hlive b cs hbs hb
      rcases hI.live b cs h1 with ⟨h3, h4⟩ | ⟨b0, o, vs0, T0, fr0, h3, h4, h5, h6⟩
      · exact .inl ⟨h3, hbk _ _ h4⟩
      · exact .inr ⟨b0, o, vs0, T0, fr0, hbk _ _ h3, h4, h5, lies (fun e => h2 o (e ▸ h3)) h6⟩
  · intro b cs hb
    by_cases hbs : b = slot
    · subst hbs; rw [hgets] at hb; cases hb
    · rw [hget b hbs] at hb
      rcases hI.froz b cs (hfroz b cs hbs hb) with ⟨h3, h4⟩ | ⟨b0, o, vs0, T0, fr0, h3, h4, h6⟩
      · exact .inl ⟨h3, hbk _ _ h4⟩
      · exact .inr ⟨b0, o, vs0, T0, fr0, hbk _ _ h3, h4, lies (fun e => hnS (e ▸ h4)) h6⟩
  · intro b b' cs cs' k o o' hb hb' hk hk'
    by_cases e : b = slot
    · by_cases e' : b' = slot
      · rw [e, e']
      · exfalso
        subst e
        rw [hget b' e'] at hb'
        unfold Bk at hk hk' hβslot
        rw [hβslot] at hk; cases hk
        rw [hβother b' e'] at hk'
        exact (hlive b' cs' e' hb').2 o' hk'
    · by_cases e' : b' = slot
      · exfalso
        subst e'
        rw [hget b e] at hb
        unfold Bk at hk hk' hβslot
        rw [hβslot] at hk'; cases hk'
        rw [hβother b e] at hk
        exact (hlive b cs e hb).2 o hk
      · rw [hget b e] at hb
        rw [hget b' e'] at hb'
        unfold Bk at hk hk'
        rw [hβother b e] at hk
        rw [hβother b' e'] at hk'
        exact hI.apart b b' cs cs' k o o' (hlive b cs e hb).1 (hlive b' cs' e' hb').1 hk hk'
  · intro b hb
    by_cases hbs : b = slot
    · subst hbs; rw [hgets] at hb; cases hb
    · rw [hget b hbs] at hb
      rw [hβother b hbs]
      exact hI.void b (hvoid b hbs hb)
  · subst e
    rcases hblk with h | h
    · omega
    · exact hm h

/-- A new block, told as 'slot'. -/
theorem AInv.alloc {w : World} {S : Nat → Prop} {β : Bmap} {H : AHeap} (hI : AInv w S β H) (slot : Nat) (hv : H[slot]? = some Blk.void) (vs : Array Value) (T : TypeId) (ds : List D)
    (hds : ∀ (i : Nat) (d : D), ds[i]? = some d → ∃ v, vs[i]? = some v ∧ v.oneCell' = true ∧ Rel w S β d v) :
    ∃ β', AInv (w.alloc (.cells vs T)) S β' (H.set slot (.live ds)) ∧ Evo w S β H (w.alloc (.cells vs T)) S β' (H.set slot (.live ds)) ∧ Bk β' slot (some (w.heap.size, 0)) := by
  have hlt : slot < H.length := (List.getElem?_eq_some_iff.1 hv).1
  have hβv := hI.void slot hv
  refine ⟨β.set slot (some (some (w.heap.size, 0))), ?_⟩
  have hb' : Bk (β.set slot (some (some (w.heap.size, 0)))) slot (some (w.heap.size, 0)) := by
    unfold Bk; exact List.getElem?_set_self (by rw [hI.len]; exact hlt)
  have := hI.step (w' := w.alloc (.cells vs T)) (β' := β.set slot (some (some (w.heap.size, 0)))) (H1 := H) slot w.heap.size 0 vs T (0, 0) ds rfl rfl (by simp)
    (fun b hb _ => heap_alloc_old w _ b hb)
    (fun b x h => by
      have : b ≠ w.heap.size := fun e => by subst e; simp [World.shape?] at h
      simp only [World.shape?, World.alloc, Array.getElem?_push, this, if_false] at h ⊢
      exact h)
    (.inl (Nat.le_refl _)) (heap_alloc_new w _) (.inl (Nat.le_refl _)) rfl hlt
    (fun b' c hne hl => ⟨hl, fun off' hk => by
      rcases hI.live b' c hl with ⟨_, h⟩ | ⟨b0, o, vs0, T0, fr0, h3, _, _, h6⟩
      · unfold Bk at *; rw [hk] at h; cases h
      · unfold Bk at *; rw [hk] at h3; cases h3
        have := (Array.getElem?_eq_some_iff.1 h6.heap).1
        omega⟩)
    (fun _ _ _ h => h) (fun _ _ h => h) (by simp) (fun b' hne => List.getElem?_set_ne (Ne.symm hne)) hb'
    (fun x h => by unfold Bk at h; rw [hβv] at h; cases h)
    (fun i d hd => by simpa using hds i d hd)
  exact ⟨this.1, this.2, hb'⟩

theorem AInv.sameHeap {w w' : World} {S : Nat → Prop} {β : Bmap} {H : AHeap} (hI : AInv w S β H) (hh : w'.heap = w.heap) (hos : w'.os = w.os) (hout : w'.output = w.output) :
    AInv w' S β H ∧ Evo w S β H w' S β H := by
  have keep : ∀ {d v}, Rel w S β d v → Rel w' S β d v := fun h => h.keep (fun b _ => by rw [hh]) (fun _ h => h) (fun _ _ h => h) (fun b x h => by simpa [World.shape?, hh] using h)
  have lies : ∀ {cs b0 o vs0 T0 fr0}, Lies w S β cs b0 o vs0 T0 fr0 → Lies w' S β cs b0 o vs0 T0 fr0 := fun h =>
    ⟨by rw [hh]; exact h.heap, h.one, fun i d hd => let ⟨v, h1, h2⟩ := h.cell i d hd; ⟨v, h1, keep h2⟩⟩
  refine ⟨⟨hI.len, fun b cs h => ?_, fun b cs h => ?_, hI.apart, fun b h => by rw [hh]; exact hI.old b h, hI.void⟩,
    ⟨hos, hout, by rw [hh]; exact Nat.le_refl _, fun b _ _ => by rw [hh], fun b x h => by simpa [World.shape?, hh] using h, fun _ h => h, fun _ _ h => h, fun _ h => .inl h, fun _ h => .inl h⟩⟩
  · rcases hI.live b cs h with h | ⟨b0, o, vs0, T0, fr0, h3, h4, h5, h6⟩
    · exact .inl h
    · exact .inr ⟨b0, o, vs0, T0, fr0, h3, h4, h5, lies h6⟩
  · rcases hI.froz b cs h with h | ⟨b0, o, vs0, T0, fr0, h3, h4, h6⟩
    · exact .inl h
    · exact .inr ⟨b0, o, vs0, T0, fr0, h3, h4, lies h6⟩

/-- A new block that is never written again, told by no name: 'S' has it. -/
theorem AInv.allocPure {w : World} {S : Nat → Prop} {β : Bmap} {H : AHeap} (hI : AInv w S β H) (o : Obj) :
    AInv (w.alloc o) (fun b => S b ∨ b = w.heap.size) β H ∧ Evo w S β H (w.alloc o) (fun b => S b ∨ b = w.heap.size) β H := by
  have hold : ∀ b, b < w.heap.size → (w.alloc o).heap[b]? = w.heap[b]? := fun b hb => heap_alloc_old w o b hb
  have hshape : ∀ b x, w.shape? b = some x → (w.alloc o).shape? b = some x := fun b x h => by
    have : b ≠ w.heap.size := fun e => by subst e; simp [World.shape?] at h
    simp only [World.shape?, World.alloc, Array.getElem?_push, this, if_false] at h ⊢
    exact h
  have keep : ∀ {d v}, Rel w S β d v → Rel (w.alloc o) (fun b => S b ∨ b = w.heap.size) β d v := fun h => h.keep (fun b hb => hold b (hI.old b hb)) (fun _ h => .inl h) (fun _ _ h => h) hshape
  have lies : ∀ {cs b0 o1 vs0 T0 fr0}, Lies w S β cs b0 o1 vs0 T0 fr0 → Lies (w.alloc o) (fun b => S b ∨ b = w.heap.size) β cs b0 o1 vs0 T0 fr0 := fun h =>
    ⟨by rw [hold _ (Array.getElem?_eq_some_iff.1 h.heap).1]; exact h.heap, h.one, fun i d hd => let ⟨v, h1, h2⟩ := h.cell i d hd; ⟨v, h1, keep h2⟩⟩
  refine ⟨⟨hI.len, fun b cs h => ?_, fun b cs h => ?_, hI.apart, fun b h => ?_, hI.void⟩,
    ⟨rfl, rfl, by simp, fun b hb _ => hold b hb, hshape, fun _ h => .inl h, fun _ _ h => h, fun b h => ?_, fun _ h => .inl h⟩⟩
  · rcases hI.live b cs h with h | ⟨b0, o, vs0, T0, fr0, h3, h4, h5, h6⟩
    · exact .inl h
    · exact .inr ⟨b0, o, vs0, T0, fr0, h3, fun hs => by
        rcases hs with hs | hs
        · exact h4 hs
        · have := (Array.getElem?_eq_some_iff.1 h6.heap).1; omega, h5, lies h6⟩
  · rcases hI.froz b cs h with h | ⟨b0, o, vs0, T0, fr0, h3, h4, h6⟩
    · exact .inl h
    · exact .inr ⟨b0, o, vs0, T0, fr0, h3, .inl h4, lies h6⟩
  · rcases h with h | h
    · have := hI.old b h; simp; omega
    · simp; omega
  · rcases h with h | h
    · exact .inl h
    · exact .inr (.inr (by omega))

end Go.Proofs.Ytbabdalfkmdlhaa
