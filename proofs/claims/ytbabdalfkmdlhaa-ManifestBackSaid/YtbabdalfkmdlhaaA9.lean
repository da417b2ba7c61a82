/- The abstract operations are sound, sixth part: aggregates built, slices made, appended to, copied; bytes and strings. Of no program. -/
import Derived.Test.YtbabdalfkmdlhaaA8
import Derived.Great.BuildSlice
import Derived.Laws.BytesString
import Derived.Laws.MakeOwn
namespace Go.Proofs.Ytbabdalfkmdlhaa
set_option linter.all false

theorem fold_set (off : Nat) : ∀ (xs : List Value) (k : Nat) (cells : Array Value), off + k + xs.length ≤ cells.size →
    ((xs.zipIdx k).foldl (fun cs (p : Value × Nat) => cs.setIfInBounds (off + p.2) p.1) cells).toList = splice cells.toList (off + k) xs
  | [], k, cells, _ => by simp [splice]
  | x :: xs, k, cells, h => by
    have hs : off + k < cells.size := by simp at h; omega
    have ih := fold_set off xs (k + 1) (cells.setIfInBounds (off + k) x) (by simp at h ⊢; omega)
    simp only [List.zipIdx_cons, List.foldl_cons]
    rw [ih]
    have e := list_seg_step cells.toList (off + k) x xs (by simp at h ⊢; omega)
    simpa [splice, Array.toList_setIfInBounds, Nat.add_assoc] using e

section
variable {P : Program} {τ : Ty} {w : World} {S : Nat → Prop} {β : Bmap} {H : AHeap}

/-- Cells that are told of, one by one. -/
def RelCells (w : World) (S : Nat → Prop) (β : Bmap) (ds : List D) (vs : List Value) : Prop :=
  vs.length = ds.length ∧ ∀ (i : Nat) (d : D), ds[i]? = some d → ∃ v, vs[i]? = some v ∧ v.oneCell' = true ∧ Rel w S β d v

theorem RelCells.splice {ds es : List D} {vs us : List Value} (h : RelCells w S β ds vs) (g : RelCells w S β es us) (o : Nat) (hf : o + es.length ≤ ds.length) : RelCells w S β (splice ds o es) (splice vs o us) := by
  obtain ⟨l1, r1⟩ := h
  obtain ⟨l2, r2⟩ := g
  refine ⟨by rw [splice_length _ _ _ (by omega), splice_length _ _ _ hf, l1], fun i d hd => ?_⟩
  rw [splice_get _ _ _ hf] at hd
  rw [splice_get _ _ _ (by omega), l2]
  by_cases c1 : i < o
  · rw [if_pos c1] at hd ⊢; exact r1 i d hd
  · rw [if_neg c1] at hd ⊢
    by_cases c2 : i < o + es.length
    · rw [if_pos c2] at hd ⊢; exact r2 _ d hd
    · rw [if_neg c2] at hd ⊢; exact r1 i d hd

theorem RelCells.append {ds es : List D} {vs us : List Value} (h : RelCells w S β ds vs) (g : RelCells w S β es us) : RelCells w S β (ds ++ es) (vs ++ us) := by
  obtain ⟨l1, r1⟩ := h
  obtain ⟨l2, r2⟩ := g
  refine ⟨by simp [l1, l2], fun i d hd => ?_⟩
  by_cases c : i < ds.length
  · rw [List.getElem?_append_left c] at hd
    rw [List.getElem?_append_left (by omega)]
    exact r1 i d hd
  · rw [List.getElem?_append_right (by omega)] at hd
    rw [List.getElem?_append_right (by omega), l1]
    exact r2 _ d hd

theorem Rel.relCells {d : D} {v : Value} (h : Rel w S β d v) (h1 : d.cells.all D.one = true) : RelCells w S β d.cells v.cells.toList := by
  obtain ⟨a, b⟩ := h.cells_of h1
  exact ⟨by simpa using a, fun i d hd => let ⟨u, h2, h3, h4⟩ := b i d hd; ⟨u, by simpa using h2, h3, h4⟩⟩

theorem RelCells.agg {ds : List D} {vs : Array Value} (h : RelCells w S β ds vs.toList) : Rel w S β (.agg ds) (.agg vs) := by
  refine .agg ds vs (by simpa using h.1) (fun i v hv => ?_) (fun i d v hd hv => ?_)
  · have hlt : i < ds.length := by
      have := (Array.getElem?_eq_some_iff.1 hv).1
      have := h.1
      simp at this
      omega
    obtain ⟨u, h1, h2, _⟩ := h.2 i _ (List.getElem?_eq_getElem hlt)
    simp at h1
    rw [hv] at h1; cases h1; exact h2
  · obtain ⟨u, h1, _, h3⟩ := h.2 i d hd
    simp at h1
    rw [hv] at h1; cases h1; exact h3

theorem fill_ok (pc pa : Nat → Option (Nat × Nat)) (hp : ∀ i, pc i = pa i) : ∀ (ds : List (Nat × D)) (vs : List (Nat × Value)) (cs : List D) (cells : Array Value) (r : List D),
    vs.length = ds.length → (∀ (i : Nat) x u, ds[i]? = some x → vs[i]? = some u → x.1 = u.1 ∧ Rel w S β x.2 u.2) → RelCells w S β cs cells.toList → fillD pa ds cs = some r →
    ∃ out, Instr.fill pc cells vs = some out ∧ RelCells w S β r out.toList
  | [], [], cs, cells, r, _, _, hc, h => by
    simp only [fillD, Option.some.injEq] at h
    subst h
    exact ⟨cells, rfl, hc⟩
  | (i, d) :: ds, (j, v) :: vs, cs, cells, r, hl, hr, hc, h => by
    obtain ⟨e, hd⟩ := hr 0 _ _ rfl rfl
    simp only at e hd
    subst e
    simp only [fillD] at h
    simp only [Instr.fill, hp i]
    cases hpi : pa i with
    | none => rw [hpi] at h; cases h
    | some os =>
      obtain ⟨off, size⟩ := os
      rw [hpi] at h
      simp only at h ⊢
      split at h
      · rename_i hc3
        obtain ⟨h1, h2, h3⟩ := hc3
        have hrel := hd.relCells h3
        have hsz : v.cells.size = size := by have := hrel.1; simp at this; omega
        have hcl : cells.size = cs.length := by have := hc.1; simpa using this
        rw [if_neg (by simp [hsz]; omega)]
        have hf := fold_set off v.cells.toList 0 cells (by simp; omega)
        have e2 : v.cells.zipIdx.foldl (fun cs (p : Value × Nat) => cs.setIfInBounds (off + p.2) p.1) cells = (v.cells.toList.zipIdx 0).foldl (fun cs (p : Value × Nat) => cs.setIfInBounds (off + p.2) p.1) cells := by
          rw [← Array.foldl_toList]; simp
        have := fill_ok pc pa hp ds vs (splice cs off d.cells) (v.cells.zipIdx.foldl (fun cs (p : Value × Nat) => cs.setIfInBounds (off + p.2) p.1) cells) r (by simpa using hl)
          (fun k x u hx hu => hr (k + 1) x u (by simpa using hx) (by simpa using hu)) (by rw [e2, hf]; simpa using hc.splice hrel off (by omega)) h
        exact this
      · cases h
  | [], _ :: _, _, _, _, hl, _, _, _ => by simp at hl
  | _ :: _, [], _, _, _, hl, _, _, _ => by simp at hl

theorem zero_cells {v : Value} (h : okVal v = true) : RelCells w S β (ofVal v).cells v.cells.toList := (ofVal_rel w S β h).relCells (ofVal_ones h)

theorem build_ok (hT : TyOk P τ) (hI : AInv w S β H) {t : TypeId} {ds : List (Nat × D)} {vs : Array (Nat × Value)} (hl : vs.size = ds.length)
    (hr : ∀ (i : Nat) x u, ds[i]? = some x → vs[i]? = some u → x.1 = u.1 ∧ Rel w S β x.2 u.2) : OpOk P w S β H (Instr.build t vs) (aBuild τ t ds H) := by
  cases htd : (τ t).td <;> simp only [aBuild, htd] <;> first | exact OpOk.bad | skip
  · -- an array
    rename_i n e
    have ht := hT t (by rw [htd]; rfl)
    have hu := ht.array htd
    split
    · rename_i cs hf
      refine OpOk.same hI fun ho => ?_
      obtain ⟨i, hi, hz, hs, _⟩ := ht.info
      obtain ⟨ie, hie, _, hse, _⟩ := (hT e ho.2).info
      obtain ⟨out, h1, h2⟩ := fill_ok (w := w) (S := S) (β := β) (fun i => some (i * ie.size, ie.size)) _ (fun i => by simp [hse]) ds vs.toList (ofVal (τ t).zero).cells (τ t).zero.cells cs (by simpa using hl)
        (fun i x u hx hu => hr i x u hx (by simpa using hu)) (zero_cells ho.1) hf
      refine ⟨.agg out, run_build w t vs out ?_, h2.agg⟩
      simp [Program.built, hi, hu, hz, hie, h1]
    · exact OpOk.bad
  · -- a struct
    rename_i fs
    have ht := hT t (by rw [htd]; rfl)
    obtain ⟨g, hg, hgf⟩ := ht.struct htd
    split
    · rename_i cs hf
      refine OpOk.same hI fun ho => ?_
      obtain ⟨i, hi, hz, hs, _⟩ := ht.info
      have places : g.toList.mapM (fun f => (P.info? f.type).map fun i => (f.offset, i.size)) = some (fs.map fun f => (f.1, (τ f.2).size)) := by
        have hk := ho.2
        rw [← hgf] at hk ⊢
        generalize g.toList = gl at hk ⊢
        induction gl with
        | nil => rfl
        | cons f gl ih =>
          simp only [List.map_cons, List.all_cons, Bool.and_eq_true] at hk
          obtain ⟨ie, hie, _, hse, _⟩ := (hT f.type hk.1).info
          simp [List.mapM_cons, hie, hse, ih hk.2]
      obtain ⟨out, h1, h2⟩ := fill_ok (w := w) (S := S) (β := β) (fun x => (fs.map fun f => (f.1, (τ f.2).size)).toArray[x]?) _ (fun i => by simp) ds vs.toList (ofVal (τ t).zero).cells (τ t).zero.cells cs (by simpa using hl)
        (fun i x u hx hu => hr i x u hx (by simpa using hu)) (zero_cells ho.1) hf
      refine ⟨.agg out, run_build w t vs out ?_, h2.agg⟩
      simp only [Program.built, hi, hg, hz, places]
      exact h1
    · exact OpOk.bad

/-- Zero cells, 'n' elements of them. -/
theorem zeros_rel {z : Value} (hz : okVal z = true) (sz : Nat) (hs : (ofVal z).cells.length = sz) (n m : Nat) (hm : m = n * sz) :
    RelCells w S β (List.replicate n (ofVal z).cells).flatten ((Array.range m).map (z.cells[· % z.cells.size]!)).toList := by
  have hc := zero_cells (w := w) (S := S) (β := β) hz
  have hzs : z.cells.size = sz := by have := hc.1; simp at this; omega
  subst hm
  have hlen : ∀ n, ((List.replicate n (ofVal z).cells).flatten).length = n * sz := fun n => by simp [hs]
  refine ⟨by rw [hlen]; simp, fun i d hd => ?_⟩
  have hi : i < n * sz := by rw [← hlen]; exact (List.getElem?_eq_some_iff.1 hd).1
  have hpos : 0 < sz := by
    rcases Nat.eq_zero_or_pos sz with h | h
    · subst h; simp at hi
    · exact h
  have key : ∀ (n i : Nat), i < n * sz → ((List.replicate n (ofVal z).cells).flatten)[i]? = (ofVal z).cells[i % sz]? := by
    intro n
    induction n with
    | zero => intro i hi; simp at hi
    | succ n ih =>
      intro i hi
      rw [List.replicate_succ, List.flatten_cons]
      by_cases c : i < sz
      · rw [List.getElem?_append_left (by omega), Nat.mod_eq_of_lt c]
      · rw [List.getElem?_append_right (by omega), hs, ih (i - sz) (by rw [Nat.add_mul] at hi; omega), ← Nat.mod_eq_sub_mod (by omega)]
  rw [key n i hi] at hd
  obtain ⟨v, h1, h2, h3⟩ := hc.2 _ d hd
  refine ⟨v, ?_, h2, h3⟩
  have hlt : i % sz < z.cells.size := by rw [hzs]; exact Nat.mod_lt _ hpos
  simp only [Array.getElem?_toList] at h1
  simp only [Array.toList_map, Array.toList_range, List.getElem?_map, List.getElem?_range hi, Option.map_some, hzs]
  rw [getElem!_pos z.cells (i % sz) hlt]
  rw [Array.getElem?_eq_getElem hlt] at h1
  exact h1

theorem buildSlice_ok (hT : TyOk P τ) (hI : AInv w S β H) {t : TypeId} {n slot : Nat} (hv : H[slot]? = some Blk.void) {ds : List (Nat × D)} {vs : Array (Nat × Value)} (hl : vs.size = ds.length)
    (hr : ∀ (i : Nat) x u, ds[i]? = some x → vs[i]? = some u → x.1 = u.1 ∧ Rel w S β x.2 u.2) : OpOk P w S β H (Instr.buildSlice t n vs) (aBuildSlice τ t n ds slot H) := by
  cases htd : (τ t).td <;> simp only [aBuildSlice, htd] <;> first | exact OpOk.bad | skip
  rename_i e
  have hu := (hT t (by rw [htd]; rfl)).slice htd
  split
  · rename_i cs hf
    intro ho
    obtain ⟨hk, hn, hz, h24, hs⟩ := ho
    have hte := hT e hk
    obtain ⟨ie, hie, hze, hse, _⟩ := hte.info
    obtain ⟨out, h1, h2⟩ := fill_ok (w := w) (S := S) (β := β) (fun i => some (i * ie.size, ie.size)) _ (fun i => by simp [hse]) ds vs.toList _ _ cs (by simpa using hl)
      (fun i x u hx hu => hr i x u hx (by simpa using hu)) (zeros_rel hz _ hs n (n * ie.size) (by rw [hse])) hf
    obtain ⟨β', h3, h4, h5⟩ := hI.alloc slot hv out e cs (fun i d hd => by
      obtain ⟨v, h6, h7, h8⟩ := h2.2 i d hd
      exact ⟨v, by simpa using h6, h7, h8⟩)
    refine ⟨.slice (some ⟨w.heap.size, 0, none⟩) n n, _, S, β', ?_, h3, h4, ?_⟩
    · have hsz0 : ¬ (n * ie.size > 2 ^ 24) := by rw [hse]; omega
      by_cases hn0 : n * ie.size = 0
      · have h1' : Instr.fill (fun i => some (i * ie.size, ie.size)) (#[] : Array Value) vs.toList = some out := by
          rw [hn0] at h1
          simpa [Array.range_zero'] using h1
        simp [Instr.buildSlice, run_underlying hu, sizeOf, typeInfo, hie, hsz0, hn0, Array.range_zero', h1', newRow]
      · simp [Instr.buildSlice, run_underlying hu, sizeOf, typeInfo, zeroValue, hie, hze, hsz0, hn0, h1, newRow]
    · have hlen : out.size = cs.length := by have := h2.1; simpa using this
      have hcs : cs.length = n * (τ e).size := by
        have : ∀ (ds : List (Nat × D)) (c r : List D) (pa), fillD pa ds c = some r → r.length = c.length := by
          intro ds
          induction ds with
          | nil => intro c r pa h; simp [fillD] at h; rw [h]
          | cons x ds ih =>
            intro c r pa h
            obtain ⟨i, d⟩ := x
            simp only [fillD] at h
            split at h
            · cases h
            · split at h
              · rename_i hc3
                have := ih _ _ _ h
                rw [this, splice_length _ _ _ (by omega)]
              · cases h
        rw [this _ _ _ _ hf]
        simp [hs]
      refine .ref slot 0 n _ w.heap.size 0 n h5 (Nat.le_refl _) hn e out.size ?_ (by omega)
      unfold World.shape?; rw [heap_alloc_new]
  · exact OpOk.bad

theorem makeSlice_ok (hT : TyOk P τ) (hI : AInv w S β H) {t : TypeId} {slot : Nat} (hv : H[slot]? = some Blk.void) {l c : D} {vl vc : Value} (hl : Rel w S β l vl) (hc : Rel w S β c vc) :
    OpOk P w S β H (Instr.makeSlice t vl vc) (aMakeSlice τ t l c slot H) := by
  cases htd : (τ t).td <;> simp only [aMakeSlice, htd] <;> first | exact OpOk.bad | skip
  rename_i e
  have hu := (hT t (by rw [htd]; rfl)).slice htd
  cases hl <;> simp only <;> first | exact OpOk.bad | skip
  cases hc <;> simp only <;> first | exact OpOk.bad | skip
  rename_i k1 l a1 a2 k2 c b1 b2
  intro ho
  obtain ⟨h0, hlc, h63, hby, hk, hz, hs⟩ := ho
  obtain ⟨ie, hie, hze, hse, hbe⟩ := (hT e hk).info
  have hrun := run_make (P := P) w t e ie (τ e).zero hu hie hze k1 k2 l c h0 hlc (by rw [hbe]; exact hby) h63
  have hzr := zeros_rel (w := w) (S := S) (β := β) hz _ hs c.toNat (c.toNat * ie.size) (by rw [hse])
  have hsub : ∀ (i : Nat) (d : D), (List.replicate l.toNat (ofVal (τ e).zero).cells).flatten[i]? = some d → (List.replicate c.toNat (ofVal (τ e).zero).cells).flatten[i]? = some d := fun i d hd => by
    have e1 : c.toNat = l.toNat + (c.toNat - l.toNat) := by omega
    rw [e1, ← List.replicate_append_replicate, List.flatten_append, List.getElem?_append_left (List.getElem?_eq_some_iff.1 hd).1]
    exact hd
  obtain ⟨β', h3, h4, h5⟩ := hI.alloc slot hv (madeCells (τ e).zero.cells (c.toNat * ie.size)) e (List.replicate l.toNat (ofVal (τ e).zero).cells).flatten (fun i d hd => by
    obtain ⟨v, h6, h7, h8⟩ := hzr.2 i d (hsub i d hd)
    exact ⟨v, by rw [Array.getElem?_toList] at h6; exact h6, h7, h8⟩)
  refine ⟨_, _, S, β', hrun, h3, h4, ?_⟩
  refine .ref slot 0 l.toNat _ w.heap.size 0 c.toNat h5 (by omega) (by unfold maxLen; omega) e (c.toNat * ie.size) ?_ (by rw [hse]; omega)
  unfold World.shape?; rw [heap_alloc_new]; simp [size_madeCells]

end
end Go.Proofs.Ytbabdalfkmdlhaa
