/- The abstract operations are sound, sixth part: aggregates built, slices made, appended to, copied; bytes and strings. Of no program. -/
import Derived.Test.YtlkffgmejcgdbaaDoorL1
import Derived.Great.BuildSlice
import Derived.Laws.BytesString
import Derived.Laws.MakeOwn
import Derived.Lib.AppendZerosOnto
import Derived.Laws.BytesArg
import Derived.Scope
import Derived.Deep.LoopGhost
namespace Go.Proofs.YtlkffgmejcgdbaaDoor
set_option linter.all false

theorem fold_set (off : Nat) : ∀ (xs : List Value) (k : Nat) (cells : Array Value), off + k + xs.length ≤ cells.size →
    ((xs.zipIdx k).foldl (fun cs (p : Value × Nat) => cs.setIfInBounds (off + p.2) p.1) cells).toList = splice cells.toList (off + k) xs
  | [], k, cells, _ => by simp [splice]
  | x :: xs, k, cells, h => by
    have hs : off + k < cells.size := by simp at h; omega
    have ih := fold_set off xs (k + 1) (cells.setIfInBounds (off + k) x) (by simp at h ⊢; omega)
    simp only [List.zipIdx_cons, List.foldl_cons]
    rw [ih]
    have e := list_seg_step cells.toList (off + k) x xs (by simp at h ⊢; omega)
    simpa [splice, Array.toList_setIfInBounds, Nat.add_assoc] using e

section
variable {P : Program} {τ : Ty} {w : World} {S : Nat → Prop} {β : Bmap} {H : AHeap}

/-- Cells that are told of, one by one. -/
def RelCells (w : World) (S : Nat → Prop) (β : Bmap) (ds : List D) (vs : List Value) : Prop :=
  vs.length = ds.length ∧ ∀ (i : Nat) (d : D), ds[i]? = some d → ∃ v, vs[i]? = some v ∧ v.oneCell' = true ∧ Rel w S β d v

theorem RelCells.splice {ds es : List D} {vs us : List Value} (h : RelCells w S β ds vs) (g : RelCells w S β es us) (o : Nat) (hf : o + es.length ≤ ds.length) : RelCells w S β (splice ds o es) (splice vs o us) := by
  obtain ⟨l1, r1⟩ := h
  obtain ⟨l2, r2⟩ := g
  refine ⟨by rw [splice_length _ _ _ (by omega), splice_length _ _ _ hf, l1], fun i d hd => ?_⟩
  rw [splice_get _ _ _ hf] at hd
  rw [splice_get _ _ _ (by omega), l2]
  by_cases c1 : i < o
  · rw [if_pos c1] at hd ⊢; exact r1 i d hd
  · rw [if_neg c1] at hd ⊢
    by_cases c2 : i < o + es.length
    · rw [if_pos c2] at hd ⊢; exact r2 _ d hd
    · rw [if_neg c2] at hd ⊢; exact r1 i d hd

theorem RelCells.append {ds es : List D} {vs us : List Value} (h : RelCells w S β ds vs) (g : RelCells w S β es us) : RelCells w S β (ds ++ es) (vs ++ us) := by
  obtain ⟨l1, r1⟩ := h
  obtain ⟨l2, r2⟩ := g
  refine ⟨by simp [l1, l2], fun i d hd => ?_⟩
  by_cases c : i < ds.length
  · rw [List.getElem?_append_left c] at hd
    rw [List.getElem?_append_left (by omega)]
    exact r1 i d hd
  · rw [List.getElem?_append_right (by omega)] at hd
    rw [List.getElem?_append_right (by omega), l1]
    exact r2 _ d hd

theorem Rel.relCells {d : D} {v : Value} (h : Rel w S β d v) (h1 : d.cells.all D.one = true) : RelCells w S β d.cells v.cells.toList := by
  obtain ⟨a, b⟩ := h.cells_of h1
  exact ⟨by simpa using a, fun i d hd => let ⟨u, h2, h3, h4⟩ := b i d hd; ⟨u, by simpa using h2, h3, h4⟩⟩

theorem RelCells.agg {ds : List D} {vs : Array Value} (h : RelCells w S β ds vs.toList) : Rel w S β (.agg ds) (.agg vs) := by
  refine .agg ds vs (by simpa using h.1) (fun i v hv => ?_) (fun i d v hd hv => ?_)
  · have hlt : i < ds.length := by
      have := (Array.getElem?_eq_some_iff.1 hv).1
      have := h.1
      simp at this
      omega
    obtain ⟨u, h1, h2, _⟩ := h.2 i _ (List.getElem?_eq_getElem hlt)
    simp at h1
    rw [hv] at h1; cases h1; exact h2
  · obtain ⟨u, h1, _, h3⟩ := h.2 i d hd
    simp at h1
    rw [hv] at h1; cases h1; exact h3

theorem fill_ok (pc pa : Nat → Option (Nat × Nat)) (hp : ∀ i, pc i = pa i) : ∀ (ds : List (Nat × D)) (vs : List (Nat × Value)) (cs : List D) (cells : Array Value) (r : List D),
    vs.length = ds.length → (∀ (i : Nat) x u, ds[i]? = some x → vs[i]? = some u → x.1 = u.1 ∧ Rel w S β x.2 u.2) → RelCells w S β cs cells.toList → fillD pa ds cs = some r →
    ∃ out, Instr.fill pc cells vs = some out ∧ RelCells w S β r out.toList
  | [], [], cs, cells, r, _, _, hc, h => by
    simp only [fillD, Option.some.injEq] at h
    subst h
    exact ⟨cells, rfl, hc⟩
  | (i, d) :: ds, (j, v) :: vs, cs, cells, r, hl, hr, hc, h => by
    obtain ⟨e, hd⟩ := hr 0 _ _ rfl rfl
    simp only at e hd
    subst e
    simp only [fillD] at h
    simp only [Instr.fill, hp i]
    cases hpi : pa i with
    | none => rw [hpi] at h; cases h
    | some os =>
      obtain ⟨off, size⟩ := os
      rw [hpi] at h
      simp only at h ⊢
      split at h
      · rename_i hc3
        obtain ⟨h1, h2, h3⟩ := hc3
        have hrel := hd.relCells h3
        have hsz : v.cells.size = size := by have := hrel.1; simp at this; omega
        have hcl : cells.size = cs.length := by have := hc.1; simpa using this
        rw [if_neg (by simp [hsz]; omega)]
        have hf := fold_set off v.cells.toList 0 cells (by simp; omega)
        have e2 : v.cells.zipIdx.foldl (fun cs (p : Value × Nat) => cs.setIfInBounds (off + p.2) p.1) cells = (v.cells.toList.zipIdx 0).foldl (fun cs (p : Value × Nat) => cs.setIfInBounds (off + p.2) p.1) cells := by
          rw [← Array.foldl_toList]; simp
        have := fill_ok pc pa hp ds vs (splice cs off d.cells) (v.cells.zipIdx.foldl (fun cs (p : Value × Nat) => cs.setIfInBounds (off + p.2) p.1) cells) r (by simpa using hl)
          (fun k x u hx hu => hr (k + 1) x u (by simpa using hx) (by simpa using hu)) (by rw [e2, hf]; simpa using hc.splice hrel off (by omega)) h
        exact this
      · cases h
  | [], _ :: _, _, _, _, hl, _, _, _ => by simp at hl
  | _ :: _, [], _, _, _, hl, _, _, _ => by simp at hl

theorem zero_cells {v : Value} (h : okVal v = true) : RelCells w S β (ofVal v).cells v.cells.toList := (ofVal_rel w S β h).relCells (ofVal_ones h)

theorem build_ok (hT : TyOk P τ) (hI : AInv w S β H) {t : TypeId} {ds : List (Nat × D)} {vs : Array (Nat × Value)} (hl : vs.size = ds.length)
    (hr : ∀ (i : Nat) x u, ds[i]? = some x → vs[i]? = some u → x.1 = u.1 ∧ Rel w S β x.2 u.2) : OpOk P w S β H (Instr.build t vs) (aBuild τ t ds H) := by
  cases htd : (τ t).td <;> simp only [aBuild, htd] <;> first | exact OpOk.bad | skip
  · -- an array
    rename_i n e
    have ht := hT t (by rw [htd]; rfl)
    have hu := ht.array htd
    split
    · rename_i cs hf
      refine OpOk.same hI fun ho => ?_
      obtain ⟨i, hi, hz, hs, _⟩ := ht.info
      obtain ⟨ie, hie, _, hse, _⟩ := (hT e ho.2).info
      obtain ⟨out, h1, h2⟩ := fill_ok (w := w) (S := S) (β := β) (fun i => some (i * ie.size, ie.size)) _ (fun i => by simp [hse]) ds vs.toList (ofVal (τ t).zero).cells (τ t).zero.cells cs (by simpa using hl)
        (fun i x u hx hu => hr i x u hx (by simpa using hu)) (zero_cells ho.1) hf
      refine ⟨.agg out, run_build w t vs out ?_, h2.agg⟩
      simp [Program.built, hi, hu, hz, hie, h1]
    · exact OpOk.bad
  · -- a struct
    rename_i fs
    have ht := hT t (by rw [htd]; rfl)
    obtain ⟨g, hg, hgf⟩ := ht.struct htd
    split
    · rename_i cs hf
      refine OpOk.same hI fun ho => ?_
      obtain ⟨i, hi, hz, hs, _⟩ := ht.info
      have places : g.toList.mapM (fun f => (P.info? f.type).map fun i => (f.offset, i.size)) = some (fs.map fun f => (f.1, (τ f.2).size)) := by
        have hk := ho.2
        rw [← hgf] at hk ⊢
        generalize g.toList = gl at hk ⊢
        induction gl with
        | nil => rfl
        | cons f gl ih =>
          simp only [List.map_cons, List.all_cons, Bool.and_eq_true] at hk
          obtain ⟨ie, hie, _, hse, _⟩ := (hT f.type hk.1).info
          simp [List.mapM_cons, hie, hse, ih hk.2]
      obtain ⟨out, h1, h2⟩ := fill_ok (w := w) (S := S) (β := β) (fun x => (fs.map fun f => (f.1, (τ f.2).size)).toArray[x]?) _ (fun i => by simp) ds vs.toList (ofVal (τ t).zero).cells (τ t).zero.cells cs (by simpa using hl)
        (fun i x u hx hu => hr i x u hx (by simpa using hu)) (zero_cells ho.1) hf
      refine ⟨.agg out, run_build w t vs out ?_, h2.agg⟩
      simp only [Program.built, hi, hg, hz, places]
      exact h1
    · exact OpOk.bad

/-- Zero cells, 'n' elements of them. -/
theorem zeros_rel {z : Value} (hz : okVal z = true) (sz : Nat) (hs : (ofVal z).cells.length = sz) (n m : Nat) (hm : m = n * sz) :
    RelCells w S β (List.replicate n (ofVal z).cells).flatten ((Array.range m).map (z.cells[· % z.cells.size]!)).toList := by
  have hc := zero_cells (w := w) (S := S) (β := β) hz
  have hzs : z.cells.size = sz := by have := hc.1; simp at this; omega
  subst hm
  have hlen : ∀ n, ((List.replicate n (ofVal z).cells).flatten).length = n * sz := fun n => by simp [hs]
  refine ⟨by rw [hlen]; simp, fun i d hd => ?_⟩
  have hi : i < n * sz := by rw [← hlen]; exact (List.getElem?_eq_some_iff.1 hd).1
  have hpos : 0 < sz := by
    rcases Nat.eq_zero_or_pos sz with h | h
    · subst h; simp at hi
    · exact h
  have key : ∀ (n i : Nat), i < n * sz → ((List.replicate n (ofVal z).cells).flatten)[i]? = (ofVal z).cells[i % sz]? := by
    intro n
    induction n with
    | zero => intro i hi; simp at hi
    | succ n ih =>
      intro i hi
      rw [List.replicate_succ, List.flatten_cons]
      by_cases c : i < sz
      · rw [List.getElem?_append_left (by omega), Nat.mod_eq_of_lt c]
      · rw [List.getElem?_append_right (by omega), hs, ih (i - sz) (by rw [Nat.add_mul] at hi; omega), ← Nat.mod_eq_sub_mod (by omega)]
  rw [key n i hi] at hd
  obtain ⟨v, h1, h2, h3⟩ := hc.2 _ d hd
  refine ⟨v, ?_, h2, h3⟩
  have hlt : i % sz < z.cells.size := by rw [hzs]; exact Nat.mod_lt _ hpos
  simp only [Array.getElem?_toList] at h1
  simp only [Array.toList_map, Array.toList_range, List.getElem?_map, List.getElem?_range hi, Option.map_some, hzs]
  rw [getElem!_pos z.cells (i % sz) hlt]
  rw [Array.getElem?_eq_getElem hlt] at h1
  exact h1

theorem buildSlice_ok (hT : TyOk P τ) (hI : AInv w S β H) {t : TypeId} {n slot : Nat} (hv : H[slot]? = some Blk.void) {ds : List (Nat × D)} {vs : Array (Nat × Value)} (hl : vs.size = ds.length)
    (hr : ∀ (i : Nat) x u, ds[i]? = some x → vs[i]? = some u → x.1 = u.1 ∧ Rel w S β x.2 u.2) : OpOk P w S β H (Instr.buildSlice t n vs) (aBuildSlice τ t n ds slot H) := by
  cases htd : (τ t).td <;> simp only [aBuildSlice, htd] <;> first | exact OpOk.bad | skip
  rename_i e
  have hu := (hT t (by rw [htd]; rfl)).slice htd
  split
  · rename_i cs hf
    intro ho
    obtain ⟨hk, hn, hz, h24, hs⟩ := ho
    have hte := hT e hk
    obtain ⟨ie, hie, hze, hse, _⟩ := hte.info
    obtain ⟨out, h1, h2⟩ := fill_ok (w := w) (S := S) (β := β) (fun i => some (i * ie.size, ie.size)) _ (fun i => by simp [hse]) ds vs.toList _ _ cs (by simpa using hl)
      (fun i x u hx hu => hr i x u hx (by simpa using hu)) (zeros_rel hz _ hs n (n * ie.size) (by rw [hse])) hf
    obtain ⟨β', h3, h4, h5⟩ := hI.alloc slot hv out e cs (fun i d hd => by
      obtain ⟨v, h6, h7, h8⟩ := h2.2 i d hd
      exact ⟨v, by simpa using h6, h7, h8⟩)
    refine ⟨.slice (some ⟨w.heap.size, 0, none⟩) n n, _, S, β', ?_, h3, h4, ?_⟩
    · have hsz0 : ¬ (n * ie.size > 2 ^ 24) := by rw [hse]; omega
      by_cases hn0 : n * ie.size = 0
      · have h1' : Instr.fill (fun i => some (i * ie.size, ie.size)) (#[] : Array Value) vs.toList = some out := by
          rw [hn0] at h1
          simpa [Array.range_zero'] using h1
        simp [Instr.buildSlice, run_underlying hu, sizeOf, typeInfo, hie, hsz0, hn0, Array.range_zero', h1', newRow]
      · simp [Instr.buildSlice, run_underlying hu, sizeOf, typeInfo, zeroValue, hie, hze, hsz0, hn0, h1, newRow]
    · have hlen : out.size = cs.length := by have := h2.1; simpa using this
      have hcs : cs.length = n * (τ e).size := by
        have : ∀ (ds : List (Nat × D)) (c r : List D) (pa), fillD pa ds c = some r → r.length = c.length := by
          intro ds
          induction ds with
          | nil => intro c r pa h; simp [fillD] at h; rw [h]
          | cons x ds ih =>
            intro c r pa h
            obtain ⟨i, d⟩ := x
            simp only [fillD] at h
            split at h
            · cases h
            · split at h
              · rename_i hc3
                have := ih _ _ _ h
                rw [this, splice_length _ _ _ (by omega)]
              · cases h
        rw [this _ _ _ _ hf]
        simp [hs]
      refine .ref slot 0 n _ w.heap.size 0 n h5 (Nat.le_refl _) hn e out.size ?_ (by omega)
      unfold World.shape?; rw [heap_alloc_new]
  · exact OpOk.bad

theorem makeSlice_ok (hT : TyOk P τ) (hI : AInv w S β H) {t : TypeId} {slot : Nat} (hv : H[slot]? = some Blk.void) {l c : D} {vl vc : Value} (hl : Rel w S β l vl) (hc : Rel w S β c vc) :
    OpOk P w S β H (Instr.makeSlice t vl vc) (aMakeSlice τ t l c slot H) := by
  cases htd : (τ t).td <;> simp only [aMakeSlice, htd] <;> first | exact OpOk.bad | skip
  rename_i e
  have hu := (hT t (by rw [htd]; rfl)).slice htd
  cases hl <;> simp only <;> first | exact OpOk.bad | skip
  cases hc <;> simp only <;> first | exact OpOk.bad | skip
  rename_i k1 l a1 a2 k2 c b1 b2
  intro ho
  obtain ⟨h0, hlc, h63, hby, hk, hz, hs⟩ := ho
  obtain ⟨ie, hie, hze, hse, hbe⟩ := (hT e hk).info
  have hrun := run_make (P := P) w t e ie (τ e).zero hu hie hze k1 k2 l c h0 hlc (by rw [hbe]; exact hby) h63
  have hzr := zeros_rel (w := w) (S := S) (β := β) hz _ hs c.toNat (c.toNat * ie.size) (by rw [hse])
  have hsub : ∀ (i : Nat) (d : D), (List.replicate l.toNat (ofVal (τ e).zero).cells).flatten[i]? = some d → (List.replicate c.toNat (ofVal (τ e).zero).cells).flatten[i]? = some d := fun i d hd => by
    have e1 : c.toNat = l.toNat + (c.toNat - l.toNat) := by omega
    rw [e1, ← List.replicate_append_replicate, List.flatten_append, List.getElem?_append_left (List.getElem?_eq_some_iff.1 hd).1]
    exact hd
  obtain ⟨β', h3, h4, h5⟩ := hI.alloc slot hv (madeCells (τ e).zero.cells (c.toNat * ie.size)) e (List.replicate l.toNat (ofVal (τ e).zero).cells).flatten (fun i d hd => by
    obtain ⟨v, h6, h7, h8⟩ := hzr.2 i d (hsub i d hd)
    exact ⟨v, by rw [Array.getElem?_toList] at h6; exact h6, h7, h8⟩)
  refine ⟨_, _, S, β', hrun, h3, h4, ?_⟩
  refine .ref slot 0 l.toNat _ w.heap.size 0 c.toNat h5 (by omega) (by unfold maxLen; omega) e (c.toNat * ie.size) ?_ (by rw [hse]; omega)
  unfold World.shape?; rw [heap_alloc_new]; simp [size_madeCells]

end
end Go.Proofs.YtlkffgmejcgdbaaDoor

/- The abstract operations are sound, seventh part: append, copy, bytes and strings. Of no program. -/
namespace Go.Proofs.YtlkffgmejcgdbaaDoor
set_option linter.all false
section
variable {P : Program} {τ : Ty} {w : World} {S : Nat → Prop} {β : Bmap} {H : AHeap}

theorem flat_get (sz : Nat) : ∀ (es : List D), (∀ e, e ∈ es → e.cells.length = sz) → ∀ (k : Nat) (d : D), (es.flatMap D.cells)[k]? = some d → ∃ i j e, es[i]? = some e ∧ e.cells[j]? = some d ∧ k = i * sz + j
  | [], _, k, d, h => by simp at h
  | e :: es, he, k, d, h => by
    have hl := he e (by simp)
    rw [List.flatMap_cons] at h
    by_cases c : k < sz
    · rw [List.getElem?_append_left (by omega)] at h
      exact ⟨0, k, e, rfl, h, by simp⟩
    · rw [List.getElem?_append_right (by omega), hl] at h
      obtain ⟨i, j, e', h1, h2, h3⟩ := flat_get sz es (fun x hx => he x (by simp [hx])) (k - sz) d h
      exact ⟨i + 1, j, e', by simpa using h1, h2, by rw [Nat.add_mul]; omega⟩

theorem flat_length (sz : Nat) : ∀ (es : List D), (∀ e, e ∈ es → e.cells.length = sz) → (es.flatMap D.cells).length = es.length * sz
  | [], _ => by simp
  | e :: es, he => by
    rw [List.flatMap_cons, List.length_append, flat_length sz es (fun x hx => he x (by simp [hx])), he e (by simp), List.length_cons, Nat.add_mul]
    omega

/-- Cells that lie in memory one behind the other are loaded as they are told. -/
theorem load_cells (ds : List D) (a : Addr) (h : ∀ (j : Nat) (d : D), ds[j]? = some d → ∃ v, w.cell? (a.add j) = some v ∧ v.oneCell' = true ∧ Rel w S β d v) :
    ∃ arr : Array Value, (∀ w' : World, w'.heap = w.heap → (loadCells a ds.length).run P w' = .ok arr w') ∧ RelCells w S β ds arr.toList := by
  have hex : ∀ j, ∃ v, ∀ d, ds[j]? = some d → w.cell? (a.add j) = some v ∧ v.oneCell' = true ∧ Rel w S β d v := fun j => by
    cases hd : ds[j]? with
    | none => exact ⟨undef, fun d h => by cases h⟩
    | some d => obtain ⟨v, h1⟩ := h j d hd; exact ⟨v, fun d' h' => by cases h'; exact h1⟩
  let f : Nat → Value := fun j => Classical.choose (hex j)
  have hf : ∀ j d, ds[j]? = some d → w.cell? (a.add j) = some (f j) ∧ (f j).oneCell' = true ∧ Rel w S β d (f j) := fun j => Classical.choose_spec (hex j)
  refine ⟨((List.range ds.length).map f).toArray, fun w' hw => run_loadCells w' a ds.length f (fun j hj => ?_), by simp, fun i d hd => ?_⟩
  · rw [show w'.cell? (a.add j) = w.cell? (a.add j) from by simp [World.cell?, hw]]
    exact (hf j _ (List.getElem?_eq_getElem hj)).1
  · have hi := (List.getElem?_eq_some_iff.1 hd).1
    exact ⟨f i, by simp [hi], (hf i d hd).2⟩

theorem elem_ok (hI : AInv w S β H) {x : D} {v : Value} (hx : Rel w S β x v) {xs : List D} {n : Nat} (h : elemCells H x = some (xs, n)) (sz m : Nat) (hsz : xs.length = n * sz) (hm : m ≤ n) :
    (∀ w', (Builtin.lenOf v).run P w' = .ok n w') ∧ ∃ arr : Array Value, (∀ w' : World, w'.heap = w.heap → (Builtin.firstCells sz m v).run P w' = .ok arr w') ∧ RelCells w S β (xs.take (m * sz)) arr.toList := by
  have hms : m * sz ≤ n * sz := Nat.mul_le_mul_right _ hm
  have tk : ∀ (l : List D), l.length = n * sz → (l.take (m * sz)).length = m * sz := fun l hl => by rw [List.length_take]; omega
  cases hx <;> simp only [elemCells] at h <;> try (cases h; done)
  · -- a string
    rename_i s hs
    simp only [Option.some.injEq, Prod.mk.injEq] at h
    obtain ⟨rfl, rfl⟩ := h
    refine ⟨fun w' => rfl, ((s.take (m * sz)).map fun b => Value.int .u8 b.toNat).toArray, fun w' _ => ?_, by simp, fun i d hd => ?_⟩
    · have he : ((⟨⟨s⟩⟩ : ByteArray).extract 0 m).data.toList = s.take m := by rw [Lib.extract_data]; simp
      have he2 : ((⟨⟨s⟩⟩ : ByteArray).extract 0 m).data = (s.take m).toArray := Array.ext' (by rw [he])
      have he3 : s.take (m * sz) = s.take m := by
        simp only [List.length_map] at hsz
        rcases Nat.eq_zero_or_pos s.length with h0 | h0
        · have : s = [] := List.eq_nil_of_length_eq_zero h0
          subst this; simp
        · have hz1 : sz = 1 := by
            have : s.length * sz = s.length * 1 := by omega
            exact Nat.eq_of_mul_eq_mul_left h0 this
          rw [hz1, Nat.mul_one]
      simp [Builtin.firstCells, he2, he3]
    · rw [← List.map_take] at hd
      simp only [List.getElem?_map, Option.map_eq_some_iff] at hd
      obtain ⟨b, hb, rfl⟩ := hd
      exact ⟨.int .u8 b.toNat, by show ((s.take (m * sz)).map _)[i]? = _; rw [List.getElem?_map, hb]; rfl, rfl, byteD_rel b⟩
  · -- nil
    simp only [Option.some.injEq, Prod.mk.injEq] at h
    obtain ⟨rfl, rfl⟩ := h
    exact ⟨fun w' => rfl, #[], fun w' _ => rfl, by simp, fun i d hd => by simp at hd⟩
  · -- a slice that is nil
    simp only [Option.some.injEq, Prod.mk.injEq] at h
    obtain ⟨rfl, rfl⟩ := h
    exact ⟨fun w' => rfl, #[], fun w' _ => rfl, by simp, fun i d hd => by simp at hd⟩
  · -- a slice for good
    rename_i sz' es tight ad cap vf h1 h2 h3 h4 h5 h6
    simp only [Option.some.injEq, Prod.mk.injEq] at h
    obtain ⟨rfl, rfl⟩ := h
    obtain ⟨arr, h7, h8⟩ := load_cells (P := P) (w := w) (S := S) (β := β) ((es.flatMap D.cells).take (m * sz)) ad (fun k d hd => by
      rw [List.getElem?_take] at hd
      split at hd
      · obtain ⟨i, j, e, g1, g2, g3⟩ := flat_get sz' es h4 k d hd
        have hk : k < es.length * sz' := by rw [← flat_length sz' es h4]; exact (List.getElem?_eq_some_iff.1 hd).1
        exact ⟨vf k, (h5 k hk).2.1, (h5 k hk).2.2, by rw [g3]; exact h6 i e j d g1 g2⟩
      · cases hd)
    rw [tk _ hsz] at h7
    exact ⟨fun w' => rfl, arr, fun w' hw => by simpa [Builtin.firstCells] using h7 w' hw, h8⟩
  · -- a slice into a block
    rename_i b o len sz' blk off cap h1 h2 h3 T n' h4 h5
    split at h
    · rename_i cs hcs
      simp only [Option.some.injEq, Prod.mk.injEq] at h
      obtain ⟨rfl, rfl⟩ := h
      obtain ⟨arr, h7, h8⟩ := load_cells (P := P) (w := w) (S := S) (β := β) (((cs.drop o).take (len * sz')).take (m * sz)) ⟨blk, off + o, none⟩ (fun k d hd => by
        rw [List.getElem?_take] at hd
        split at hd
        · rw [List.getElem?_take] at hd
          split at hd
          · rw [List.getElem?_drop] at hd
            obtain ⟨v, g1, g2, g3⟩ := hI.cellsAt hcs h1 (o + k) d hd
            exact ⟨v, by rw [addr_at, Nat.add_assoc]; exact g1, g2, g3⟩
          · cases hd
        · cases hd)
      rw [tk _ hsz] at h7
      exact ⟨fun w' => rfl, arr, fun w' hw => by simpa [Builtin.firstCells] using h7 w' hw, h8⟩
    · cases h
  · -- an empty one
    rename_i b o sz' a
    split at h
    · rename_i cs hcs
      simp only [Nat.zero_mul, List.take_zero, Option.some.injEq, Prod.mk.injEq] at h
      obtain ⟨rfl, rfl⟩ := h
      have : m = 0 := by omega
      subst this
      refine ⟨fun w' => rfl, #[], fun w' _ => ?_, by simp, fun i d hd => by simp at hd⟩
      cases a <;> simp [Builtin.firstCells, loadCells, loadCellsFrom]
    · cases h
  · -- its capacity told
    rename_i b o len sz' c blk off h1 h2 h3 T n' h4 h5
    split at h
    · rename_i cs hcs
      simp only [Option.some.injEq, Prod.mk.injEq] at h
      obtain ⟨rfl, rfl⟩ := h
      obtain ⟨arr, h7, h8⟩ := load_cells (P := P) (w := w) (S := S) (β := β) (((cs.drop o).take (len * sz')).take (m * sz)) ⟨blk, off + o, none⟩ (fun k d hd => by
        rw [List.getElem?_take] at hd
        split at hd
        · rw [List.getElem?_take] at hd
          split at hd
          · rw [List.getElem?_drop] at hd
            obtain ⟨v, g1, g2, g3⟩ := hI.cellsAt hcs h1 (o + k) d hd
            exact ⟨v, by rw [addr_at, Nat.add_assoc]; exact g1, g2, g3⟩
          · cases hd
        · cases hd)
      rw [tk _ hsz] at h7
      exact ⟨fun w' => rfl, arr, fun w' hw => by simpa [Builtin.firstCells] using h7 w' hw, h8⟩
    · cases h
  · -- an empty one
    rename_i b o sz' a
    split at h
    · rename_i cs hcs
      simp only [Nat.zero_mul, List.take_zero, Option.some.injEq, Prod.mk.injEq] at h
      obtain ⟨rfl, rfl⟩ := h
      have : m = 0 := by omega
      subst this
      refine ⟨fun w' => rfl, #[], fun w' _ => ?_, by simp, fun i d hd => by simp at hd⟩
      cases a <;> simp [Builtin.firstCells, loadCells, loadCellsFrom]
    · cases h

/-- The first elements alone. -/
theorem elem_some (hI : AInv w S β H) {x : D} {v : Value} (hx : Rel w S β x v) {xs : List D} {n : Nat} (h : elemCells H x = some (xs, n)) (sz m : Nat) (hsz : copyOb x xs.length n m sz) (hm : m ≤ n) :
    (∀ w', (Builtin.lenOf v).run P w' = .ok n w') ∧ ∃ arr : Array Value, (∀ w' : World, w'.heap = w.heap → (Builtin.firstCells sz m v).run P w' = .ok arr w') ∧ RelCells w S β (xs.take (m * sz)) arr.toList := by
  by_cases hc : ∃ b o l z c, x = .refc b o l z c
  · obtain ⟨b, o, l, z, c, rfl⟩ := hc
    simp only [copyOb] at hsz
    obtain ⟨rfl, hsz⟩ := hsz
    simp only [elemCells] at h
    split at h
    · rename_i cs hcs
      simp only [Option.some.injEq, Prod.mk.injEq] at h
      obtain ⟨rfl, rfl⟩ := h
      cases hx with
      | refcEmpty _ _ _ a =>
        have : m = 0 := by omega
        subst this
        refine ⟨fun w' => rfl, #[], fun w' _ => ?_, by simp, fun i d hd => by simp at hd⟩
        cases a <;> simp [Builtin.firstCells, loadCells, loadCellsFrom]
      | refc _ _ _ _ _ blk off h1 h2 h3 T n' h4 h5 =>
        obtain ⟨arr, h7, h8⟩ := load_cells (P := P) (w := w) (S := S) (β := β) (((cs.drop o).take (l * z)).take (m * z)) ⟨blk, off + o, none⟩ (fun k d hd => by
          rw [List.getElem?_take] at hd
          split at hd
          · rw [List.getElem?_take] at hd
            split at hd
            · rw [List.getElem?_drop] at hd
              obtain ⟨v, g1, g2, g3⟩ := hI.cellsAt hcs h1 (o + k) d hd
              exact ⟨v, by rw [addr_at, Nat.add_assoc]; exact g1, g2, g3⟩
            · cases hd
          · cases hd)
        have hl : (((cs.drop o).take (l * z)).take (m * z)).length = m * z := by rw [List.length_take]; omega
        rw [hl] at h7
        exact ⟨fun w' => rfl, arr, fun w' hw => by simpa [Builtin.firstCells] using h7 w' hw, h8⟩
    · cases h
  · refine elem_ok hI hx h sz m ?_ hm
    cases x <;> first | exact hsz | exact absurd ⟨_, _, _, _, _, rfl⟩ hc

theorem TyAt.seq (hT : TyOk P τ) {t : TypeId} (hi : (τ t).td.isSeq = true) : P.underlying t = some .string ∨ ∃ e, P.underlying t = some (.slice e) := by
  cases htd : (τ t).td <;> rw [htd] at hi <;> simp [TD.isSeq] at hi
  · exact .inl ((hT t (by rw [htd]; rfl)).str htd)
  · exact .inr ⟨_, (hT t (by rw [htd]; rfl)).slice htd⟩

theorem append_room (hT : TyOk P τ) {t t' e ty : TypeId} (htd : (τ t).td = .slice e) (hke : (τ e).td.known = true) (hi' : (τ t').td.isSeq = true) (a : Option Addr) (sLen sCap n : Nat) (vx : Value) (arr : Array Value) (w' : World)
    (hn : (Builtin.lenOf vx).run P w = .ok n w) (hf : (Builtin.firstCells (τ e).size n vx).run P w = .ok arr w) (hroom : sLen + n ≤ sCap)
    (hst : ∀ ad, a = some ad → (storeCells (ad.add (sLen * (τ e).size)) arr.toList).run P w = .ok () w') (hst0 : a = none → w' = w) :
    (Builtin.append_ #[t, t'] ty #[.slice a sLen sCap, vx]).run P w = .ok (.slice a (sLen + n) sCap) w' := by
  have hu := (hT t (by rw [htd]; rfl)).slice htd
  have hs := (hT e hke).run_sizeOf w
  cases a with
  | none =>
    rw [hst0 rfl]
    rcases TyAt.seq hT hi' with h' | ⟨e', h'⟩ <;> simp [Builtin.append_, run_underlying hu, run_underlying h', hs, hn, hroom, hf]
  | some ad =>
    have := hst ad rfl
    rcases TyAt.seq hT hi' with h' | ⟨e', h'⟩ <;> simp [Builtin.append_, run_underlying hu, run_underlying h', hs, hn, hroom, hf, this]

theorem append_grow (hT : TyOk P τ) {t t' e ty : TypeId} (htd : (τ t).td = .slice e) (hke : (τ e).td.known = true) (hi' : (τ t').td.isSeq = true) (a : Option Addr) (sLen sCap n : Nat) (vx : Value) (olds arr : Array Value)
    (hn : (Builtin.lenOf vx).run P w = .ok n w) (hf : (Builtin.firstCells (τ e).size n vx).run P w.drew = .ok arr w.drew) (ho : (Builtin.firstCells (τ e).size sLen (.slice a sLen sCap)).run P w.drew = .ok olds w.drew)
    (hroom : sCap < sLen + n) (h63 : sLen + n ≤ maxLen) (hb : (sLen + n) * (τ e).bytes ≤ 140737488355328) :
    (Builtin.append_ #[t, t'] ty #[.slice a sLen sCap, vx]).run P w = .ok (.slice (some ⟨w.heap.size, 0, none⟩) (sLen + n) (grownCap w (sLen + n) sCap e))
      (w.drew.alloc (.cells (olds ++ arr ++ Builtin.zeroCells (τ e).zero.cells (grownCap w (sLen + n) sCap e - (sLen + n))) e)) := by
  have hu := (hT t (by rw [htd]; rfl)).slice htd
  obtain ⟨i, hi, hz, hs, hby⟩ := (hT e hke).info
  have hn1 : ¬ (sLen + n ≤ sCap) := by omega
  have h63' : ¬ (9223372036854775807 < ((sLen : Int) + (n : Int))) := by unfold maxLen at h63; omega
  have h48' : ¬ (281474976710656 < Builtin.nextslicecap (sLen + n) sCap * i.bytes) := by
    have := growslice_fits hroom hb
    rw [hby]; omega
  rw [← hs] at hf ho
  rcases TyAt.seq hT hi' with h' | ⟨e', h'⟩ <;> simp [Builtin.append_, run_underlying hu, run_underlying h', sizeOf, typeInfo, zeroValue, hi, hz, hn, hn1, h63', h48', Question.forced, hf, ho, newRow, grownCap]

end
end Go.Proofs.YtlkffgmejcgdbaaDoor

/- The abstract operations are sound, eighth part: the append, the copy, the conversions. Of no program. -/
namespace Go.Proofs.YtlkffgmejcgdbaaDoor
set_option linter.all false
section
variable {P : Program} {τ : Ty} {w : World} {S : Nat → Prop} {β : Bmap} {H : AHeap}

theorem AInv.kill (hI : AInv w S β H) (b : Nat) : AInv w S β (H.set b .dead) ∧ Evo w S β H w S β (H.set b .dead) := by
  have hget : ∀ (b' : Nat) (x : Blk), x ≠ Blk.dead → (H.set b .dead)[b']? = some x → H[b']? = some x := fun b' x hx h => by
    rw [List.getElem?_set] at h
    split at h
    · split at h
      · cases h; exact absurd rfl hx
      · cases h
    · exact h
  refine ⟨⟨by simp [hI.len], fun b' cs h => hI.live b' cs (hget _ _ (by simp) h), fun b' cs h => hI.froz b' cs (hget _ _ (by simp) h),
    fun b1 b2 cs cs' blk o o' h h' => hI.apart b1 b2 cs cs' blk o o' (hget _ _ (by simp) h) (hget _ _ (by simp) h'), hI.old, fun b' h => hI.void b' (hget _ _ (by simp) h)⟩,
    ⟨rfl, rfl, Nat.le_refl _, fun _ _ _ => rfl, fun _ _ h => h, fun _ h => h, fun _ _ h => h, fun _ h => .inl h, ?_⟩⟩
  rintro k ⟨i, cs, o, h, hk⟩
  exact .inl ⟨i, cs, o, hget _ _ (by simp) h, hk⟩

theorem AInv.drew (hI : AInv w S β H) : AInv w.drew S β H ∧ Evo w S β H w.drew S β H := hI.sameHeap rfl rfl rfl

theorem Rel.drew {d : D} {v : Value} (h : Rel w S β d v) : Rel w.drew S β d v := Rel.keep (w := w) (w' := w.drew) (fun _ _ => rfl) (fun _ h => h) (fun _ _ h => h) (fun _ _ h => h) h

theorem RelCells.drew {ds : List D} {vs : List Value} (h : RelCells w S β ds vs) : RelCells w.drew S β ds vs := ⟨h.1, fun i d hd => let ⟨v, a, b, c⟩ := h.2 i d hd; ⟨v, a, b, c.drew⟩⟩

/-- The append grows: a new block, told as 'slot'. -/
theorem grow_slot (hT : TyOk P τ) (hI : AInv w S β H) {t t' e ty : TypeId} (htd : (τ t).td = .slice e) (hke : (τ e).td.known = true) (hi' : (τ t').td.isSeq = true) (hz : okVal (τ e).zero = true) (hzs : (ofVal (τ e).zero).cells.length = (τ e).size)
    {slot : Nat} (hv : H[slot]? = some Blk.void) (b : Nat) (hb : b ≠ slot) (a : Option Addr) (sLen sCap n : Nat) (vx : Value) (olds arr : Array Value) (os xs : List D)
    (hn : (Builtin.lenOf vx).run P w = .ok n w) (hf : (Builtin.firstCells (τ e).size n vx).run P w.drew = .ok arr w.drew) (ho : (Builtin.firstCells (τ e).size sLen (.slice a sLen sCap)).run P w.drew = .ok olds w.drew)
    (hos : RelCells w S β os olds.toList) (hxs : RelCells w S β xs arr.toList) (hol : os.length = sLen * (τ e).size) (hxl : xs.length = n * (τ e).size)
    (hroom : sCap < sLen + n) (h63 : sLen + n ≤ maxLen) (hb2 : (sLen + n) * (τ e).bytes ≤ 140737488355328) (H1 : AHeap) (hH1 : H1 = H ∨ H1 = H.set b .dead) :
    ∃ v' w' β', (Builtin.append_ #[t, t'] ty #[.slice a sLen sCap, vx]).run P w = .ok v' w' ∧ AInv w' S β' (H1.set slot (.live (os ++ xs))) ∧ Evo w S β H w' S β' (H1.set slot (.live (os ++ xs))) ∧ Rel w' S β' (.ref slot 0 (sLen + n) (τ e).size) v' := by
  have hrun := append_grow (P := P) hT (ty := ty) htd hke hi' a sLen sCap n vx olds arr hn hf ho hroom h63 hb2
  obtain ⟨I1, E1⟩ := hI.drew
  have step2 : AInv w.drew S β H1 ∧ Evo w.drew S β H w.drew S β H1 := by
    rcases hH1 with rfl | rfl
    · exact ⟨I1, Evo.refl _ _ _ _⟩
    · exact I1.kill b
  obtain ⟨I2, E2⟩ := step2
  have hv1 : H1[slot]? = some Blk.void := by
    rcases hH1 with rfl | rfl
    · exact hv
    · rw [List.getElem?_set_ne hb]; exact hv
  have hall := (hos.append hxs).drew
  obtain ⟨β', I3, E3, hk⟩ := I2.alloc slot hv1 (olds ++ arr ++ Builtin.zeroCells (τ e).zero.cells (grownCap w (sLen + n) sCap e - (sLen + n))) e (os ++ xs) (fun i d hd => by
    obtain ⟨v, h1, h2, h3⟩ := hall.2 i d hd
    refine ⟨v, ?_, h2, h3⟩
    have hlt : i < olds.size + arr.size := by
      have := (List.getElem?_eq_some_iff.1 h1).1
      simpa using this
    rw [Array.getElem?_append_left (by simpa using hlt)]
    rw [← Array.getElem?_toList, Array.toList_append]
    exact h1)
  refine ⟨_, _, β', hrun, I3, (E1.trans E2).trans E3, ?_⟩
  have hge := grownCap_ge w (sLen + n) sCap e
  refine .ref slot 0 (sLen + n) _ w.heap.size 0 _ hk hge (grownCap_le_maxLen w _ _ e h63) e (olds ++ arr ++ Builtin.zeroCells (τ e).zero.cells (grownCap w (sLen + n) sCap e - (sLen + n))).size ?_ ?_
  · unfold World.shape?
    have := heap_alloc_new w.drew (.cells (olds ++ arr ++ Builtin.zeroCells (τ e).zero.cells (grownCap w (sLen + n) sCap e - (sLen + n))) e)
    rw [World.size_drew] at this
    rw [this]
  · have z1 : (τ e).zero.cells.size = (τ e).size := by
      have := (zero_cells (w := w) (S := S) (β := β) hz).1
      simp at this; omega
    have o1 := hos.1
    have x1 := hxs.1
    simp only [Array.length_toList] at o1 x1
    simp only [Array.size_append, size_zeroCells, z1, o1, x1, hol, hxl, ← Nat.add_mul]
    have : sLen + n + (grownCap w (sLen + n) sCap e - (sLen + n)) = grownCap w (sLen + n) sCap e := by omega
    rw [this]; omega

theorem chunk_cells (agg : Bool) (sz : Nat) (hs : agg = false → sz = 1) : ∀ (n : Nat) (xs : List D), xs.length = n * sz → xs.all D.one = true →
    (chunk agg sz n xs).flatMap D.cells = xs ∧ (chunk agg sz n xs).length = n ∧ ∀ e, e ∈ chunk agg sz n xs → e.cells.length = sz
  | 0, xs, h, _ => by
    have : xs = [] := List.eq_nil_of_length_eq_zero (by simpa using h)
    subst this
    simp [chunk]
  | n + 1, xs, h, h1 => by
    have hl : sz ≤ xs.length := by rw [h, Nat.add_mul]; omega
    have h1' : (xs.drop sz).all D.one = true := by
      rw [List.all_eq_true] at h1 ⊢
      exact fun x hx => h1 x (List.mem_of_mem_drop hx)
    obtain ⟨i1, i2, i3⟩ := chunk_cells agg sz hs n (xs.drop sz) (by rw [List.length_drop, h, Nat.add_mul]; omega) h1'
    have hd : (if agg then D.agg (xs.take sz) else xs.getD 0 .any).cells = xs.take sz := by
      cases agg with
      | true => rfl
      | false =>
        have : sz = 1 := hs rfl
        subst this
        cases xs with
        | nil => simp at hl
        | cons x xs =>
          simp only [List.all_cons, Bool.and_eq_true] at h1
          have h2 := h1.1
          simp only [Bool.false_eq_true, if_false]
          cases x <;> simp [D.one] at h2 <;> rfl
    refine ⟨?_, by simp [chunk, i2], fun e he => ?_⟩
    · simp only [chunk, List.flatMap_cons, i1, hd, List.take_append_drop]
    · simp only [chunk, List.mem_cons] at he
      rcases he with rfl | he
      · rw [hd, List.length_take]; omega
      · exact i3 e he

theorem flat_of (sz : Nat) : ∀ (es : List D), (∀ e, e ∈ es → e.cells.length = sz) → ∀ (i j : Nat) (e d : D), es[i]? = some e → e.cells[j]? = some d → (es.flatMap D.cells)[i * sz + j]? = some d
  | [], _, i, _, _, _, h, _ => by simp at h
  | x :: es, he, 0, j, e, d, h, hd => by
    simp only [List.getElem?_cons_zero, Option.some.injEq] at h
    subst h
    rw [List.flatMap_cons, Nat.zero_mul, Nat.zero_add, List.getElem?_append_left (List.getElem?_eq_some_iff.1 hd).1]
    exact hd
  | x :: es, he, i + 1, j, e, d, h, hd => by
    have := flat_of sz es (fun y hy => he y (by simp [hy])) i j e d (by simpa using h) hd
    have hx := he x (by simp)
    rw [List.flatMap_cons, List.getElem?_append_right (by rw [hx, Nat.add_mul]; omega), hx]
    rw [show (i + 1) * sz + j - sz = i * sz + j by rw [Nat.add_mul]; omega]
    exact this

/-- A slice whose elements' cells lie one behind the other, in a block for good. -/
theorem sl_of_cells {sz : Nat} {es : List D} {tight : Bool} (he : ∀ e, e ∈ es → e.cells.length = sz) (arr : Array Value) (blk cap : Nat) (hS : S blk) {T : TypeId} {fr : Nat × Nat} {cells : Array Value} (hh : w.heap[blk]? = some (.cells cells T fr))
    (hc : ∀ (i : Nat) (v : Value), arr[i]? = some v → cells[i]? = some v) (hr : RelCells w S β (es.flatMap D.cells) arr.toList) (h1 : es.length ≤ cap) (h2 : cap ≤ maxLen) (h3 : tight = true → cap = es.length) :
    Rel w S β (.sl sz es tight) (.slice (some ⟨blk, 0, none⟩) es.length cap) := by
  refine .sl sz es tight ⟨blk, 0, none⟩ cap (fun k => arr.getD k undef) h1 h2 h3 he (fun i hi => ?_) (fun i e j d h h' => ?_)
  · rw [← flat_length sz es he] at hi
    obtain ⟨v, g1, g2, _⟩ := hr.2 i _ (List.getElem?_eq_getElem hi)
    rw [Array.getElem?_toList] at g1
    refine ⟨hS, ?_, ?_⟩
    · rw [addr_at]; simp [World.cell?, hh, hc i v g1, Array.getD_eq_getD_getElem?, g1]
    · simp [Array.getD_eq_getD_getElem?, g1, g2]
  · obtain ⟨v, g1, _, g3⟩ := hr.2 _ d (flat_of sz es he i j e d h h')
    rw [Array.getElem?_toList] at g1
    simp only [Array.getD_eq_getD_getElem?, g1, Option.getD_some]
    exact g3

/-- What an append asks, in common. -/
structure AppOb (τ : Ty) (t' e : TypeId) (xs : List D) (n k : Nat) : Prop where
  one : xs.all D.one = true
  len : xs.length = n * (τ e).size
  bytes : (k + n) * (τ e).bytes ≤ 140737488355328
  max : k + n ≤ maxLen
  known : (τ e).td.known = true
  seq : (τ t').td.isSeq = true
  zero : okVal (τ e).zero = true
  zlen : (ofVal (τ e).zero).cells.length = (τ e).size

theorem append_nil (hT : TyOk P τ) (hI : AInv w S β H) {t t' e ty : TypeId} (htd : (τ t).td = .slice e) {slot : Nat} (hv : H[slot]? = some Blk.void) {x : D} {vx : Value} (hx : Rel w S β x vx) {xs : List D} {n : Nat}
    (hel : elemCells H x = some (xs, n)) (ob : AppOb τ t' e xs n 0) (base : Option Addr) :
    ∃ v' w' S' β', (Builtin.append_ #[t, t'] ty #[.slice base 0 0, vx]).run P w = .ok v' w' ∧ AInv w' S' β' (H.set slot (.live xs)) ∧ Evo w S β H w' S' β' (H.set slot (.live xs)) ∧ Rel w' S' β' (.ref slot 0 n (τ e).size) v' := by
  obtain ⟨hn, arr, hf, hr⟩ := elem_ok (P := P) hI hx hel (τ e).size n ob.len (Nat.le_refl _)
  rw [← ob.len, List.take_length] at hr
  rcases Nat.eq_zero_or_pos n with rfl | hpos
  · have hxs : xs = [] := List.eq_nil_of_length_eq_zero (by rw [ob.len]; simp)
    subst hxs
    obtain ⟨β', h1, h2⟩ := hI.voidEmpty slot hv H (.inl rfl)
    have harr : arr.toList = [] := List.eq_nil_of_length_eq_zero (by rw [hr.1]; rfl)
    refine ⟨.slice base 0 0, w, S, β', ?_, h1, h2, .refEmpty _ _ _ _⟩
    have := append_room (P := P) hT (w := w) (ty := ty) htd ob.known ob.seq base 0 0 0 vx arr w (hn w) (hf w rfl) (Nat.le_refl _) (fun ad _ => by rw [harr]; rfl) (fun _ => rfl)
    simpa using this
  · obtain ⟨v', w', β', h1, h2, h3, h4⟩ := grow_slot (P := P) hT hI (ty := ty) htd ob.known ob.seq ob.zero ob.zlen hv (slot + 1) (by omega) base 0 0 n vx #[] arr [] xs (hn w) (hf w.drew rfl) (by cases base <;> simp [Builtin.firstCells, loadCells, loadCellsFrom]) ⟨rfl, fun i d h => by simp at h⟩ hr (by simp) ob.len (by omega) (by have := ob.max; omega) ob.bytes H (.inl rfl)
    simp only [List.nil_append, Nat.zero_add] at h2 h3 h4
    exact ⟨v', w', S, β', h1, h2, h3, h4⟩

theorem append_ref (hT : TyOk P τ) (hI : AInv w S β H) {t t' e ty : TypeId} (htd : (τ t).td = .slice e) {slot : Nat} (hv : H[slot]? = some Blk.void) {x : D} {vx vs : Value} (hx : Rel w S β x vx) {xs : List D} {n b o len : Nat}
    (hs : Rel w S β (.ref b o len (τ e).size) vs) {cs : List D} (hb : H[b]? = some (.live cs)) (hne : b ≠ slot) (hfit : o + len * (τ e).size ≤ cs.length) (hel : elemCells H x = some (xs, n)) (ob : AppOb τ t' e xs n len) :
    ∃ v' w' S' β', (Builtin.append_ #[t, t'] ty #[vs, vx]).run P w = .ok v' w' ∧ AInv w' S' β' ((H.set b .dead).set slot (.live ((cs.drop o).take (len * (τ e).size) ++ xs))) ∧
      Evo w S β H w' S' β' ((H.set b .dead).set slot (.live ((cs.drop o).take (len * (τ e).size) ++ xs))) ∧ Rel w' S' β' (.ref slot 0 (len + n) (τ e).size) v' := by
  obtain ⟨hn, arr, hf, hr⟩ := elem_ok (P := P) hI hx hel (τ e).size n ob.len (Nat.le_refl _)
  rw [← ob.len, List.take_length] at hr
  have hosl : ((cs.drop o).take (len * (τ e).size)).length = len * (τ e).size := by simp; omega
  cases hs with
  | refEmpty _ _ _ a =>
    simp only [Nat.zero_mul, List.take_zero, List.nil_append, Nat.zero_add]
    rcases Nat.eq_zero_or_pos n with rfl | hpos
    · have hxs : xs = [] := List.eq_nil_of_length_eq_zero (by rw [ob.len]; simp)
      subst hxs
      have harr : arr.toList = [] := List.eq_nil_of_length_eq_zero (by rw [hr.1]; rfl)
      obtain ⟨β', h1, h2⟩ := hI.voidEmpty slot hv (H.set b .dead) (.inr ⟨b, hne, rfl⟩)
      refine ⟨.slice a 0 0, w, S, β', ?_, h1, h2, .refEmpty _ _ _ _⟩
      have := append_room (P := P) hT (w := w) (ty := ty) htd ob.known ob.seq a 0 0 0 vx arr w (hn w) (hf w rfl) (Nat.le_refl _) (fun ad _ => by rw [harr]; rfl) (fun _ => rfl)
      simpa using this
    · obtain ⟨v', w', β', h1, h2, h3, h4⟩ := grow_slot (P := P) hT hI (ty := ty) htd ob.known ob.seq ob.zero ob.zlen hv b hne a 0 0 n vx #[] arr [] xs (hn w) (hf w.drew rfl) (by cases a <;> simp [Builtin.firstCells, loadCells, loadCellsFrom]) ⟨rfl, fun i d h => by simp at h⟩ hr (by simp) ob.len (by omega) (by have := ob.max; omega) ob.bytes (H.set b .dead) (.inr rfl)
      simp only [List.nil_append, Nat.zero_add] at h2 h3 h4
      exact ⟨v', w', S, β', h1, h2, h3, h4⟩
  | ref _ _ _ _ blk off cap g1 g2 g3 T m g4 g5 =>
    by_cases hroom : len + n ≤ cap
    · rcases hI.live b cs hb with ⟨_, hk⟩ | ⟨b1, o1, vsA, T1, fr, h1, h2, h3, h4⟩
      · unfold Bk at hk g1; rw [hk] at g1; cases g1
      · have e : b1 = blk ∧ o1 = off := by unfold Bk at g1 h1; rw [g1] at h1; cases h1; exact ⟨rfl, rfl⟩
        obtain ⟨rfl, rfl⟩ := e
        have hm : m = vsA.size := by simp only [World.shape?, h4.heap, Option.some.injEq, Prod.mk.injEq] at g4; exact g4.2.symm
        subst hm
        have hxl := ob.len
        have hal : arr.size = xs.length := by have := hr.1; simpa using this
        have hcap : (len + n) * (τ e).size ≤ cap * (τ e).size := Nat.mul_le_mul_right _ hroom
        rw [Nat.add_mul] at hcap
        have hone : ∀ v ∈ arr.toList, v.oneCell' = true := fun v hv => by
          obtain ⟨i, hi, hv⟩ := List.mem_iff_getElem.1 hv
          obtain ⟨u, h5, h6, _⟩ := hr.2 i _ (List.getElem?_eq_getElem (by simp at hi; omega))
          rw [List.getElem?_eq_getElem hi] at h5
          cases h5; rw [← hv]; exact h6
        have hst := run_storeCells_any P b1 (o1 + o + len * (τ e).size) T1 fr arr.toList 0 vsA w h4.heap h3 (by simp; omega) hone
        simp only [Nat.add_zero] at hst
        have hrun := append_room (P := P) hT (w := w) (ty := ty) htd ob.known ob.seq (some ⟨b1, o1 + o, none⟩) len cap n vx arr _ (hn w) (hf w rfl) hroom (fun ad had => by cases had; rw [addr_at]; exact hst) (fun h => by cases h)
        have hslt : slot < H.length := (List.getElem?_eq_some_iff.1 hv).1
        have hβv := hI.void slot hv
        have hsl : (splice vsA.toList (o1 + o + len * (τ e).size) arr.toList).length = vsA.size := by rw [splice_length _ _ _ (by simp; omega)]; simp
        have hbk' : Bk (β.set slot (some (some (b1, o1 + o)))) slot (some (b1, o1 + o)) := by
          unfold Bk; exact List.getElem?_set_self (by rw [hI.len]; exact hslt)
        have := hI.step (w' := w.setRow b1 (splice vsA.toList (o1 + o + len * (τ e).size) arr.toList).toArray) (β' := β.set slot (some (some (b1, o1 + o)))) (H1 := H.set b .dead) slot b1 (o1 + o) _ T1 fr ((cs.drop o).take (len * (τ e).size) ++ xs) rfl rfl (by simp)
          (fun k _ hne => setRow_other w b1 k _ hne) (fun k x hx => by
            by_cases hkb : k = b1
            · subst hkb
              simp only [World.shape?, h4.heap, setRow_heap w k vsA _ T1 fr h4.heap] at hx ⊢
              simpa [hsl] using hx
            · simp only [World.shape?, setRow_other w b1 k _ hkb] at hx ⊢
              exact hx)
          (.inr ⟨b, cs, o1, hb, g1⟩) (setRow_heap w b1 vsA _ T1 fr h4.heap) (by simpa [hsl] using h3) (by simp) hslt
          (fun b' c hne' hl => by
            have hbb : b' ≠ b := fun e => by
              subst e
              rw [List.getElem?_set_self (hI.lt g1)] at hl; cases hl
            rw [List.getElem?_set_ne (Ne.symm hbb)] at hl
            exact ⟨hl, fun off' hk' => hbb (hI.apart b' b c cs b1 off' o1 hl hb hk' g1)⟩)
          (fun b' c _ hl => by
            rw [List.getElem?_set] at hl
            split at hl
            · split at hl <;> cases hl
            · exact hl)
          (fun b' _ hl => by
            rw [List.getElem?_set] at hl
            split at hl
            · split at hl <;> cases hl
            · exact hl)
          (by simp) (fun b' hne' => List.getElem?_set_ne (Ne.symm hne')) hbk' (fun x h => by unfold Bk at h; rw [hβv] at h; cases h)
          (fun i d hd => by
            simp only [List.getElem?_toArray]
            rw [splice_get _ _ _ (by simp; omega)]
            by_cases c1 : i < len * (τ e).size
            · rw [List.getElem?_append_left (by omega), List.getElem?_take_of_lt c1, List.getElem?_drop] at hd
              rw [if_pos (by omega)]
              obtain ⟨v, hv, hrl⟩ := h4.cell (o + i) d hd
              exact ⟨v, by rw [show o1 + o + i = o1 + (o + i) by omega]; simpa using hv, h4.one (o + i) v (List.getElem?_eq_some_iff.1 hd).1 hv, hrl⟩
            · rw [List.getElem?_append_right (by omega), hosl] at hd
              have hi2 := (List.getElem?_eq_some_iff.1 hd).1
              rw [if_neg (by omega), if_pos (by simp; omega)]
              obtain ⟨v, g6, g7, g8⟩ := hr.2 _ d hd
              exact ⟨v, by rw [show o1 + o + i - (o1 + o + len * (τ e).size) = i - len * (τ e).size by omega]; exact g6, g7, g8⟩)
        refine ⟨_, _, S, _, hrun, this.1, this.2, ?_⟩
        have := Rel.ref (w := w.setRow b1 (splice vsA.toList (o1 + o + len * (τ e).size) arr.toList).toArray) (S := S) (β := β.set slot (some (some (b1, o1 + o)))) slot 0 (len + n) (τ e).size b1 (o1 + o) cap hbk' hroom g3 T1 vsA.size (by simp only [World.shape?, setRow_heap w b1 vsA _ T1 fr h4.heap]; simp [hsl]) (by omega)
        simpa using this
    · obtain ⟨olds, h7, h8⟩ := load_cells (P := P) (w := w) (S := S) (β := β) ((cs.drop o).take (len * (τ e).size)) ⟨blk, off + o, none⟩ (fun k d hd => by
        rw [List.getElem?_take] at hd
        split at hd
        · rw [List.getElem?_drop] at hd
          obtain ⟨v, k1, k2, k3⟩ := hI.cellsAt (cs := cs) (by simp [cellsAt, hb, Blk.cells]) g1 (o + k) d hd
          exact ⟨v, by rw [addr_at, Nat.add_assoc]; exact k1, k2, k3⟩
        · cases hd)
      rw [hosl] at h7
      obtain ⟨v', w', β', k1, k2, k3, k4⟩ := grow_slot (P := P) hT hI (ty := ty) htd ob.known ob.seq ob.zero ob.zlen hv b hne (some ⟨blk, off + o, none⟩) len cap n vx olds arr _ xs (hn w) (hf w.drew rfl) (by simpa [Builtin.firstCells] using h7 w.drew rfl) h8 hr hosl ob.len (by omega) ob.max ob.bytes (H.set b .dead) (.inr rfl)
      exact ⟨v', w', S, β', k1, k2, k3, k4⟩

theorem append_tight (hT : TyOk P τ) (hI : AInv w S β H) {t t' e ty : TypeId} (htd : (τ t).td = .slice e) {x : D} {vx vs : Value} (hx : Rel w S β x vx) {xs es : List D} {n : Nat}
    (hs : Rel w S β (.sl (τ e).size es true) vs) (hel : elemCells H x = some (xs, n)) (ob : AppOb τ t' e xs n es.length) (hag : (τ e).td.isAgg = false → (τ e).size = 1) :
    ∃ v' w' S' β', (Builtin.append_ #[t, t'] ty #[vs, vx]).run P w = .ok v' w' ∧ AInv w' S' β' H ∧ Evo w S β H w' S' β' H ∧ Rel w' S' β' (.sl (τ e).size (es ++ chunk (τ e).td.isAgg (τ e).size n xs) false) v' := by
  obtain ⟨hn, arr, hf, hr⟩ := elem_ok (P := P) hI hx hel (τ e).size n ob.len (Nat.le_refl _)
  rw [← ob.len, List.take_length] at hr
  obtain ⟨c1, c2, c3⟩ := chunk_cells (τ e).td.isAgg (τ e).size hag n xs ob.len ob.one
  -- what the slice is
  have shape : ∃ a olds, vs = .slice a es.length es.length ∧ (∀ e', e' ∈ es → e'.cells.length = (τ e).size) ∧ (∀ w' : World, w'.heap = w.heap → (Builtin.firstCells (τ e).size es.length (.slice a es.length es.length)).run P w' = .ok olds w') ∧ RelCells w S β (es.flatMap D.cells) olds.toList := by
    cases hs with
    | slNone => exact ⟨none, #[], rfl, fun _ h => by simp at h, fun _ _ => rfl, rfl, fun i d h => by simp at h⟩
    | sl _ _ _ ad cap vf h1 h2 h3 h4 h5 h6 =>
      have : cap = es.length := h3 rfl
      subst this
      have hE : elemCells H (.sl (τ e).size es true) = some (es.flatMap D.cells, es.length) := rfl
      obtain ⟨_, olds, g1, g2⟩ := elem_ok (P := P) hI (.sl (τ e).size es true ad es.length vf h1 h2 h3 h4 h5 h6) hE (τ e).size es.length (flat_length _ es h4) (Nat.le_refl _)
      rw [← flat_length _ es h4, List.take_length] at g2
      exact ⟨some ad, olds, rfl, h4, g1, g2⟩
  obtain ⟨a, olds, rfl, he, ho, hro⟩ := shape
  rcases Nat.eq_zero_or_pos n with rfl | hpos
  · have hxs : xs = [] := List.eq_nil_of_length_eq_zero (by rw [ob.len]; simp)
    subst hxs
    have harr : arr.toList = [] := List.eq_nil_of_length_eq_zero (by rw [hr.1]; rfl)
    refine ⟨.slice a es.length es.length, w, S, β, ?_, hI, Evo.refl _ _ _ _, ?_⟩
    · have := append_room (P := P) hT (w := w) (ty := ty) htd ob.known ob.seq a es.length es.length 0 vx arr w (hn w) (hf w rfl) (Nat.le_refl _) (fun ad _ => by rw [harr]; rfl) (fun _ => rfl)
      simpa using this
    · simp only [chunk, List.append_nil]
      generalize hl : es.length = k at hs ⊢
      cases hs with
      | slNone => exact .slNone _ _
      | sl _ _ _ ad cap vf h1 h2 h3 h4 h5 h6 => exact .sl _ _ _ ad _ vf h1 h2 (fun h => by cases h) h4 h5 h6
  · have hrun := append_grow (P := P) hT (w := w) (ty := ty) htd ob.known ob.seq a es.length es.length n vx olds arr (hn w) (hf w.drew rfl) (ho w.drew rfl) (by omega) ob.max ob.bytes
    obtain ⟨I1, E1⟩ := hI.drew
    obtain ⟨I2, E2⟩ := I1.allocPure (.cells (olds ++ arr ++ Builtin.zeroCells (τ e).zero.cells (grownCap w (es.length + n) es.length e - (es.length + n))) e)
    refine ⟨_, _, _, _, hrun, I2, E1.trans E2, ?_⟩
    have hge := grownCap_ge w (es.length + n) es.length e
    have hlen : (es ++ chunk (τ e).td.isAgg (τ e).size n xs).length = es.length + n := by simp [c2]
    have hfm : (es ++ chunk (τ e).td.isAgg (τ e).size n xs).flatMap D.cells = es.flatMap D.cells ++ xs := by rw [List.flatMap_append, c1]
    have hall := (hro.append hr)
    have key := sl_of_cells (w := w.drew.alloc (.cells (olds ++ arr ++ Builtin.zeroCells (τ e).zero.cells (grownCap w (es.length + n) es.length e - (es.length + n))) e)) (S := fun b => S b ∨ b = w.drew.heap.size) (β := β) (sz := (τ e).size)
      (es := es ++ chunk (τ e).td.isAgg (τ e).size n xs) (tight := false) (fun x hx => by
        rcases List.mem_append.1 hx with h | h
        · exact he x h
        · exact c3 x h) (olds ++ arr) w.heap.size (grownCap w (es.length + n) es.length e) (.inr (by simp)) (T := e) (fr := (0, 0)) (cells := olds ++ arr ++ Builtin.zeroCells (τ e).zero.cells (grownCap w (es.length + n) es.length e - (es.length + n)))
      (by
        have := heap_alloc_new w.drew (.cells (olds ++ arr ++ Builtin.zeroCells (τ e).zero.cells (grownCap w (es.length + n) es.length e - (es.length + n))) e)
        rw [World.size_drew] at this
        exact this)
      (fun i v hv => by rw [Array.getElem?_append_left (Array.getElem?_eq_some_iff.1 hv).1]; exact hv)
      (by
        rw [hfm, Array.toList_append]
        exact ⟨hall.1, fun i d hd => let ⟨v, a1, a2, a3⟩ := hall.2 i d hd; ⟨v, a1, a2, a3.evo hI (E1.trans E2)⟩⟩)
      (by rw [hlen]; exact hge) (grownCap_le_maxLen w _ _ e ob.max) (fun h => by cases h)
    rw [hlen] at key
    exact key

/-- What a slice's cells are, loaded. -/
theorem refc_olds (hI : AInv w S β H) {b o len sz c : Nat} {a : Option Addr} {n1 c1 : Nat} (hs : Rel w S β (.refc b o len sz c) (.slice a n1 c1)) {cs : List D} (hb : H[b]? = some (.live cs)) (hfit : o + len * sz ≤ cs.length) :
    n1 = len ∧ c1 = c ∧ ∃ olds : Array Value, (∀ w' : World, w'.heap = w.heap → (Builtin.firstCells sz len (.slice a len c)).run P w' = .ok olds w') ∧ RelCells w S β ((cs.drop o).take (len * sz)) olds.toList := by
  have hosl : ((cs.drop o).take (len * sz)).length = len * sz := by simp; omega
  cases hs with
  | refcEmpty _ _ _ a =>
    refine ⟨rfl, rfl, #[], fun w' _ => ?_, by simp, fun i d hd => by simp at hd⟩
    cases a <;> simp [Builtin.firstCells, loadCells, loadCellsFrom]
  | refc _ _ _ _ _ blk off g1 g2 g3 T m g4 g5 =>
    obtain ⟨olds, h7, h8⟩ := load_cells (P := P) (w := w) (S := S) (β := β) ((cs.drop o).take (len * sz)) ⟨blk, off + o, none⟩ (fun k d hd => by
      rw [List.getElem?_take] at hd
      split at hd
      · rw [List.getElem?_drop] at hd
        obtain ⟨v, k1, k2, k3⟩ := hI.cellsAt (cs := cs) (by simp [cellsAt, hb, Blk.cells]) g1 (o + k) d hd
        exact ⟨v, by rw [addr_at, Nat.add_assoc]; exact k1, k2, k3⟩
      · cases hd)
    rw [hosl] at h7
    exact ⟨rfl, rfl, olds, fun w' hw => by simpa [Builtin.firstCells] using h7 w' hw, h8⟩

theorem append_refc_grow (hT : TyOk P τ) (hI : AInv w S β H) {t t' e ty : TypeId} (htd : (τ t).td = .slice e) {slot : Nat} (hv : H[slot]? = some Blk.void) {x : D} {vx vs : Value} (hx : Rel w S β x vx) {xs : List D} {n b o len c : Nat}
    (hs : Rel w S β (.refc b o len (τ e).size c) vs) {cs : List D} (hb : H[b]? = some (.live cs)) (hne : b ≠ slot) (hfit : o + len * (τ e).size ≤ cs.length) (hel : elemCells H x = some (xs, n)) (ob : AppOb τ t' e xs n len) (hroom : c < len + n) :
    ∃ v' w' S' β', (Builtin.append_ #[t, t'] ty #[vs, vx]).run P w = .ok v' w' ∧ AInv w' S' β' (H.set slot (.live ((cs.drop o).take (len * (τ e).size) ++ xs))) ∧
      Evo w S β H w' S' β' (H.set slot (.live ((cs.drop o).take (len * (τ e).size) ++ xs))) ∧ Rel w' S' β' (.ref slot 0 (len + n) (τ e).size) v' := by
  obtain ⟨hn, arr, hf, hr⟩ := elem_ok (P := P) hI hx hel (τ e).size n ob.len (Nat.le_refl _)
  rw [← ob.len, List.take_length] at hr
  have hosl : ((cs.drop o).take (len * (τ e).size)).length = len * (τ e).size := by simp; omega
  obtain ⟨a, rfl⟩ : ∃ a, vs = .slice a len c := by cases hs <;> exact ⟨_, rfl⟩
  obtain ⟨_, _, olds, h7, h8⟩ := refc_olds (P := P) hI hs hb hfit
  obtain ⟨v', w', β', k1, k2, k3, k4⟩ := grow_slot (P := P) hT hI (ty := ty) htd ob.known ob.seq ob.zero ob.zlen hv b hne a len c n vx olds arr _ xs (hn w) (hf w.drew rfl) (h7 w.drew rfl) h8 hr hosl ob.len hroom ob.max ob.bytes H (.inl rfl)
  exact ⟨v', w', S, β', k1, k2, k3, k4⟩

theorem append_refc_room (hT : TyOk P τ) (hI : AInv w S β H) {t t' e ty : TypeId} (htd : (τ t).td = .slice e) {x : D} {vx vs : Value} (hx : Rel w S β x vx) {xs : List D} {n b o len c : Nat}
    (hs : Rel w S β (.refc b o len (τ e).size c) vs) {cs : List D} (hb : H[b]? = some (.live cs)) (hfit : o + len * (τ e).size ≤ cs.length) (hel : elemCells H x = some (xs, n)) (ob : AppOb τ t' e xs n len) (hroom : len + n ≤ c) :
    ∃ v' w' S' β', (Builtin.append_ #[t, t'] ty #[vs, vx]).run P w = .ok v' w' ∧ AInv w' S' β' (H.set b (.live (splice cs (o + len * (τ e).size) xs))) ∧
      Evo w S β H w' S' β' (H.set b (.live (splice cs (o + len * (τ e).size) xs))) ∧ Rel w' S' β' (.refc b o (len + n) (τ e).size c) v' := by
  obtain ⟨hn, arr, hf, hr⟩ := elem_ok (P := P) hI hx hel (τ e).size n ob.len (Nat.le_refl _)
  rw [← ob.len, List.take_length] at hr
  cases hs with
  | refcEmpty _ _ _ a =>
    have hn0 : n = 0 := by omega
    subst hn0
    have hxs : xs = [] := List.eq_nil_of_length_eq_zero (by rw [ob.len]; simp)
    subst hxs
    have harr : arr.toList = [] := List.eq_nil_of_length_eq_zero (by rw [hr.1]; rfl)
    have e1 : splice cs (o + 0 * (τ e).size) ([] : List D) = cs := by simp [splice]
    rw [e1, set_self hb]
    refine ⟨.slice a 0 0, w, S, β, ?_, hI, Evo.refl _ _ _ _, .refcEmpty _ _ _ _⟩
    have := append_room (P := P) hT (w := w) (ty := ty) htd ob.known ob.seq a 0 0 0 vx arr w (hn w) (hf w rfl) (Nat.le_refl _) (fun ad _ => by rw [harr]; rfl) (fun _ => rfl)
    simpa using this
  | refc _ _ _ _ _ blk off g1 g2 g3 T m g4 g5 =>
    have hcap : (len + n) * (τ e).size ≤ c * (τ e).size := Nat.mul_le_mul_right _ hroom
    rw [Nat.add_mul] at hcap
    obtain ⟨w', h3, h4, h5⟩ := hI.writeOn (P := P) hb g1 (o + len * (τ e).size) xs arr.toList hr.1 hfit ⟨T, m, g4, by rw [ob.len]; omega⟩ hr.2
    have hrun := append_room (P := P) hT (w := w) (ty := ty) htd ob.known ob.seq (some ⟨blk, off + o, none⟩) len c n vx arr w' (hn w) (hf w rfl) hroom (fun ad had => by cases had; rw [addr_at, Nat.add_assoc]; exact h3) (fun h => by cases h)
    exact ⟨_, w', S, β, hrun, h4, h5, .refc _ _ _ _ _ blk off (h5.bk _ _ g1) hroom g3 T m (h5.shape _ _ g4) g5⟩

theorem appendZ_ok (hT : TyOk P τ) (hI : AInv w S β H) {t t' ty : TypeId} {slot : Nat} (hv : H[slot]? = some Blk.void) {s : D} {vs : Value} {kq : IntKind} {kk : Int} (hs : Rel w S β s vs) :
    OpOk P w S β H (Builtin.append_ #[t, t'] ty #[vs, .int kq kk]) (aAppendZ τ t t' s kk slot H) := by
  unfold aAppendZ
  cases htd : (τ t).td <;> simp only <;> first | exact OpOk.bad | skip
  rename_i e
  cases s <;> (try simp only) <;> first | exact OpOk.bad | skip
  rename_i b o len sz c
  split
  · rename_i cs hb
    intro ho
    obtain ⟨o1, o2, rfl, o3, o4, o5, o6, o7, o8, o9, kn, o10⟩ := ho
    obtain ⟨k, rfl⟩ : ∃ k : Nat, kk = k := ⟨kk.toNat, by omega⟩
    simp only [Int.toNat_natCast] at o2 o4 o5 ⊢
    have hosl : ((cs.drop o).take (len * (τ e).size)).length = len * (τ e).size := by simp; omega
    obtain ⟨a, rfl⟩ : ∃ a, vs = .slice a len c := by cases hs <;> exact ⟨_, rfl⟩
    obtain ⟨_, _, olds, h7, hos⟩ := refc_olds (P := P) hI hs hb o3
    have hu := (hT t (by rw [htd]; rfl)).slice htd
    have hun := (hT t' (by rw [o10]; rfl)).int o10
    obtain ⟨i, hi, hz, hsz, hby⟩ := (hT e o6).info
    have hrun := Lib.run_append_grow_zeros (P := P) w t t' ty e i (τ e).zero kq kn hu hun hi hz a len c olds.toList (by rw [hsz]; simpa using h7 w.drew rfl) k (by omega) (by omega) o2 (by unfold maxLen at o5; omega)
      (by rw [hby]; have : k * (τ e).bytes ≤ (len + k) * (τ e).bytes := Nat.mul_le_mul_right _ (by omega); omega) (by rw [hby]; exact growslice_fits o2 o4)
    obtain ⟨I1, E1⟩ := hI.drew
    have hzr := zeros_rel (w := w) (S := S) (β := β) o7 (τ e).size o8 k (k * (τ e).size) rfl
    have hzl : ((List.replicate k (ofVal (τ e).zero).cells).flatten).length = k * (τ e).size := by simp [o8]
    have z1 : (τ e).zero.cells.size = (τ e).size := by
      have := (zero_cells (w := w) (S := S) (β := β) o7).1
      simp at this; omega
    have hzc : (Builtin.zeroCells (τ e).zero.cells k).toList = ((Array.range (k * (τ e).size)).map ((τ e).zero.cells[· % (τ e).zero.cells.size]!)).toList := by
      simp [Builtin.zeroCells, z1]
    rw [← hzc] at hzr
    have hall := (hos.append hzr).drew
    obtain ⟨β', I3, E3, hk⟩ := I1.alloc slot hv (olds.toList.toArray ++ Builtin.zeroCells (τ e).zero.cells k ++ Builtin.zeroCells (τ e).zero.cells (grownCap w (len + k) c e - (len + k))) e ((cs.drop o).take (len * (τ e).size) ++ (List.replicate k (ofVal (τ e).zero).cells).flatten) (fun i d hd => by
      obtain ⟨v, h1, h2, h3⟩ := hall.2 i d hd
      refine ⟨v, ?_, h2, h3⟩
      have hlt : i < olds.size + (Builtin.zeroCells (τ e).zero.cells k).size := by
        have := (List.getElem?_eq_some_iff.1 h1).1
        simpa using this
      rw [Array.getElem?_append_left (by simpa using hlt)]
      rw [← Array.getElem?_toList, Array.toList_append]
      simpa using h1)
    refine ⟨_, _, S, β', hrun, I3, E1.trans E3, ?_⟩
    have hge := grownCap_ge w (len + k) c e
    refine .ref slot 0 (len + k) _ w.heap.size 0 _ hk hge (grownCap_le_maxLen w _ _ e o5) e (olds.toList.toArray ++ Builtin.zeroCells (τ e).zero.cells k ++ Builtin.zeroCells (τ e).zero.cells (grownCap w (len + k) c e - (len + k))).size ?_ ?_
    · unfold World.shape?
      have := heap_alloc_new w.drew (.cells (olds.toList.toArray ++ Builtin.zeroCells (τ e).zero.cells k ++ Builtin.zeroCells (τ e).zero.cells (grownCap w (len + k) c e - (len + k))) e)
      rw [World.size_drew] at this
      rw [this]
    · have q1 := hos.1
      simp only [Array.length_toList] at q1
      simp only [Array.size_append, size_zeroCells, z1, List.size_toArray, Array.length_toList, q1, hosl, ← Nat.add_mul]
      have : len + k + (grownCap w (len + k) c e - (len + k)) = grownCap w (len + k) c e := by omega
      rw [this]; omega
  · exact OpOk.bad

theorem append_ok (hT : TyOk P τ) (hI : AInv w S β H) {ts : List TypeId} {ty : TypeId} {slot : Nat} (hv : H[slot]? = some Blk.void) {s x : D} {vs vx : Value} (hs : Rel w S β s vs) (hx : Rel w S β x vx) :
    OpOk P w S β H (Builtin.append_ ts.toArray ty #[vs, vx]) (aAppend τ ts s x slot H) := by
  unfold aAppend
  split
  · rename_i t t'
    split
    · rename_i kk
      cases hx
      exact appendZ_ok hT hI hv hs
    cases htd : (τ t).td <;> simp only <;> first | exact OpOk.bad | skip
    rename_i e
    cases hel : elemCells H x with
    | none => exact OpOk.bad
    | some p =>
      obtain ⟨xs, n⟩ := p
      simp only
      cases s <;> (try simp only) <;> first | exact OpOk.bad | skip
      · intro ho
        obtain ⟨o1, o2, o3, o4, o5, o7, o8, o9⟩ := ho
        cases hs
        exact append_nil hT hI htd hv hx hel ⟨o1, o2, by simpa using o3, by simpa using o4, o5, o7, o8, o9⟩ none
      · rename_i sz es tight
        cases tight <;> (try simp only) <;> first | exact OpOk.bad | skip
        cases hemp : es.isEmpty
        case true =>
          simp only [cond_true]
          intro ho
          obtain ⟨o1, o2, o3, o4, o5, o7, o8, o9⟩ := ho
          have he0 : es = [] := by simpa using hemp
          subst he0
          cases hs with
          | slNone => exact append_nil hT hI htd hv hx hel ⟨o1, o2, by simpa using o3, by simpa using o4, o5, o7, o8, o9⟩ none
          | sl _ _ _ ad cap vf h1 h2 h3 h4 h5 h6 =>
            have : cap = 0 := h3 rfl
            subst this
            exact append_nil hT hI htd hv hx hel ⟨o1, o2, by simpa using o3, by simpa using o4, o5, o7, o8, o9⟩ (some ad)
        simp only [cond_false]
        intro ho
        obtain ⟨o1, o2, rfl, o3, o4, o5, o7, o8, o9, o10⟩ := ho
        exact append_tight hT hI htd hx hs hel ⟨o1, o2, o3, o4, o5, o7, o8, o9⟩ o10
      · rename_i b o len sz
        split
        · rename_i cs hb
          intro ho
          obtain ⟨o1, o2, rfl, o3, o4, o5, o6, o7, o8, o9, o10⟩ := ho
          exact append_ref hT hI htd hv hx hs hb o10 o3 hel ⟨o1, o2, o4, o5, o6, o7, o8, o9⟩
        · exact OpOk.bad
      · rename_i b o len sz c
        split
        · rename_i cs hb
          cases hrm : decide (len + n ≤ c)
          · simp only [cond_false]
            intro ho
            obtain ⟨o1, o2, rfl, o3, o4, o5, o6, o7, o8, o9, o10⟩ := ho
            exact append_refc_grow hT hI htd hv hx hs hb o10 o3 hel ⟨o1, o2, o4, o5, o6, o7, o8, o9⟩ (by have := of_decide_eq_false hrm; omega)
          · simp only [cond_true]
            intro ho
            obtain ⟨o1, o2, rfl, o3, o4, o5, o6, o7, o8, o9, o10⟩ := ho
            exact append_refc_room hT hI htd hx hs hb o3 hel ⟨o1, o2, o4, o5, o6, o7, o8, o9⟩ (of_decide_eq_true hrm)
        · exact OpOk.bad
  · exact OpOk.bad

end
end Go.Proofs.YtlkffgmejcgdbaaDoor

/- The abstract operations are sound, ninth part: the copy, the conversions. Of no program. -/
namespace Go.Proofs.YtlkffgmejcgdbaaDoor
set_option linter.all false
section
variable {P : Program} {τ : Ty} {w : World} {S : Nat → Prop} {β : Bmap} {H : AHeap}

theorem copy_ok (hT : TyOk P τ) (hI : AInv w S β H) {ts : List TypeId} {ty : TypeId} {d s : D} {vd vs : Value} (hd : Rel w S β d vd) (hs : Rel w S β s vs) :
    OpOk P w S β H (Builtin.copy_ ts.toArray ty #[vd, vs]) (aCopy τ ts d s H) := by
  unfold aCopy
  split
  · rename_i t tr
    cases htd : (τ t).td <;> simp only <;> first | exact OpOk.bad | skip
    rename_i e
    cases d <;> (try simp only) <;> first | exact OpOk.bad | skip
    rename_i b o len sz
    split
    · rename_i cs xs n hb hel
      intro ho
      obtain ⟨o1, rfl, o2, o3⟩ := ho
      have hu := (hT t (by rw [htd]; rfl)).slice htd
      have hsz := (hT e o3).run_sizeOf w
      obtain ⟨hn, arr, hf, hr⟩ := elem_ok (P := P) hI hs hel (τ e).size (min n len) o1 (Nat.min_le_left _ _)
      have hml : min n len * (τ e).size ≤ n * (τ e).size := Nat.mul_le_mul_right _ (Nat.min_le_left _ _)
      have hml2 : min n len * (τ e).size ≤ len * (τ e).size := Nat.mul_le_mul_right _ (Nat.min_le_right _ _)
      have hfw := hf w rfl
      have hmax : min n len ≤ maxLen := by
        cases hd with
        | ref _ _ _ _ blk off cap g1 g2 g3 T m g4 g5 => omega
        | refEmpty => simp
      have hmin : Nat.min n len = min n len := rfl
      by_cases hz : (xs.take (min n len * (τ e).size)) = []
      · have harr : arr.toList = [] := List.eq_nil_of_length_eq_zero (by rw [hr.1, hz]; rfl)
        rw [hz]
        have e1 : splice cs o ([] : List D) = cs := by simp [splice]
        rw [e1, set_self hb]
        refine ⟨_, w, S, β, ?_, hI, Evo.refl _ _ _ _, goInt_rel hmax⟩
        cases hd with
        | ref _ _ _ _ blk off cap g1 g2 g3 T m g4 g5 => simp [Builtin.copy_, run_underlying hu, hn w, hsz, hmin, hfw, harr, storeCells]
        | refEmpty _ _ _ a =>
          have hfw0 : (Builtin.firstCells (τ e).size 0 vs).run P w = .ok arr w := by simpa using hfw
          cases a <;> simp [Builtin.copy_, run_underlying hu, hn w, hsz, hmin, hfw0, harr, storeCells]
      · cases hd with
        | refEmpty _ _ _ a => simp at hz
        | ref _ _ _ _ blk off cap g1 g2 g3 T m g4 g5 =>
          obtain ⟨w', h3, h4, h5⟩ := hI.write (P := P) hb g1 o (xs.take (min n len * (τ e).size)) arr.toList (.inr hz) hr.1 (by rw [List.length_take]; omega) hr.2
          refine ⟨_, w', S, β, ?_, h4, h5, goInt_rel hmax⟩
          simp [Builtin.copy_, run_underlying hu, hn w, hsz, hmin, hfw, h3]
    · exact OpOk.bad
    rename_i b o len sz c
    split
    · rename_i cs xs n hb hel
      intro ho
      obtain ⟨o1, rfl, o2, o3⟩ := ho
      have hu := (hT t (by rw [htd]; rfl)).slice htd
      have hsz := (hT e o3).run_sizeOf w
      obtain ⟨hn, arr, hf, hr⟩ := elem_some (P := P) hI hs hel (τ e).size (min n len) o1 (Nat.min_le_left _ _)
      have hml : min n len * (τ e).size ≤ n * (τ e).size := Nat.mul_le_mul_right _ (Nat.min_le_left _ _)
      have hml2 : min n len * (τ e).size ≤ len * (τ e).size := Nat.mul_le_mul_right _ (Nat.min_le_right _ _)
      have hfw := hf w rfl
      have hmax : min n len ≤ maxLen := by
        cases hd with
        | refc _ _ _ _ _ blk off g1 g2 g3 T m g4 g5 => omega
        | refcEmpty => simp
      have hmin : Nat.min n len = min n len := rfl
      cases hd with
      | refcEmpty _ _ _ a =>
        have e0 : min n 0 = 0 := by simp
        have hz : xs.take (min n 0 * (τ e).size) = [] := by simp
        have harr : arr.toList = [] := List.eq_nil_of_length_eq_zero (by rw [hr.1, hz]; rfl)
        rw [hz]
        have e1 : splice cs o ([] : List D) = cs := by simp [splice]
        rw [e1, set_self hb]
        refine ⟨_, w, S, β, ?_, hI, Evo.refl _ _ _ _, goInt_rel hmax⟩
        have hfw0 : (Builtin.firstCells (τ e).size 0 vs).run P w = .ok arr w := by simpa using hfw
        cases a <;> simp [Builtin.copy_, run_underlying hu, hn w, hsz, hmin, hfw0, harr, storeCells]
      | refc _ _ _ _ _ blk off g1 g2 g3 T m g4 g5 =>
        have hcap : len * (τ e).size ≤ c * (τ e).size := Nat.mul_le_mul_right _ g2
        obtain ⟨w', h3, h4, h5⟩ := hI.writeOn (P := P) hb g1 o (xs.take (min n len * (τ e).size)) arr.toList hr.1 o2 ⟨T, m, g4, by rw [List.length_take]; omega⟩ hr.2
        refine ⟨_, w', S, β, ?_, h4, h5, goInt_rel hmax⟩
        simp [Builtin.copy_, run_underlying hu, hn w, hsz, hmin, hfw, h3]
    · exact OpOk.bad
  · exact OpOk.bad

theorem clear_ok (hT : TyOk P τ) (hI : AInv w S β H) {t ty : TypeId} {x : D} {v : Value} (hx : Rel w S β x v) :
    OpOk P w S β H (Builtin.clear_ #[t] ty #[v]) (aClear τ t x H) := by
  unfold aClear
  cases htd : (τ t).td <;> simp only <;> first | exact OpOk.bad | skip
  rename_i e
  cases x <;> (try simp only) <;> first | exact OpOk.bad | skip
  rename_i b o len sz c
  split
  · rename_i cs hb
    intro ho
    obtain ⟨rfl, o1, o2, o3, o4⟩ := ho
    have hu := (hT t (by rw [htd]; rfl)).slice htd
    have hz := (hT e o2).run_zero w
    have tupR : ∀ (w : World) S β, Rel w S β (.tup []) (.tuple #[]) := fun w S β => .tup [] #[] rfl (fun i d v hd _ => by simp at hd)
    have z1 : (τ e).zero.cells.size = (τ e).size := by
      have := (zero_cells (w := w) (S := S) (β := β) o3).1
      simp at this; omega
    rcases Nat.eq_zero_or_pos len with rfl | hpos
    · have e1 : splice cs o ((List.replicate 0 (ofVal (τ e).zero).cells).flatten : List D) = cs := by simp [splice]
      rw [e1, set_self hb]
      refine ⟨.tuple #[], w, S, β, ?_, hI, Evo.refl _ _ _ _, tupR _ _ _⟩
      cases hx with
      | refcEmpty _ _ _ a => cases a <;> simp [Builtin.clear_, run_underlying hu]
      | refc _ _ _ _ _ blk off g1 g2 g3 T m g4 g5 => simp [Builtin.clear_, run_underlying hu]
    · cases hx with
      | refcEmpty => omega
      | refc _ _ _ _ _ blk off g1 g2 g3 T m g4 g5 =>
        have hzr := zeros_rel (w := w) (S := S) (β := β) o3 (τ e).size o4 len (len * (τ e).size) rfl
        have hzc : (Builtin.zeroCells (τ e).zero.cells len).toList = ((Array.range (len * (τ e).size)).map ((τ e).zero.cells[· % (τ e).zero.cells.size]!)).toList := by
          simp [Builtin.zeroCells, z1]
        rw [← hzc] at hzr
        have hzl : ((List.replicate len (ofVal (τ e).zero).cells).flatten).length = len * (τ e).size := by simp [o4]
        have hcap : len * (τ e).size ≤ c * (τ e).size := Nat.mul_le_mul_right _ g2
        obtain ⟨w', h3, h4, h5⟩ := hI.writeOn (P := P) hb g1 o _ (Builtin.zeroCells (τ e).zero.cells len).toList hzr.1 (by omega) ⟨T, m, g4, by rw [hzl]; omega⟩ hzr.2
        refine ⟨.tuple #[], w', S, β, ?_, h4, h5, tupR _ _ _⟩
        obtain ⟨m', rfl⟩ : ∃ m', len = m' + 1 := ⟨len - 1, by omega⟩
        simp [Builtin.clear_, run_underlying hu, hz, h3]
  · exact OpOk.bad

theorem bytes_of (xs : List D) (vs : List Value) (h : RelCells w S β xs vs) (hb : xs.all isByte = true) : ∃ ns : List Int, vs = ns.map (Value.int .u8) ∧ xs = ns.map (D.int .u8) := by
  have conc : ∀ (xs : List D) (vs : List Value), vs.length = xs.length → (∀ (i : Nat) (d : D), xs[i]? = some d → ∃ v, vs[i]? = some v ∧ v.oneCell' = true ∧ Rel w S β d v) → xs.all isByte = true → ∃ ns : List Int, vs = ns.map (Value.int .u8) ∧ xs = ns.map (D.int .u8) := by
    intro xs
    induction xs with
    | nil => intro vs hl _ _; exact ⟨[], List.eq_nil_of_length_eq_zero (by simpa using hl), rfl⟩
    | cons x xs ih =>
      intro vs hl hr hb
      cases vs with
      | nil => simp at hl
      | cons v vs =>
        simp only [List.all_cons, Bool.and_eq_true] at hb
        obtain ⟨ns, h1, h2⟩ := ih vs (by simpa using hl) (fun i d hd => by simpa using hr (i + 1) d (by simpa using hd)) hb.2
        obtain ⟨v', h3, _, h4⟩ := hr 0 x rfl
        simp only [List.getElem?_cons_zero, Option.some.injEq] at h3
        subst h3
        cases x <;> simp [isByte] at hb
        rename_i k n
        cases k <;> simp at hb
        cases h4
        exact ⟨n :: ns, by rw [h1]; rfl, by rw [h2]; rfl⟩
  exact conc xs vs h.1 h.2 hb

theorem bytes_str {a : Addr} {len cap : Nat} (ds : List D) (hl : ds.length = len) (hlm : len ≤ maxLen) (hc : ∀ (j : Nat) (d : D), ds[j]? = some d → ∃ v, w.cell? (a.add j) = some v ∧ v.oneCell' = true ∧ Rel w S β d v) (hb : ds.all isByte = true) :
    ∃ v, (Conv.bytesToString (.slice (some a) len cap)).run P w = .ok v w ∧ Rel w S β (.str (ds.map unbyte)) v := by
  obtain ⟨arr, h1, h2⟩ := load_cells (P := P) ds a hc
  obtain ⟨ns, h3, h4⟩ := bytes_of ds arr.toList h2 hb
  have h5 : arr = (ns.map (Value.int .u8)).toArray := by rw [← h3]
  have h6 := run_bytesToString (P := P) w a len cap ns (by rw [← hl, h1 w rfl, h5])
  rw [foldl_push_bytes] at h6
  refine ⟨_, h6, ?_⟩
  subst h4
  have e : (ByteArray.empty.data ++ (ns.map fun n => UInt8.ofNat n.toNat).toArray) = ((ns.map (D.int .u8)).map unbyte).toArray := by
    apply Array.ext'
    simp [unbyte, Function.comp_def]
  rw [e]
  exact .str _ (by simp at hl ⊢; omega)

theorem conv_ok (hT : TyOk P τ) (hI : AInv w S β H) {src dst : TypeId} {slot : Nat} (hv : H[slot]? = some Blk.void ∨ ∀ e, (τ dst).td ≠ .slice e) {x : D} {v : Value} (hx : Rel w S β x v) :
    OpOk P w S β H (convert src dst v) (aConv τ src dst x slot H) := by
  unfold aConv
  cases htd : (τ dst).td <;> simp only <;> first | exact OpOk.bad | skip
  · -- to a number
    rename_i k
    have hu := (hT dst (by rw [htd]; rfl)).int htd
    cases hx <;> simp only <;> first | exact OpOk.bad | skip
    refine OpOk.same hI fun ho => ⟨_, ?_, Rel.wrapped k _⟩
    have h2 := (hT src ho).und
    cases hs : P.underlying src with
    | none => rw [hs] at h2; cases h2
    | some d => simp [convert, run_underlying hu, run_underlying hs, Conv.intToInt]
  · -- to a string
    have hu := (hT dst (by rw [htd]; rfl)).str htd
    cases x <;> (try simp only) <;> first | exact OpOk.bad | skip
    · refine OpOk.same hI fun ho => ⟨_, ?_, hx⟩
      have hs := (hT src (by rw [ho]; rfl)).str ho
      cases hx
      simp [convert, run_underlying hu, run_underlying hs]
    · refine OpOk.same hI fun ho => ?_
      obtain ⟨e, h1, h2⟩ := ho
      have hs := (hT src (by rw [h1]; rfl)).slice h1
      have he := (hT e (by rw [h2]; rfl)).int h2
      cases hx
      refine ⟨.string .empty, ?_, .str [] (by simp)⟩
      rw [run_convert_bytes_string w src dst e none 0 0 hs he hu]
      rfl
    · rename_i sz es tight
      refine OpOk.same hI fun ho => ?_
      obtain ⟨⟨e, h1, h2⟩, rfl, h3⟩ := ho
      have hs := (hT src (by rw [h1]; rfl)).slice h1
      have he := (hT e (by rw [h2]; rfl)).int h2
      cases hx with
      | slNone =>
        refine ⟨.string .empty, ?_, .str [] (by simp)⟩
        rw [run_convert_bytes_string w src dst e none 0 0 hs he hu]
        rfl
      | sl _ _ _ ad cap vf g1 g2 g3 g4 g5 g6 =>
        have one : ∀ e, e ∈ es → e.cells = [e] := fun e he => by
          have := List.all_eq_true.1 h3 e he
          cases e <;> simp [isByte] at this; rfl
        obtain ⟨u, k1, k2⟩ := bytes_str (P := P) (w := w) (S := S) (β := β) (a := ad) (len := es.length) (cap := cap) es rfl (by omega) (fun j d hd => by
          have hj := (List.getElem?_eq_some_iff.1 hd).1
          have := g5 j (by omega)
          refine ⟨vf j, this.2.1, this.2.2, ?_⟩
          have := g6 j d 0 d hd (by rw [one d (List.mem_of_getElem? hd)]; rfl)
          simpa using this) h3
        exact ⟨u, by rw [run_convert_bytes_string w src dst e _ _ _ hs he hu]; exact k1, k2⟩
    · rename_i b o len sz
      split
      · rename_i cs hcs
        refine OpOk.same hI fun ho => ?_
        obtain ⟨⟨e, h1, h2⟩, rfl, hfit, h3⟩ := ho
        have hs := (hT src (by rw [h1]; rfl)).slice h1
        have he := (hT e (by rw [h2]; rfl)).int h2
        cases hx with
        | refEmpty _ _ _ a =>
          have e0 : (((cs.drop o).take 0).map unbyte) = [] := by simp
          rw [e0]
          refine ⟨.string .empty, ?_, .str [] (by simp)⟩
          rw [run_convert_bytes_string w src dst e a 0 0 hs he hu]
          cases a <;> simp [Conv.bytesToString, loadCells, loadCellsFrom]
        | ref _ _ _ _ blk off cap g1 g2 g3 T m g4 g5 =>
          obtain ⟨u, k1, k2⟩ := bytes_str (P := P) (w := w) (S := S) (β := β) (a := ⟨blk, off + o, none⟩) (len := len) (cap := cap) ((cs.drop o).take len) (by simp; omega) (by omega) (fun j d hd => by
            rw [List.getElem?_take] at hd
            split at hd
            · rw [List.getElem?_drop] at hd
              obtain ⟨v, q1, q2, q3⟩ := hI.cellsAt hcs g1 (o + j) d hd
              exact ⟨v, by rw [addr_at, Nat.add_assoc]; exact q1, q2, q3⟩
            · cases hd) h3
          exact ⟨u, by rw [run_convert_bytes_string w src dst e _ _ _ hs he hu]; exact k1, k2⟩
      · exact OpOk.bad
  · -- to bytes
    rename_i e
    have hv := hv.resolve_right (fun h => h e htd)
    have hu := (hT dst (by rw [htd]; rfl)).slice htd
    cases hx <;> simp only <;> first | exact OpOk.bad | skip
    rename_i s hs
    intro ho
    obtain ⟨h1, h2, h3⟩ := ho
    have he := (hT e (by rw [h1]; rfl)).int h1
    have hss := (hT src (by rw [h3]; rfl)).str h3
    have hrun := Lib.run_convert_string_bytes (P := P) w src dst e ⟨⟨s⟩⟩ hss hu he
    have hsz : (⟨⟨s⟩⟩ : ByteArray).size = s.length := rfl
    have hlt : slot < H.length := (List.getElem?_eq_some_iff.1 hv).1
    have hβv := hI.void slot hv
    have hbk' : Bk (β.set slot (some (some (w.heap.size, 0)))) slot (some (w.heap.size, 0)) := by
      unfold Bk; exact List.getElem?_set_self (by rw [hI.len]; exact hlt)
    have hcells : (Lib.bytesCells w e ⟨⟨s⟩⟩).size = grownCap w s.length 0 e := by
      have := grownCap_ge w s.length 0 e
      simp [Lib.bytesCells, hsz]; omega
    have := hI.step (w' := Lib.bytesWorld w e ⟨⟨s⟩⟩) (β' := β.set slot (some (some (w.heap.size, 0)))) (H1 := H) slot w.heap.size 0 _ e _ (s.map byteD) rfl rfl (by rw [Lib.bytesWorld_size]; omega)
      (fun b hb _ => Lib.bytesWorld_at_old w e _ b hb)
      (fun b y h => by
        have hb : b < w.heap.size := by
          unfold World.shape? at h
          rcases Nat.lt_or_ge b w.heap.size with h' | h'
          · exact h'
          · simp [Array.getElem?_eq_none h'] at h
        unfold World.shape? at h ⊢
        rw [Lib.bytesWorld_at_old w e _ b hb]; exact h)
      (.inl (Nat.le_refl _)) (Lib.bytesWorld_at_new w e _) (.inr (Nat.le_refl _)) rfl hlt
      (fun b' c hne hl => ⟨hl, fun off' hk => by
        rcases hI.live b' c hl with ⟨_, h⟩ | ⟨b0, o, vs0, T0, fr0, h3, _, _, h6⟩
        · unfold Bk at *; rw [hk] at h; cases h
        · unfold Bk at *; rw [hk] at h3; cases h3
          have := (Array.getElem?_eq_some_iff.1 h6.heap).1
          omega⟩)
      (fun _ _ _ h => h) (fun _ _ h => h) (by simp) (fun b' hne => List.getElem?_set_ne (Ne.symm hne)) hbk'
      (fun x h => by unfold Bk at h; rw [hβv] at h; cases h)
      (fun i d hd => by
        simp only [List.getElem?_map, Option.map_eq_some_iff] at hd
        obtain ⟨b, hb, rfl⟩ := hd
        have hi := (List.getElem?_eq_some_iff.1 hb).1
        refine ⟨.int .u8 b.toNat, ?_, rfl, byteD_rel b⟩
        simp only [Nat.zero_add, Lib.bytesCells]
        rw [Array.getElem?_append_left (by simpa using hi)]
        simp [hb])
    refine ⟨_, _, S, _, hrun, this.1, this.2, ?_⟩
    have hr := Rel.ref (w := Lib.bytesWorld w e ⟨⟨s⟩⟩) (S := S) (β := β.set slot (some (some (w.heap.size, 0)))) slot 0 s.length 1 w.heap.size 0 (grownCap w s.length 0 e) hbk' (grownCap_ge w _ 0 e) (grownCap_le_maxLen w _ 0 e hs) e (grownCap w s.length 0 e)
      (by unfold World.shape?; rw [Lib.bytesWorld_at_new]; simp [hcells]) (by omega)
    exact hr

end
end Go.Proofs.YtlkffgmejcgdbaaDoor

/- The abstract walk of code: operations in a row, guards, calls by contract, branches, loops; and that it is sound. Of no program. -/
namespace Go.Proofs.YtlkffgmejcgdbaaDoor
set_option linter.all false

def isVoid (H : AHeap) (s : Nat) : Bool :=
  match H[s]? with
  | some .void => true
  | _ => false

def TD.isSlice : TD → Bool
  | .slice _ => true
  | _ => false

def allocs (τ : Ty) : Op → Bool
  | .alloc _ | .box _ _ | .buildSlice _ _ _ | .makeSlice _ _ _ => true
  | .convert _ dst _ => (τ dst).td.isSlice
  | .call { callee := .builtin .append, .. } => true
  | _ => false

def countAllocs (τ : Ty) : List Oper → Nat
  | [] => 0
  | o :: r => (bif allocs τ o.op then 1 else 0) + countAllocs τ r

def nexts (τ : Ty) (o : Oper) (s : Nat) : Nat := bif allocs τ o.op then s + 1 else s

def pad (H : AHeap) (k : Nat) : AHeap := H ++ List.replicate k .void

/-- What an operation asks, and what it gives, handed on. -/
def andR (r : R) (k : D → AHeap → Prop) : Prop := r.ob ∧ k r.d r.H

/-- A function, called on abstract arguments over an abstract heap, returns, and 'K' holds of what it returns and of the heap. -/
def ACalls (P : Program) (g : FuncId) (args : List D) (H : AHeap) (K : D → AHeap → Prop) : Prop :=
  (∃ fn, P.funcs[g]? = some fn ∧ (fn.name == "runtime.NumGoroutine") = false ∧ fn.body.isNone = false) ∧
  ∀ (w : World) (S : Nat → Prop) (β : Bmap) (vs : Array Value), AInv w S β H → vs.size = args.length → (∀ (i : Nat) (d : D) (v : Value), args[i]? = some d → vs[i]? = some v → Rel w S β d v) →
    Calls P g vs w fun e w' => ∃ v d H' S' β', e = .returned v ∧ AInv w' S' β' H' ∧ Evo w S β H w' S' β' H' ∧ Rel w' S' β' d v ∧ K d H'

theorem ACalls.mono {P : Program} {g : FuncId} {args : List D} {H : AHeap} {K K' : D → AHeap → Prop} (h : ACalls P g args H K) (hk : ∀ d H', K d H' → K' d H') : ACalls P g args H K' :=
  ⟨h.1, fun w S β vs hI hl hr => (h.2 w S β vs hI hl hr).mono fun _ _ ⟨v, d, H', S', β', h1, h2, h3, h4, h5⟩ => ⟨v, d, H', S', β', h1, h2, h3, h4, hk _ _ h5⟩⟩

/-- .. or one that the machine itself answers. -/
def AExt (P : Program) (g : FuncId) (args : List D) (H : AHeap) (K : D → AHeap → Prop) : Prop :=
  ∀ (w : World) (S : Nat → Prop) (β : Bmap) (vs : Array Value), AInv w S β H → vs.size = args.length → (∀ (i : Nat) (d : D) (v : Value), args[i]? = some d → vs[i]? = some v → Rel w S β d v) →
    ∃ v w' d H' S' β', (callFunc g vs).run P w = .ok (.value v) w' ∧ AInv w' S' β' H' ∧ Evo w S β H w' S' β' H' ∧ Rel w' S' β' d v ∧ K d H'

def acall (P : Program) (f : D) (args : List D) (H : AHeap) (k : D → AHeap → Prop) : Prop :=
  match f with
  | .fn (.func g) cap => ACalls P g (args ++ cap) H k ∨ AExt P g (args ++ cap) H k
  | _ => False

def astep (P : Program) (τ : Ty) (o : Oper) (s : Nat) (env : Env) (H : AHeap) (k : D → AHeap → Prop) : Prop :=
  match o.op with
  | .call { callee := .value f, args, .. } => acall P (aeval env f) (args.toList.map (aeval env)) H k
  | op => (allocs τ op = true → isVoid H s = true) ∧ andR (aop τ (aeval env) s H op) k

def ayield (all : List Oper) (env : Env) (j : Nat) : D :=
  match all[j]? with
  | some o => (match o.dst with | some t => get env t | none => .any)
  | none => .any

def gsel (all : List Oper) (env : Env) : Option (Nat × Bool) → Option Bool
  | none => some true
  | some (j, want) => match ayield all env j with | .bool b => some (b == want) | .tup _ => some false | _ => none

def agd (g : Option Bool) (yes no : Prop) : Prop :=
  match g with
  | some true => yes
  | some false => no
  | none => False

def arun (P : Program) (τ : Ty) (all : List Oper) (K : Env → AHeap → Prop) : List Oper → Nat → Env → AHeap → Prop
  | [], _, env, H => K env H
  | o :: rest, s, env, H =>
    agd (gsel all env o.guard) (astep P τ o s env H fun d H' => arun P τ all K rest (nexts τ o s) (put env o.dst d) H') (arun P τ all K rest (nexts τ o s) (put env o.dst (.tup [])) H)

def okOperand : Operand → Bool
  | .const v => okVal v
  | _ => true

def okOper (n : Nat) (o : Oper) : Bool :=
  (match o.dst with | some t => decide (t < n) | none => true) && o.op.operands.toList.all okOperand

section
variable {P : Program} {τ : Ty} {n : Nat} {w0 : World} {S0 : Nat → Prop} {β0 : Bmap} {H0 : AHeap}

/-- An activation and a world are told by an environment and an abstract heap. -/
structure Stt (n : Nat) (w0 : World) (S0 : Nat → Prop) (β0 : Bmap) (H0 : AHeap) (env : Env) (H : AHeap) (a : Act) (w : World) (S : Nat → Prop) (β : Bmap) : Prop where
  defers : a.defers = []
  size : a.tmps.size = n
  env : ∀ t, get env t = .any ∨ ∃ v, a.tmps[t]? = some v ∧ Rel w S β (get env t) v
  inv : AInv w S β H
  evo : Evo w0 S0 β0 H0 w S β H

variable {env : Env} {H : AHeap} {a : Act} {w : World} {S : Nat → Prop} {β : Bmap}

theorem Stt.eval (h : Stt n w0 S0 β0 H0 env H a w S β) {x : Operand} (hx : okOperand x = true) : Rel w S β (aeval env x) (a.eval x) := by
  cases x with
  | tmp t =>
    simp only [aeval, Act.eval]
    rcases h.env t with h1 | ⟨v, h1, h2⟩
    · rw [h1]; exact .any _
    · simp only [Array.getD_eq_getD_getElem?, h1, Option.getD_some]; exact h2
  | const v => exact ofVal_rel w S β hx
  | global g =>
    simp only [aeval, Act.eval]
    cases hg : glTy g with
    | none => exact .any _
    | some t =>
      obtain ⟨h1, v, h2⟩ := h.inv.old.gl g t hg
      have hp : Rel w S β (.iface t (.cp [])) (.iface t (.pointer (some v))) := .iface t _ _ (.cp [] v (fun _ => default) (fun j hj => by simp at hj) (fun j d hd => by simp at hd))
      have hb : ∀ (j : Nat), j < 1 → (⟨g, 0, none⟩ : Addr).add j = ⟨g, 0, none⟩ := fun j hj => by
        obtain rfl : j = 0 := by omega
        rfl
      refine .cp [.iface t (.cp [])] ⟨g, 0, none⟩ (fun _ => .iface t (.pointer (some v))) (fun j hj => ?_) (fun j d hd => ?_)
      · rw [hb j hj]
        exact ⟨h1, h2, rfl⟩
      · cases j with
        | zero => simp at hd; subst hd; exact hp
        | succ j => simp at hd
  | func f => exact .fn _ [] #[] rfl (fun i d v hd _ => by simp at hd)

theorem Stt.put (h : Stt n w0 S0 β0 H0 env H a w S β) {dst : Option Tmp} (hd : (match dst with | some t => decide (t < n) | none => true) = true) {d : D} {v : Value} {w' : World} {S' : Nat → Prop} {β' : Bmap} {H' : AHeap}
    (hI : AInv w' S' β' H') (he : Evo w S β H w' S' β' H') (hr : Rel w' S' β' d v) : Stt n w0 S0 β0 H0 (put env dst d) H' (a.put dst v) w' S' β' := by
  have old : ∀ t, get env t = .any ∨ ∃ v, a.tmps[t]? = some v ∧ Rel w' S' β' (get env t) v := fun t => by
    rcases h.env t with h1 | ⟨v, h1, h2⟩
    · exact .inl h1
    · exact .inr ⟨v, h1, h2.evo h.inv he⟩
  cases dst with
  | none => exact ⟨h.defers, h.size, old, hI, h.evo.trans he⟩
  | some t =>
    simp only [decide_eq_true_eq] at hd
    refine ⟨h.defers, by simp [Act.put, h.size], fun t' => ?_, hI, h.evo.trans he⟩
    simp only [Go.Proofs.YtlkffgmejcgdbaaDoor.put, get, Act.put]
    by_cases e : t = t'
    · subst e
      right
      refine ⟨v, by simp [h.size, hd], by simpa using hr⟩
    · have e2 : (t == t') = false := by simp [e]
      simp only [e2, cond_false]
      rcases old t' with h1 | ⟨u, h1, h2⟩
      · exact .inl h1
      · exact .inr ⟨u, by rw [Array.getElem?_setIfInBounds_ne e]; exact h1, h2⟩

theorem Stt.opt (h : Stt n w0 S0 β0 H0 env H a w S β) {x : Option Operand} (hx : ∀ y, x = some y → okOperand y = true) : OptRel w S β (x.map (aeval env)) (x.map a.eval) := by
  cases x with
  | none => exact .none
  | some y => exact .some _ _ (h.eval (hx y rfl))

theorem isVoid_spec {H : AHeap} {s : Nat} (h : isVoid H s = true) : H[s]? = some Blk.void := by
  unfold isVoid at h
  split at h
  · assumption
  · cases h

theorem parts_rel (h : Stt n w0 S0 β0 H0 env H a w S β) (ps : Array (Nat × Operand)) (hp : (ps.toList.map (·.2)).all okOperand = true) :
    (ps.map fun (i, x) => (i, a.eval x)).size = (ps.toList.map fun p => (p.1, aeval env p.2)).length ∧
    ∀ (i : Nat) x u, (ps.toList.map fun p => (p.1, aeval env p.2))[i]? = some x → (ps.map fun (i, x) => (i, a.eval x))[i]? = some u → x.1 = u.1 ∧ Rel w S β x.2 u.2 := by
  refine ⟨by simp, fun i x u hx hu => ?_⟩
  simp only [List.getElem?_map, Array.getElem?_toList, Array.getElem?_map] at hx hu
  cases hpi : ps[i]? with
  | none => rw [hpi] at hx; cases hx
  | some p =>
    rw [hpi] at hx hu
    simp only [Option.map_some, Option.some.injEq] at hx hu
    subst hx; subst hu
    refine ⟨rfl, h.eval ?_⟩
    simp only [List.all_map, List.all_eq_true] at hp
    exact hp p (by have := Array.mem_of_getElem? hpi; simpa using this)

theorem args_rel (h : Stt n w0 S0 β0 H0 env H a w S β) (as : Array Operand) (hp : as.toList.all okOperand = true) :
    ∀ (i : Nat) (d : D) (v : Value), (as.toList.map (aeval env))[i]? = some d → (as.map a.eval)[i]? = some v → Rel w S β d v := by
  intro i d v hd hv
  simp only [List.getElem?_map, Array.getElem?_toList, Array.getElem?_map] at hd hv
  cases hpi : as[i]? with
  | none => rw [hpi] at hd; cases hd
  | some p =>
    rw [hpi] at hd hv
    simp only [Option.map_some, Option.some.injEq] at hd hv
    subst hd; subst hv
    exact h.eval (List.all_eq_true.1 hp p (by have := Array.mem_of_getElem? hpi; simpa using this))

/-- What an operation's run comes to. -/
def ExecOk (P : Program) (w : World) (S : Nat → Prop) (β : Bmap) (H : AHeap) (s : Sem Next) (r : R) : Prop :=
  r.ob → ∃ nx v w' S' β', s.run P w = .ok nx w' ∧ (nx = .value v ∨ (nx = .skip ∧ v = undef)) ∧ AInv w' S' β' r.H ∧ Evo w S β H w' S' β' r.H ∧ Rel w' S' β' r.d v

theorem ExecOk.of {s : Sem Value} {r : R} (h : OpOk P w S β H s r) : ExecOk P w S β H (do pure (.value (← s))) r := fun ho =>
  let ⟨v, w', S', β', h1, h2, h3, h4⟩ := h ho
  ⟨.value v, v, w', S', β', by simp [h1], .inl rfl, h2, h3, h4⟩

theorem ExecOk.bad {s : Sem Next} : ExecOk P w S β H s bad := fun h => h.elim

theorem ExecOk.pureOk (hI : AInv w S β H) {d : D} {v : Value} (hr : Rel w S β d v) : ExecOk P w S β H (Pure.pure (.value v)) ⟨True, d, H⟩ := fun _ =>
  ⟨.value v, v, w, S, β, rfl, .inl rfl, hI, Evo.refl _ _ _ _, hr⟩

theorem exec_ok (hT : TyOk P τ) (h : Stt n w0 S0 β0 H0 env H a w S β) (o : Oper) (s : Nat) (hok : o.op.operands.toList.all okOperand = true) (hs : allocs τ o.op = true → isVoid H s = true) (hnc : ∀ f as ts, o.op ≠ .call { callee := .value f, args := as, argTypes := ts }) :
    ExecOk P w S β H (execOp a.eval o) (aop τ (aeval env) s H o.op) := by
  have hI := h.inv
  obtain ⟨dst, op, type, pos, after, guard⟩ := o
  have ev1 : ∀ {x : Operand}, okOperand x = true → Rel w S β (aeval env x) (a.eval x) := fun hx => h.eval hx
  cases op <;> simp only [aop] <;> try exact ExecOk.bad
  case move x => exact ExecOk.pureOk hI (ev1 (by simpa [Op.operands] using hok))
  case assign x => exact ExecOk.pureOk hI (ev1 (by simpa [Op.operands] using hok))
  case pick c x y =>
    simp only [Op.operands, List.all_cons, List.all_nil, Bool.and_true, Bool.and_eq_true] at hok
    have hc := ev1 hok.1
    cases hd : aeval env c <;> (try simp only) <;> try exact ExecOk.bad
    rename_i b
    rw [hd] at hc
    cases hv : a.eval c <;> rw [hv] at hc <;> cases hc
    cases b
    · intro _
      exact ⟨_, _, w, S, β, by simp [execOp, hv, asBool], .inl rfl, hI, Evo.refl _ _ _ _, ev1 hok.2.2⟩
    · intro _
      exact ⟨_, _, w, S, β, by simp [execOp, hv, asBool], .inl rfl, hI, Evo.refl _ _ _ _, ev1 hok.2.1⟩
  case alloc t => exact ExecOk.of (alloc_ok hT hI (isVoid_spec (hs rfl)))
  case box t v => exact ExecOk.of (box_ok hI (isVoid_spec (hs rfl)) (ev1 (by simpa [Op.operands] using hok)))
  case build t ps =>
    obtain ⟨p1, p2⟩ := parts_rel h ps (by simpa [Op.operands] using hok)
    exact ExecOk.of (build_ok hT hI p1 p2)
  case buildSlice t k ps =>
    obtain ⟨p1, p2⟩ := parts_rel h ps (by simpa [Op.operands] using hok)
    exact ExecOk.of (buildSlice_ok hT hI (isVoid_spec (hs rfl)) p1 p2)
  case load t x => exact ExecOk.of (load_ok hT hI (ev1 (by simpa [Op.operands] using hok)))
  case store t x v =>
    simp only [Op.operands, List.all_cons, List.all_nil, Bool.and_true, Bool.and_eq_true] at hok
    intro ho
    obtain ⟨w', h1, h2, h3⟩ := store_ok (P := P) hT hI (ev1 hok.1) (ev1 hok.2) ho
    refine ⟨.skip, undef, w', S, β, by simp [execOp, h1], .inr ⟨rfl, rfl⟩, h2, h3, ?_⟩
    have : (aStore τ t (aeval env x) (aeval env v) H).d = .any := by
      unfold aStore
      split
      · split <;> rfl
      · rfl
    rw [this]
    exact .any _
  case nilCheck x =>
    have hx := ev1 (x := x) (by simpa [Op.operands] using hok)
    cases hd : aeval env x <;> (try simp only) <;> try exact ExecOk.bad
    · rw [hd] at hx
      cases hv : a.eval x <;> rw [hv] at hx <;> cases hx
      exact fun _ => ⟨.value (a.eval x), a.eval x, w, S, β, by simp [execOp, hv], .inl rfl, hI, Evo.refl _ _ _ _, by rw [hv]; constructor <;> assumption⟩
    · rw [hd] at hx
      cases hv : a.eval x <;> rw [hv] at hx <;> cases hx
      exact fun _ => ⟨.value (a.eval x), a.eval x, w, S, β, by simp [execOp, hv], .inl rfl, hI, Evo.refl _ _ _ _, by rw [hv]; constructor <;> assumption⟩
    · rename_i f cap
      cases f <;> simp only <;> try exact ExecOk.bad
      rw [hd] at hx
      cases hv : a.eval x <;> rw [hv] at hx <;> cases hx
      exact fun _ => ⟨.value (a.eval x), a.eval x, w, S, β, by simp [execOp, hv], .inl rfl, hI, Evo.refl _ _ _ _, by rw [hv]; constructor <;> assumption⟩
  case binOp op t x y yt =>
    simp only [Op.operands, List.all_cons, List.all_nil, Bool.and_true, Bool.and_eq_true] at hok
    exact ExecOk.of (binC_ok hT hI op t x y (ev1 hok.1) (ev1 hok.2))
  case unOp op t x => exact ExecOk.of (un_ok hI op (ev1 (by simpa [Op.operands] using hok)))
  case convert src dst x =>
    refine ExecOk.of (conv_ok hT hI ?_ (ev1 (by simpa [Op.operands] using hok)))
    by_cases hsl : ∃ e, (τ dst).td = .slice e
    · obtain ⟨e, he⟩ := hsl
      exact .inl (isVoid_spec (hs (by simp [allocs, he, TD.isSlice])))
    · exact .inr fun e he => hsl ⟨e, he⟩
  case makeInterface t x =>
    have hx := ev1 (x := x) (by simpa [Op.operands] using hok)
    intro ho
    have hu : ∃ u, P.underlying t = some u ∧ ∀ ms, u ≠ .interface ms := by
      have hk : (τ t).td.known = true := by
        have ho' : (τ t).td.conc = true := ho
        cases htd : (τ t).td <;> rw [htd] at ho' <;> first | rfl | cases ho'
      have := (hT t hk).und
      cases hu : P.underlying t with
      | none => rw [hu] at this; cases this
      | some u =>
        refine ⟨u, rfl, fun ms e => ?_⟩
        subst e
        rw [hu] at this
        have ho' : (τ t).td.conc = true := ho
        have e2 : (τ t).td = .iface := (Option.some.inj this).symm
        rw [e2] at ho'
        cases ho'
    obtain ⟨u, hu, hne⟩ := hu
    refine ⟨.value (.iface t (a.eval x)), _, w, S, β, ?_, .inl rfl, hI, Evo.refl _ _ _ _, .iface t _ _ hx⟩
    cases u <;> first | exact absurd rfl (hne _) | simp [execOp, Instr.makeInterface, run_underlying hu]
  case makeFunc f first cap =>
    cases f <;> simp only <;> try exact ExecOk.bad
    rename_i f
    intro ho
    have ho' : first = #[] := ho
    subst ho'
    simp only [Op.operands, Array.toList_append, List.nil_append] at hok
    refine ⟨.value (.func (.func f) #[] (cap.map a.eval)), _, w, S, β, by simp [execOp, Instr.makeFunc], .inl rfl, hI, Evo.refl _ _ _ _, ?_⟩
    exact .fn _ _ _ (by simp) (args_rel h cap hok)
  case makeSlice t l c =>
    simp only [Op.operands, List.all_cons, List.all_nil, Bool.and_true, Bool.and_eq_true] at hok
    exact ExecOk.of (makeSlice_ok hT hI (isVoid_spec (hs rfl)) (ev1 hok.1) (ev1 hok.2))
  case slice t x lo hi mx =>
    simp only [Op.operands, Array.toList_append, List.all_append, Bool.and_eq_true, List.all_cons, List.all_nil, Bool.and_true] at hok
    have oo : ∀ (z : Option Operand), z.toArray.toList.all okOperand = true → ∀ y, z = some y → okOperand y = true := fun z hz y hy => by subst hy; simpa using hz
    exact ExecOk.of (slice_ok hT hI (ev1 hok.1.1.1) (h.opt (oo lo hok.1.1.2)) (h.opt (oo hi hok.1.2)) (h.opt (oo mx hok.2)))
  case fieldAddr t x f => exact ExecOk.of (fieldAddr_ok hT hI f (ev1 (by simpa [Op.operands] using hok)))
  case field t x f => exact ExecOk.of (field_ok hT hI f (ev1 (by simpa [Op.operands] using hok)))
  case indexAddr t x i =>
    simp only [Op.operands, List.all_cons, List.all_nil, Bool.and_true, Bool.and_eq_true] at hok
    exact ExecOk.of (indexAddr_ok hT hI (ev1 hok.1) (ev1 hok.2))
  case index t x i =>
    simp only [Op.operands, List.all_cons, List.all_nil, Bool.and_true, Bool.and_eq_true] at hok
    exact ExecOk.of (index_ok hT hI (ev1 hok.1) (ev1 hok.2))
  case extract x i =>
    have hx := ev1 (x := x) (by simpa [Op.operands] using hok)
    cases hd : aeval env x <;> (try simp only) <;> try exact ExecOk.bad
    rename_i ds
    rw [hd] at hx
    cases hv : a.eval x <;> rw [hv] at hx <;> cases hx
    rename_i vs l1 r1
    refine ExecOk.of (OpOk.same hI fun ho => ?_)
    have hlt : i < vs.size := by rw [l1]; exact ho
    refine ⟨vs[i], by show (Instr.extract (a.eval x) i).run P w = _; rw [hv]; simp [Instr.extract, hlt], r1 i _ _ ?_ (by simp [hlt])⟩
    simp [List.getD, List.getElem?_eq_getElem (show i < ds.length from ho)]
  case call c =>
    obtain ⟨callee, as, ts⟩ := c
    cases callee with
    | value f => exact absurd rfl (hnc f as ts)
    | invoke r m => exact ExecOk.bad
    | builtin b =>
      have ha : as.toList.all okOperand = true := by simpa [Op.operands, Call.operands] using hok
      have hargs := args_rel h as ha
      have key : ∀ (s' : Sem Value), (∀ (W : World), (execOp a.eval { dst := dst, op := .call { callee := .builtin b, args := as, argTypes := ts }, type := type, pos := pos, after := after, guard := guard }).run P W = (do pure (Next.value (← s')) : Sem Next).run P W) →
          OpOk P w S β H s' (aBuiltin τ b ts.toList (as.toList.map (aeval env)) s H) →
          ExecOk P w S β H (execOp a.eval { dst := dst, op := .call { callee := .builtin b, args := as, argTypes := ts }, type := type, pos := pos, after := after, guard := guard }) (aBuiltin τ b ts.toList (as.toList.map (aeval env)) s H) := fun s' e hs' ho => by
        obtain ⟨nx, v, w', S', β', h1, h2⟩ := ExecOk.of hs' ho
        exact ⟨nx, v, w', S', β', by rw [e w]; exact h1, h2⟩
      obtain ⟨as⟩ := as
      obtain ⟨ts⟩ := ts
      simp only [List.map_toArray] at hargs
      cases b <;> simp only [aBuiltin] at key ⊢ <;> try exact ExecOk.bad
      case len =>
        refine key (Builtin.len_ ts.toArray type (as.map a.eval).toArray) (fun W => by simp [execOp, resolve, invoke, builtin]) ?_
        split
        · rename_i t x he
          match as, he with
          | [y], he =>
            simp only [List.map_cons, List.map_nil, List.cons.injEq, and_true] at he
            have hx := hargs 0 x (a.eval y) (by simp [he]) rfl
            exact len_ok hT hI hx
        · exact OpOk.bad
      case max =>
        refine key (Builtin.max_ ts.toArray type (as.map a.eval).toArray) (fun W => by simp [execOp, resolve, invoke, builtin]) ?_
        match as, hargs with
        | [], _ => exact OpOk.bad
        | y :: ys, hargs =>
          simp only [List.map_cons]
          split
          · rename_i d hd
            refine OpOk.same hI fun _ => ?_
            obtain ⟨r, h1, h2⟩ := max_ok (P := P) (ys.map (aeval env)) (ys.map a.eval) (aeval env y) (a.eval y) (hargs 0 _ _ rfl rfl) (by simp) (fun i d v h3 h4 => hargs (i + 1) d v (by simpa using h3) (by simpa using h4)) d hd
            exact ⟨r, by simpa [Builtin.max_] using h1, h2⟩
          · exact OpOk.bad
      case min =>
        refine key (Builtin.min_ ts.toArray type (as.map a.eval).toArray) (fun W => by simp [execOp, resolve, invoke, builtin]) ?_
        match as, hargs with
        | [], _ => exact OpOk.bad
        | y :: ys, hargs =>
          simp only [List.map_cons]
          split
          · rename_i d hd
            refine OpOk.same hI fun _ => ?_
            obtain ⟨r, h1, h2⟩ := min_ok (P := P) (ys.map (aeval env)) (ys.map a.eval) (aeval env y) (a.eval y) (hargs 0 _ _ rfl rfl) (by simp) (fun i d v h3 h4 => hargs (i + 1) d v (by simpa using h3) (by simpa using h4)) d hd
            exact ⟨r, by simpa [Builtin.min_] using h1, h2⟩
          · exact OpOk.bad
      case append =>
        refine key (Builtin.append_ ts.toArray type (as.map a.eval).toArray) (fun W => by simp [execOp, resolve, invoke, builtin]) ?_
        match as, hargs with
        | [y, z], hargs => exact append_ok hT hI (isVoid_spec (hs rfl)) (hargs 0 _ _ rfl rfl) (hargs 1 _ _ rfl rfl)
        | [], _ => exact OpOk.bad
        | [_], _ => exact OpOk.bad
        | _ :: _ :: _ :: _, _ => exact OpOk.bad
      case copy =>
        refine key (Builtin.copy_ ts.toArray type (as.map a.eval).toArray) (fun W => by simp [execOp, resolve, invoke, builtin]) ?_
        match as, hargs with
        | [y, z], hargs => exact copy_ok hT hI (hargs 0 _ _ rfl rfl) (hargs 1 _ _ rfl rfl)
        | [], _ => exact OpOk.bad
        | [_], _ => exact OpOk.bad
        | _ :: _ :: _ :: _, _ => exact OpOk.bad
      case cap =>
        refine key (Builtin.cap_ ts.toArray type (as.map a.eval).toArray) (fun W => by simp [execOp, resolve, invoke, builtin]) ?_
        split
        · rename_i t x he
          match as, he with
          | [y], he =>
            simp only [List.map_cons, List.map_nil, List.cons.injEq, and_true] at he
            have hx := hargs 0 x (a.eval y) (by simp [he]) rfl
            exact cap_ok hT hI hx
        · exact OpOk.bad
      case clear =>
        refine key (Builtin.clear_ ts.toArray type (as.map a.eval).toArray) (fun W => by simp [execOp, resolve, invoke, builtin]) ?_
        split
        · rename_i t x he
          match as, he with
          | [y], he =>
            simp only [List.map_cons, List.map_nil, List.cons.injEq, and_true] at he
            have hx := hargs 0 x (a.eval y) (by simp [he]) rfl
            exact clear_ok hT hI hx
        · exact OpOk.bad

end
end Go.Proofs.YtlkffgmejcgdbaaDoor

/- The abstract walk is sound: operations in a row, code, functions. Of no program. -/
namespace Go.Proofs.YtlkffgmejcgdbaaDoor
set_option linter.all false

section
variable {P : Program} {τ : Ty} {n : Nat} {w0 : World} {S0 : Nat → Prop} {β0 : Bmap} {H0 : AHeap}
variable {env : Env} {H : AHeap} {a : Act} {w : World} {S : Nat → Prop} {β : Bmap}

theorem op_sound (hT : TyOk P τ) {ops : Array Oper} {i : Nat} {o : Oper} (hi : ops[i]? = some o) (hok : okOper n o = true) (h : Stt n w0 S0 β0 H0 env H a w S β) {s : Nat} {k : D → AHeap → Prop} {K : Act → World → Prop} {Q : Exit → Act → World → Prop} {no : Prop}
    (hr : agd (gsel ops.toList env o.guard) (astep P τ o s env H k) no)
    (hyes : ∀ d H' a' w' S' β', Stt n w0 S0 β0 H0 (put env o.dst d) H' a' w' S' β' → k d H' → K a' w')
    (hno : ∀ a', Stt n w0 S0 β0 H0 (put env o.dst (.tup [])) H a' w S β → no → K a' w) : wpOp P ops Q i K a w := by
  simp only [okOper, Bool.and_eq_true] at hok
  have hput : ∀ {d : D} {v : Value} {w' : World} {S' : Nat → Prop} {β' : Bmap} {H' : AHeap}, AInv w' S' β' H' → Evo w S β H w' S' β' H' → Rel w' S' β' d v → Stt n w0 S0 β0 H0 (put env o.dst d) H' (a.put o.dst v) w' S' β' := fun hI he hr => h.put hok.1 hI he hr
  unfold wpOp
  simp only [hi]
  have hsel : ∀ b, gsel ops.toList env o.guard = some b → Region.wanted o (yielded ops a.tmps) = b := by
    intro b hb
    unfold gsel at hb
    unfold Region.wanted
    cases hg : o.guard with
    | none => rw [hg] at hb; simpa using hb
    | some g =>
      obtain ⟨j, want⟩ := g
      rw [hg] at hb
      simp only at hb ⊢
      have hyt : ∀ ds, ayield ops.toList env j = .tup ds → yielded ops a.tmps j = none := fun ds hy => by
        unfold ayield at hy
        unfold yielded
        cases hoj : ops[j]? with
        | none => rw [Array.getElem?_toList, hoj] at hy; cases hy
        | some oj =>
          rw [Array.getElem?_toList, hoj] at hy
          simp only at hy
          cases hdst : oj.dst with
          | none => rw [hdst] at hy; cases hy
          | some t =>
            rw [hdst] at hy
            simp only at hy
            rcases h.env t with h1 | ⟨v, h1, h2⟩
            · rw [h1] at hy; cases hy
            · rw [hy] at h2
              cases h2
              simp [hdst, h1]
      cases hy : ayield ops.toList env j <;> rw [hy] at hb <;> try (cases hb; done)
      case tup ds => simp only [Option.some.injEq] at hb; rw [hyt ds hy, ← hb]; rfl
      rename_i c
      simp only [Option.some.injEq] at hb
      have hyl : yielded ops a.tmps j = some c := by
        unfold ayield at hy
        unfold yielded
        cases hoj : ops[j]? with
        | none => rw [Array.getElem?_toList, hoj] at hy; cases hy
        | some oj =>
          rw [Array.getElem?_toList, hoj] at hy
          simp only at hy
          cases hdst : oj.dst with
          | none => rw [hdst] at hy; cases hy
          | some t =>
            rw [hdst] at hy
            simp only at hy
            rcases h.env t with h1 | ⟨v, h1, h2⟩
            · rw [h1] at hy; cases hy
            · rw [hy] at h2
              cases h2
              simp [hdst, h1]
      rw [hyl, ← hb]
      cases c <;> cases want <;> rfl
  cases hgs : gsel ops.toList env o.guard with
  | none => rw [hgs] at hr; exact hr.elim
  | some b =>
    rw [hgs] at hr
    rw [hsel b hgs]
    cases b with
    | false =>
      simp only [Bool.false_eq_true, if_false]
      exact hno _ (hput h.inv (Evo.refl _ _ _ _) (.tup [] #[] rfl (fun i d v hd _ => by simp at hd))) hr
    | true =>
      simp only [if_true]
      left
      simp only [agd] at hr
      unfold Oper.wp
      by_cases hc : ∃ f as ts, o.op = .call { callee := .value f, args := as, argTypes := ts }
      · obtain ⟨f, as, ts, hop⟩ := hc
        unfold astep at hr
        rw [hop] at hr
        simp only at hr
        have hok2 := hok.2
        rw [hop] at hok2
        simp only [Op.operands, Call.operands, Array.toList_append, List.all_append, Bool.and_eq_true, List.all_cons, List.all_nil, Bool.and_true] at hok2
        have hf := h.eval hok2.1
        have hargs := args_rel h as hok2.2
        unfold acall at hr
        cases hd : aeval env f <;> rw [hd] at hr <;> try exact hr.elim
        rename_i fn cap
        cases fn <;> try exact hr.elim
        rename_i g
        simp only at hr
        rw [hd] at hf
        cases hv : a.eval f <;> rw [hv] at hf <;> cases hf
        rename_i vs lc rc
        have argsR : ∀ (i : Nat) (d : D) (v : Value), (as.toList.map (aeval env) ++ cap)[i]? = some d → (as.map a.eval ++ vs)[i]? = some v → Rel w S β d v := fun i d v hd' hv' => by
          by_cases hlt : i < as.size
          · rw [List.getElem?_append_left (by simpa using hlt)] at hd'
            rw [Array.getElem?_append_left (by simpa using hlt)] at hv'
            exact hargs i d v hd' hv'
          · rw [List.getElem?_append_right (by simpa using hlt)] at hd'
            rw [Array.getElem?_append_right (by simpa using hlt)] at hv'
            simp only [List.length_map, Array.length_toList] at hd'
            simp only [Array.size_map] at hv'
            exact rc _ d v hd' hv'
        rcases hr with hr | hr
        · obtain ⟨⟨fnn, h1, h2, h3⟩, hcalls⟩ := hr
          have hrun : (execOp a.eval o).run P w = .ok (.enter g (as.map a.eval ++ vs)) w := by
            have h2' : ¬ fnn.name = "runtime.NumGoroutine" := by simpa using h2
            have h3' : ¬ fnn.body = none := by intro e; rw [e] at h3; cases h3
            simp [execOp, hop, resolve, hv, Deferred.ofValue, invoke, callFunc, h1, h2', h3']
          rw [hrun]
          simp only [Oper.upon]
          refine (hcalls w S β (as.map a.eval ++ vs) h.inv (by simp [lc]) argsR).mono ?_
          rintro e w' ⟨v, d, H', S', β', rfl, h5, h6, h7, h8⟩
          exact hyes d H' _ w' S' β' (hput h5 h6 h7) h8
        · obtain ⟨v, w', d, H', S', β', h1, h5, h6, h7, h8⟩ := hr w S β (as.map a.eval ++ vs) h.inv (by simp [lc]) argsR
          have hrun : (execOp a.eval o).run P w = .ok (.value v) w' := by
            simp [execOp, hop, resolve, hv, Deferred.ofValue, invoke, h1]
          rw [hrun]
          simp only [Oper.upon]
          exact hyes d H' _ w' S' β' (hput h5 h6 h7) h8
      · have hr' : (allocs τ o.op = true → isVoid H s = true) ∧ andR (aop τ (aeval env) s H o.op) k := by
          unfold astep at hr
          split at hr
          · rename_i f as ts heq; exact absurd ⟨f, as, ts, heq⟩ hc
          · exact hr
        obtain ⟨hs, ho, hk⟩ := hr'
        obtain ⟨nx, v, w', S', β', h1, h2, h3, h4, h5⟩ := exec_ok hT h o s hok.2 hs (fun f as ts e => hc ⟨f, as, ts, e⟩) ho
        rw [h1]
        rcases h2 with rfl | ⟨rfl, rfl⟩
        · exact hyes _ _ _ w' S' β' (hput h3 h4 h5) hk
        · exact hyes _ _ _ w' S' β' (hput h3 h4 h5) hk

/-- Something told of the state, in one word. -/
def Lift (n : Nat) (w0 : World) (S0 : Nat → Prop) (β0 : Bmap) (H0 : AHeap) (K : Env → AHeap → Prop) (a : Act) (w : World) : Prop :=
  ∃ env H S β, Stt n w0 S0 β0 H0 env H a w S β ∧ K env H

theorem arun_sound (hT : TyOk P τ) {ops : Array Oper} (hok : ops.toList.all (okOper n) = true) {K : Env → AHeap → Prop} {Q : Exit → Act → World → Prop} (hK : ∀ a w, Lift n w0 S0 β0 H0 K a w → Q .normal a w) :
    ∀ (l : List Oper) (j : Nat), (∀ i, l[i]? = ops[j + i]?) → ∀ (s : Nat) (env : Env) (H : AHeap) (a : Act) (w : World) (S : Nat → Prop) (β : Bmap), Stt n w0 S0 β0 H0 env H a w S β →
      arun P τ ops.toList K l s env H → wpOps P ops Q (List.range' j l.length) a w
  | [], j, _, s, env, H, a, w, S, β, h, hr => hK a w ⟨env, H, S, β, h, hr⟩
  | o :: rest, j, hl, s, env, H, a, w, S, β, h, hr => by
    have hj : ops[j]? = some o := by simpa using (hl 0).symm
    have hoj : okOper n o = true := List.all_eq_true.1 hok o (by have := Array.mem_of_getElem? hj; simpa using this)
    have ih := arun_sound hT hok hK rest (j + 1) (fun i => by have := hl (i + 1); simpa [Nat.add_assoc, Nat.add_comm 1 i] using this) (nexts τ o s)
    simp only [List.length_cons, List.range'_succ]
    rw [wpOps_cons]
    unfold arun at hr
    exact op_sound hT hj hoj h hr (fun d H' a' w' S' β' h' hk => ih _ _ _ _ _ _ h' hk) (fun a' h' hk => ih _ _ _ _ _ _ h' hk)

theorem AInv.pad (hI : AInv w S β H) (k : Nat) : AInv w S (β ++ List.replicate k none) (pad H k) ∧ Evo w S β H w S (β ++ List.replicate k none) (pad H k) := by
  have hbk : ∀ b x, Bk β b x → Bk (β ++ List.replicate k none) b x := fun b x h => by
    unfold Bk at *
    rw [List.getElem?_append_left (List.getElem?_eq_some_iff.1 h).1]; exact h
  have hbk2 : ∀ b x, Bk (β ++ List.replicate k none) b x → Bk β b x := fun b x h => by
    unfold Bk at *
    by_cases hb : b < β.length
    · rw [List.getElem?_append_left hb] at h; exact h
    · rw [List.getElem?_append_right (by omega)] at h
      have := List.mem_of_getElem? h
      simp at this
  have hget : ∀ (b : Nat) (x : Blk), x ≠ Blk.void → (Go.Proofs.YtlkffgmejcgdbaaDoor.pad H k)[b]? = some x → H[b]? = some x := fun b x hx h => by
    unfold Go.Proofs.YtlkffgmejcgdbaaDoor.pad at h
    by_cases hb : b < H.length
    · rw [List.getElem?_append_left hb] at h; exact h
    · rw [List.getElem?_append_right (by omega)] at h
      have := List.mem_of_getElem? h
      simp at this
      exact absurd this.2 hx
  have keep : ∀ {d v}, Rel w S β d v → Rel w S (β ++ List.replicate k none) d v := fun h => h.keep (fun _ _ => rfl) (fun _ h => h) hbk (fun _ _ h => h)
  have lies : ∀ {cs b0 o1 vs0 T0 fr0}, Lies w S β cs b0 o1 vs0 T0 fr0 → Lies w S (β ++ List.replicate k none) cs b0 o1 vs0 T0 fr0 := fun h =>
    ⟨h.heap, h.one, fun i d hd => let ⟨v, h1, h2⟩ := h.cell i d hd; ⟨v, h1, keep h2⟩⟩
  refine ⟨⟨by simp [Go.Proofs.YtlkffgmejcgdbaaDoor.pad, hI.len], fun b cs h => ?_, fun b cs h => ?_, fun b b' cs cs' blk o o' h h' k1 k2 => hI.apart b b' cs cs' blk o o' (hget _ _ (by simp) h) (hget _ _ (by simp) h') (hbk2 _ _ k1) (hbk2 _ _ k2), hI.old, fun b h => ?_⟩,
    ⟨rfl, rfl, Nat.le_refl _, fun _ _ _ => rfl, fun _ _ h => h, fun _ h => h, hbk, fun _ h => .inl h, ?_⟩⟩
  · rcases hI.live b cs (hget _ _ (by simp) h) with ⟨h1, h2⟩ | ⟨b0, o, vs0, T0, fr0, h3, h4, h5, h6⟩
    · exact .inl ⟨h1, hbk _ _ h2⟩
    · exact .inr ⟨b0, o, vs0, T0, fr0, hbk _ _ h3, h4, h5, lies h6⟩
  · rcases hI.froz b cs (hget _ _ (by simp) h) with ⟨h1, h2⟩ | ⟨b0, o, vs0, T0, fr0, h3, h4, h6⟩
    · exact .inl ⟨h1, hbk _ _ h2⟩
    · exact .inr ⟨b0, o, vs0, T0, fr0, hbk _ _ h3, h4, lies h6⟩
  · unfold Go.Proofs.YtlkffgmejcgdbaaDoor.pad at h
    by_cases hb : b < H.length
    · rw [List.getElem?_append_left hb] at h
      rw [List.getElem?_append_left (by rw [hI.len]; exact hb)]
      exact hI.void b h
    · rw [List.getElem?_append_right (by omega)] at h
      have h2 := (List.getElem?_eq_some_iff.1 h).1
      simp at h2
      rw [List.getElem?_append_right (by rw [hI.len]; omega), List.getElem?_replicate, if_pos (by rw [hI.len]; exact h2)]
  · rintro blk ⟨i, cs, o, h, hk⟩
    exact .inl ⟨i, cs, o, hget _ _ (by simp) h, hbk2 _ _ hk⟩

theorem Stt.step (h : Stt n w0 S0 β0 H0 env H a w S β) {S' : Nat → Prop} {β' : Bmap} {H' : AHeap} {w' : World} (hI : AInv w' S' β' H') (he : Evo w S β H w' S' β' H') : Stt n w0 S0 β0 H0 env H' a w' S' β' :=
  ⟨h.defers, h.size, fun t => by
    rcases h.env t with h1 | ⟨v, h1, h2⟩
    · exact .inl h1
    · exact .inr ⟨v, h1, h2.evo h.inv he⟩, hI, h.evo.trans he⟩

theorem Stt.drew (h : Stt n w0 S0 β0 H0 env H a w S β) : Stt n w0 S0 β0 H0 env H a w.drew S β := h.step h.inv.drew.1 h.inv.drew.2

end

/-- One environment and heap may stand for another: what the second tells, the first tells. -/
def D.isAny : D → Bool
  | .any => true
  | _ => false

/-- The environment 'E' tells no more than 'env'. -/
def weaker (env : Env) : Env → Prop
  | [] => True
  | (t, d) :: r => get env t = d ∧ weaker env r

theorem weaker_get {env : Env} : ∀ {E : Env}, weaker env E → ∀ t, get E t = .any ∨ get E t = get env t
  | [], _, _ => .inl rfl
  | (k, d) :: r, h, t => by
    simp only [get]
    by_cases e : k = t
    · subst e; right; simpa using h.1.symm
    · have : (k == t) = false := by simp [e]
      rw [this]; exact weaker_get h.2 t

/-- A loop: something told at each round's head by an index, and a number that falls. -/
def aloop (body : (Exit → Env → AHeap → Prop) → Env → AHeap → Prop) (fits : Env → AHeap → Env → AHeap → Prop) (Q : Exit → Env → AHeap → Prop) (env : Env) (H : AHeap) : Prop :=
  ∃ (ι : Type) (E : ι → Env) (G : ι → AHeap) (I : ι → Prop) (μ : ι → Nat) (i : ι), I i ∧ fits env H (E i) (G i) ∧
    ∀ i, I i → body (fun e env' H' => match e with | .normal => ∃ j, I j ∧ μ j < μ i ∧ fits env' H' (E j) (G j) | e => Q e env' H') (E i) (G i)

def aseq (e : Exit) (nrm : Prop) (els : Prop) : Prop :=
  match e with
  | .normal => nrm
  | _ => els

def ablock (id : Nat) (Q : Exit → Env → AHeap → Prop) (e : Exit) (env : Env) (H : AHeap) : Prop :=
  match e with
  | .exit k => if k = id then Q .normal env H else Q (.exit k) env H
  | e => Q e env H

def acond (c : D) (x y : Prop) : Prop :=
  match c with
  | .bool b => (b = true → x) ∧ (b = false → y)
  | .bit => x ∧ y
  | _ => False

def awp (P : Program) (τ : Ty) (fits : Env → AHeap → Env → AHeap → Prop) (draw : Nat → List Oper → (Env → AHeap → Prop) → Env → AHeap → Prop) : Code → (Exit → Env → AHeap → Prop) → Env → AHeap → Prop
  | .skip, Q, env, H => Q .normal env H
  | .region id ops false, Q, env, H => arun P τ ops.toList (Q .normal) ops.toList H.length env (pad H (countAllocs τ ops.toList))
  | .region id ops true, Q, env, H => draw id ops.toList (Q .normal) env H
  | .seq x y, Q, env, H => awp P τ fits draw x (fun e env H => aseq e (awp P τ fits draw y Q env H) (Q e env H)) env H
  | .cond c x y, Q, env, H => acond (aeval env c) (awp P τ fits draw x Q env H) (awp P τ fits draw y Q env H)
  | .block id c, Q, env, H => awp P τ fits draw c (ablock id Q) env H
  | .loop c, Q, env, H => aloop (awp P τ fits draw c) fits Q env H
  | .exit id, Q, env, H => Q (.exit id) env H
  | .ret, Q, env, H => Q .ret env H
  | .label _, Q, env, H => Q .normal env H
  | .scope c, Q, env, H => awp P τ fits draw c Q env H
  | _, _, _, _ => False

/-- Are all operations such as the walk may take: destinations in the frame, constants that are well formed; and no goto? -/
def okCode (n : Nat) : Code → Bool
  | .region _ ops _ => ops.toList.all (okOper n)
  | .seq x y => okCode n x && okCode n y
  | .cond c x y => okOperand c && okCode n x && okCode n y
  | .block _ c | .loop c | .scope c => okCode n c
  | .skip | .exit _ | .ret | .label _ => true
  | _ => false

section
variable {P : Program} {τ : Ty} {n : Nat} {w0 : World} {S0 : Nat → Prop} {β0 : Bmap} {H0 : AHeap}

/-- What 'fits' and 'draw' must do that the walk is sound. -/
structure WOk (P : Program) (τ : Ty) (n : Nat) (H0 : AHeap) (fits : Env → AHeap → Env → AHeap → Prop) (draw : Nat → List Oper → (Env → AHeap → Prop) → Env → AHeap → Prop) : Prop where
  fit : ∀ {w0 S0 β0 env H a w S β E G}, AInv w0 S0 β0 H0 → Stt n w0 S0 β0 H0 env H a w S β → fits env H E G → ∃ S' β', Stt n w0 S0 β0 H0 E G a w S' β'
  drawn : ∀ {w0 S0 β0 env H a w S β K} {id : Nat} {ops : Array Oper} {Q : Exit → Act → World → Prop}, ops.toList.all (okOper n) = true → Stt n w0 S0 β0 H0 env H a w S β → draw id ops.toList K env H →
    (∀ a w, Lift n w0 S0 β0 H0 K a w → Q .normal a w) → (Code.region id ops true).wp P Q a w

def notGoto : Exit → Prop
  | .goto _ => False
  | _ => True

theorem awp_sound (hT : TyOk P τ) (hI0 : AInv w0 S0 β0 H0) {fits : Env → AHeap → Env → AHeap → Prop} {draw : Nat → List Oper → (Env → AHeap → Prop) → Env → AHeap → Prop} (hw : WOk P τ n H0 fits draw) :
    ∀ (c : Code) (hok : okCode n c = true) (Q : Exit → Env → AHeap → Prop) (Q' : Exit → Act → World → Prop) (_ : ∀ e a w, notGoto e → Lift n w0 S0 β0 H0 (Q e) a w → Q' e a w)
      (env : Env) (H : AHeap) (a : Act) (w : World) (S : Nat → Prop) (β : Bmap), Stt n w0 S0 β0 H0 env H a w S β → awp P τ fits draw c Q env H → c.wp P Q' a w
  | .skip, _, Q, Q', hQ, env, H, a, w, S, β, h, hr => wp_skip (hQ _ _ _ trivial ⟨env, H, S, β, h, hr⟩)
  | .region id ops false, hok, Q, Q', hQ, env, H, a, w, S, β, h, hr => by
    refine wp_region ?_
    obtain ⟨h1, h2⟩ := h.inv.pad (countAllocs τ ops.toList)
    have := arun_sound (w0 := w0) (S0 := S0) (β0 := β0) (H0 := H0) hT hok (K := Q .normal) (Q := Q') (fun a w hl => hQ _ _ _ trivial hl) ops.toList 0 (fun i => by simp) H.length env _ a w S _ (h.step h1 h2) hr
    rw [List.range_eq_range', ← Array.length_toList]
    exact this
  | .region id ops true, hok, Q, Q', hQ, env, H, a, w, S, β, h, hr => hw.drawn hok h hr (fun a w hl => hQ _ _ _ trivial hl)
  | .seq x y, hok, Q, Q', hQ, env, H, a, w, S, β, h, hr => by
    simp only [okCode, Bool.and_eq_true] at hok
    refine wp_seq (awp_sound hT hI0 hw x hok.1 _ _ (fun e a w hng hl => ?_) env H a w S β h hr)
    obtain ⟨env', H', S', β', h', hk⟩ := hl
    cases e with
    | normal => exact awp_sound hT hI0 hw y hok.2 Q Q' hQ env' H' a w S' β' h' hk
    | goto l => exact hng.elim
    | exit id => exact hQ _ _ _ trivial ⟨env', H', S', β', h', hk⟩
    | ret => exact hQ _ _ _ trivial ⟨env', H', S', β', h', hk⟩
    | panic ch => exact hQ _ _ _ trivial ⟨env', H', S', β', h', hk⟩
    | outgrown => exact hQ _ _ _ trivial ⟨env', H', S', β', h', hk⟩
  | .cond c x y, hok, Q, Q', hQ, env, H, a, w, S, β, h, hr => by
    simp only [okCode, Bool.and_eq_true] at hok
    have hc := h.eval hok.1.1
    unfold awp acond at hr
    cases hd : aeval env c <;> rw [hd] at hr <;> try exact hr.elim
    · rename_i b
      rw [hd] at hc
      cases hv : a.eval c <;> rw [hv] at hc <;> cases hc
      refine wp_cond hv ?_
      cases b with
      | true => exact awp_sound hT hI0 hw x hok.1.2 Q Q' hQ env H a w S β h (hr.1 rfl)
      | false => exact awp_sound hT hI0 hw y hok.2 Q Q' hQ env H a w S β h (hr.2 rfl)
    · rw [hd] at hc
      cases hv : a.eval c <;> rw [hv] at hc <;> cases hc
      rename_i b
      refine wp_cond hv ?_
      cases b with
      | true => exact awp_sound hT hI0 hw x hok.1.2 Q Q' hQ env H a w S β h hr.1
      | false => exact awp_sound hT hI0 hw y hok.2 Q Q' hQ env H a w S β h hr.2
  | .block id c, hok, Q, Q', hQ, env, H, a, w, S, β, h, hr => by
    refine wp_block (awp_sound hT hI0 hw c hok (ablock id Q) _ (fun e a w hng hl => ?_) env H a w S β h hr)
    obtain ⟨env', H', S', β', h', hk⟩ := hl
    cases e with
    | exit k =>
      simp only [ablock] at hk
      simp only [Exit.inBlock]
      split
      · rename_i e; rw [if_pos e] at hk; exact hQ _ _ _ trivial ⟨env', H', S', β', h', hk⟩
      · rename_i e; rw [if_neg e] at hk; exact hQ _ _ _ trivial ⟨env', H', S', β', h', hk⟩
    | goto l => exact hng.elim
    | normal => exact hQ _ _ _ trivial ⟨env', H', S', β', h', hk⟩
    | ret => exact hQ _ _ _ trivial ⟨env', H', S', β', h', hk⟩
    | panic ch => exact hQ _ _ _ trivial ⟨env', H', S', β', h', hk⟩
    | outgrown => exact hQ _ _ _ trivial ⟨env', H', S', β', h', hk⟩
  | .loop c, hok, Q, Q', hQ, env, H, a, w, S, β, h, hr => by
    obtain ⟨ι, E, G, I, μ, i, hi, hf, hround⟩ := hr
    obtain ⟨S1, β1, h1⟩ := hw.fit hI0 h hf
    refine wp_loop_ghost (fun k a w => ∃ i, μ i = k ∧ I i ∧ ∃ S β, Stt n w0 S0 β0 H0 (E i) (G i) a w S β) (μ i) ⟨i, rfl, hi, S1, β1, h1⟩ (fun k a w hI => ?_)
    obtain ⟨i, rfl, hIi, S', β', h'⟩ := hI
    refine awp_sound hT hI0 hw c hok _ _ (fun e a w hng hl => ?_) (E i) (G i) a w S' β' h' (hround i hIi)
    obtain ⟨env2, H2, S2, β2, h2, hk⟩ := hl
    cases e with
    | normal =>
      obtain ⟨j, hj, hlt, hf⟩ := hk
      obtain ⟨S3, β3, h3⟩ := hw.fit hI0 h2 hf
      exact ⟨μ j, hlt, j, rfl, hj, S3, β3, h3⟩
    | goto l => exact hng.elim
    | exit id => exact hQ _ _ _ trivial ⟨env2, H2, S2, β2, h2, hk⟩
    | ret => exact hQ _ _ _ trivial ⟨env2, H2, S2, β2, h2, hk⟩
    | panic ch => exact hQ _ _ _ trivial ⟨env2, H2, S2, β2, h2, hk⟩
    | outgrown => exact hQ _ _ _ trivial ⟨env2, H2, S2, β2, h2, hk⟩
  | .exit id, _, Q, Q', hQ, env, H, a, w, S, β, h, hr => wp_exit (hQ _ _ _ trivial ⟨env, H, S, β, h, hr⟩)
  | .ret, _, Q, Q', hQ, env, H, a, w, S, β, h, hr => wp_ret (hQ _ _ _ trivial ⟨env, H, S, β, h, hr⟩)
  | .label l, _, Q, Q', hQ, env, H, a, w, S, β, h, hr => wp_label (hQ _ _ _ trivial ⟨env, H, S, β, h, hr⟩)
  | .scope c, hok, Q, Q', hQ, env, H, a, w, S, β, h, hr => by
    refine wp_scope_straight (awp_sound hT hI0 hw c hok Q _ (fun e a w hng hl => ?_) env H a w S β h hr)
    cases e with
    | goto l => exact hng.elim
    | normal => exact hQ _ _ _ trivial hl
    | exit id => exact hQ _ _ _ trivial hl
    | ret => exact hQ _ _ _ trivial hl
    | panic ch => exact hQ _ _ _ trivial hl
    | outgrown => exact hQ _ _ _ trivial hl

end
end Go.Proofs.YtlkffgmejcgdbaaDoor

/- Ghost steps (forgetting, renaming, freezing), functions entered, data handed in and back without memory. Of no program. -/
namespace Go.Proofs.YtlkffgmejcgdbaaDoor
set_option linter.all false

mutual
/-- Does it name no abstract block? -/
def D.noIds : D → Bool
  | .any => false
  | .agg cs => D.noIdsL cs
  | .sl _ es _ => D.noIdsL es
  | .ref _ _ _ _ => false
  | .refc _ _ _ _ _ => false
  | .cp cs => D.noIdsL cs
  | .ptr _ _ => false
  | .fn _ cap => D.noIdsL cap
  | .tup vs => D.noIdsL vs
  | .iface _ d => D.noIds d
  | _ => true
def D.noIdsL : List D → Bool
  | [] => true
  | d :: ds => D.noIds d && D.noIdsL ds
end

mutual
/-- Does it name but blocks below 'n'? -/
def D.bnd (n : Nat) : D → Bool
  | .agg cs => D.bndL n cs
  | .sl _ es _ => D.bndL n es
  | .ref b _ _ _ => decide (b < n)
  | .refc b _ _ _ _ => decide (b < n)
  | .cp cs => D.bndL n cs
  | .ptr b _ => decide (b < n)
  | .fn _ cap => D.bndL n cap
  | .tup vs => D.bndL n vs
  | .iface _ d => D.bnd n d
  | _ => true
def D.bndL (n : Nat) : List D → Bool
  | [] => true
  | d :: ds => D.bnd n d && D.bndL n ds
end

mutual
def D.ren (ρ : List Nat) : D → D
  | .agg cs => .agg (D.renL ρ cs)
  | .sl sz es t => .sl sz (D.renL ρ es) t
  | .ref b o len sz => .ref (ρ.getD b 0) o len sz
  | .refc b o len sz c => .refc (ρ.getD b 0) o len sz c
  | .cp cs => .cp (D.renL ρ cs)
  | .ptr b o => .ptr (ρ.getD b 0) o
  | .fn f cap => .fn f (D.renL ρ cap)
  | .tup vs => .tup (D.renL ρ vs)
  | .iface t d => .iface t (D.ren ρ d)
  | d => d
def D.renL (ρ : List Nat) : List D → List D
  | [] => []
  | d :: ds => D.ren ρ d :: D.renL ρ ds
end

theorem D.noIdsL_eq (l : List D) : D.noIdsL l = l.all D.noIds := by
  induction l with
  | nil => rfl
  | cons d l ih => simp [D.noIdsL, ih]
theorem D.bndL_eq (n : Nat) (l : List D) : D.bndL n l = l.all (D.bnd n) := by
  induction l with
  | nil => rfl
  | cons d l ih => simp [D.bndL, ih]
theorem D.renL_eq (ρ : List Nat) (l : List D) : D.renL ρ l = l.map (D.ren ρ) := by
  induction l with
  | nil => rfl
  | cons d l ih => simp [D.renL, ih]

theorem D.ren_cells (ρ : List Nat) (d : D) : (d.ren ρ).cells = d.cells.map (D.ren ρ) := by
  cases d <;> simp [D.ren, D.cells, D.renL_eq]

theorem D.bnd_cells {n : Nat} {d : D} (h : d.bnd n = true) : ∀ x, x ∈ d.cells → x.bnd n = true := by
  cases d <;> simp_all [D.bnd, D.cells, D.bndL_eq]

section
variable {w : World} {S : Nat → Prop} {β : Bmap} {H : AHeap}

def renB (ρ : List Nat) (β : Bmap) : Bmap := ρ.map fun r => β.getD r none

theorem renB_bk {ρ : List Nat} {b : Nat} {x : Option (Nat × Nat)} (hb : b < ρ.length) (h : Bk β (ρ.getD b 0) x) : Bk (renB ρ β) b x := by
  unfold Bk at *
  have e : ρ.getD b 0 = ρ[b] := by simp [List.getD, hb]
  rw [e] at h
  simp [renB, hb, List.getD, h]

theorem bk_renB {ρ : List Nat} {b : Nat} {x : Option (Nat × Nat)} (h : Bk (renB ρ β) b x) : b < ρ.length ∧ Bk β (ρ.getD b 0) x := by
  unfold Bk at *
  have hb : b < ρ.length := by
    have := (List.getElem?_eq_some_iff.1 h).1
    simpa [renB] using this
  refine ⟨hb, ?_⟩
  have e : ρ.getD b 0 = ρ[b] := by simp [List.getD, hb]
  rw [e]
  simp only [renB, List.getElem?_map, List.getElem?_eq_getElem hb, Option.map_some, Option.some.injEq] at h
  cases hx : β[ρ[b]]? with
  | none => simp [List.getD, hx] at h
  | some y => simp [List.getD, hx] at h; rw [h]

theorem Rel.ren {ρ : List Nat} {d0 : D} {v : Value} (h : Rel w S β d0 v) : ∀ d, d.ren ρ = d0 → d.bnd ρ.length = true → Rel w S (renB ρ β) d v := by
  induction h with
  | any v => intro d e _; cases d <;> simp [D.ren] at e; exact .any v
  | int k n h1 h2 => intro d e _; cases d <;> simp [D.ren] at e; obtain ⟨rfl, rfl⟩ := e; exact .int _ _ h1 h2
  | bool b => intro d e _; cases d <;> simp [D.ren] at e; subst e; exact .bool _
  | str s h => intro d e _; cases d <;> simp [D.ren] at e; subst e; exact .str _ h
  | agg ds vs h1 h0 h2 ih =>
    intro d e hb
    cases d <;> simp [D.ren] at e
    rename_i cs
    rw [D.renL_eq] at e
    subst e
    simp only [D.bnd, D.bndL_eq, List.all_eq_true] at hb
    refine .agg cs vs (by simpa using h1) h0 (fun i d v hd hv => ih i _ v (by simp [hd]) hv d rfl (hb d (List.mem_of_getElem? hd)))
  | nil => intro d e _; cases d <;> simp [D.ren] at e; exact .nil
  | slNone sz t =>
    intro d e hb0
    cases d <;> simp [D.ren] at e
    rename_i sz' es t'
    obtain ⟨rfl, e, rfl⟩ := e
    cases es with
    | nil => exact .slNone _ _
    | cons x xs => simp [D.renL] at e
  | sl sz es t ad cap vf h1 h2 h3 h4 h5 h6 ih =>
    intro d e hb
    cases d <;> simp [D.ren] at e
    rename_i sz' es' t'
    obtain ⟨rfl, e, rfl⟩ := e
    rw [D.renL_eq] at e
    subst e
    simp only [D.bnd, D.bndL_eq, List.all_eq_true] at hb
    have hl : (es'.map (D.ren ρ)).length = es'.length := by simp
    have := Rel.sl (w := w) (S := S) (β := renB ρ β) sz' es' t' ad cap vf (by simpa using h1) h2 (by simpa using h3)
      (fun x hx => by have := h4 (x.ren ρ) (List.mem_map_of_mem hx); rw [D.ren_cells] at this; simpa using this)
      (by simpa using h5)
      (fun i x j d hx hd => ih i (x.ren ρ) j (d.ren ρ) (by simp [hx]) (by rw [D.ren_cells]; simp [hd]) d rfl (D.bnd_cells (hb x (List.mem_of_getElem? hx)) d (List.mem_of_getElem? hd)))
    rw [← hl] at this
    exact this
  | ref b o len sz blk off cap h1 h2 h3 T n h4 h5 =>
    intro d e hb
    cases d <;> simp [D.ren] at e
    obtain ⟨e1, rfl, rfl, rfl⟩ := e
    simp only [D.bnd, decide_eq_true_eq] at hb
    exact .ref _ _ _ _ blk off cap (renB_bk hb (by rw [List.getD_eq_getElem?_getD, e1]; exact h1)) h2 h3 T n h4 h5
  | refEmpty b o sz a => intro d e _; cases d <;> simp [D.ren] at e; obtain ⟨_, rfl, rfl, rfl⟩ := e; exact .refEmpty _ _ _ _
  | refc b o len sz cap blk off h1 h2 h3 T n h4 h5 =>
    intro d e hb
    cases d <;> simp [D.ren] at e
    obtain ⟨e1, rfl, rfl, rfl, rfl⟩ := e
    simp only [D.bnd, decide_eq_true_eq] at hb
    exact .refc _ _ _ _ _ blk off (renB_bk hb (by rw [List.getD_eq_getElem?_getD, e1]; exact h1)) h2 h3 T n h4 h5
  | refcEmpty b o sz a => intro d e _; cases d <;> simp [D.ren] at e; obtain ⟨_, rfl, rfl, rfl, rfl⟩ := e; exact .refcEmpty _ _ _ _
  | cp cs ad vf h1 h2 ih =>
    intro d e hb
    cases d <;> simp [D.ren] at e
    rename_i cs'
    rw [D.renL_eq] at e
    subst e
    simp only [D.bnd, D.bndL_eq, List.all_eq_true] at hb
    exact .cp cs' ad vf (by simpa using h1) (fun j d hd => ih j _ (by simp [hd]) d rfl (hb d (List.mem_of_getElem? hd)))
  | ptr b o blk off h1 =>
    intro d e hb
    cases d <;> simp [D.ren] at e
    obtain ⟨e1, rfl⟩ := e
    simp only [D.bnd, decide_eq_true_eq] at hb
    exact .ptr _ _ blk off (renB_bk hb (by rw [List.getD_eq_getElem?_getD, e1]; exact h1))
  | nilp => intro d e _; cases d <;> simp [D.ren] at e; exact .nilp
  | fn f ds vs h1 h2 ih =>
    intro d e hb
    cases d <;> simp [D.ren] at e
    rename_i f' cs
    obtain ⟨rfl, e⟩ := e
    rw [D.renL_eq] at e
    subst e
    simp only [D.bnd, D.bndL_eq, List.all_eq_true] at hb
    exact .fn _ cs vs (by simpa using h1) (fun i d v hd hv => ih i _ v (by simp [hd]) hv d rfl (hb d (List.mem_of_getElem? hd)))
  | nilf => intro d e _; cases d <;> simp [D.ren] at e; exact .nilf
  | tup ds vs h1 h2 ih =>
    intro d e hb
    cases d <;> simp [D.ren] at e
    rename_i cs
    rw [D.renL_eq] at e
    subst e
    simp only [D.bnd, D.bndL_eq, List.all_eq_true] at hb
    exact .tup cs vs (by simpa using h1) (fun i d v hd hv => ih i _ v (by simp [hd]) hv d rfl (hb d (List.mem_of_getElem? hd)))
  | niface => intro d e _; cases d <;> simp [D.ren] at e; exact .niface
  | iface t d v _ ih =>
    intro d' e hb
    cases d' <;> simp [D.ren] at e
    obtain ⟨rfl, e⟩ := e
    simp only [D.bnd] at hb
    exact .iface _ _ v (ih _ e hb)
  | bit x => intro d e _; cases d <;> simp [D.ren] at e; exact .bit _

/-- What names no block is told at any map of blocks. -/
theorem Rel.noIds {d : D} {v : Value} (h : Rel w S β d v) (β' : Bmap) : d.noIds = true → Rel w S β' d v := by
  induction h with
  | any v => intro e; simp [D.noIds] at e
  | int k n h1 h2 => exact fun _ => .int _ _ h1 h2
  | bool b => exact fun _ => .bool _
  | str s h => exact fun _ => .str _ h
  | agg ds vs h1 h0 h2 ih =>
    intro e
    simp only [D.noIds, D.noIdsL_eq, List.all_eq_true] at e
    exact .agg ds vs h1 h0 (fun i d v hd hv => ih i d v hd hv (e d (List.mem_of_getElem? hd)))
  | nil => exact fun _ => .nil
  | slNone sz t => exact fun _ => .slNone _ _
  | sl sz es t ad cap vf h1 h2 h3 h4 h5 h6 ih =>
    intro e
    simp only [D.noIds, D.noIdsL_eq, List.all_eq_true] at e
    refine .sl sz es t ad cap vf h1 h2 h3 h4 h5 (fun i x j d hx hd => ih i x j d hx hd ?_)
    have hx2 := e x (List.mem_of_getElem? hx)
    have hd2 := List.mem_of_getElem? hd
    cases x <;> simp_all [D.noIds, D.cells, D.noIdsL_eq]
  | ref b o len sz blk off cap h1 h2 h3 T n h4 h5 => intro e; simp [D.noIds] at e
  | refEmpty b o sz a => intro e; simp [D.noIds] at e
  | refc b o len sz cap blk off h1 h2 h3 T n h4 h5 => intro e; simp [D.noIds] at e
  | refcEmpty b o sz a => intro e; simp [D.noIds] at e
  | cp cs ad vf h1 h2 ih =>
    intro e
    simp only [D.noIds, D.noIdsL_eq, List.all_eq_true] at e
    exact .cp cs ad vf h1 (fun j d hd => ih j d hd (e d (List.mem_of_getElem? hd)))
  | ptr b o blk off h1 => intro e; simp [D.noIds] at e
  | nilp => exact fun _ => .nilp
  | fn f ds vs h1 h2 ih =>
    intro e
    simp only [D.noIds, D.noIdsL_eq, List.all_eq_true] at e
    exact .fn f ds vs h1 (fun i d v hd hv => ih i d v hd hv (e d (List.mem_of_getElem? hd)))
  | nilf => exact fun _ => .nilf
  | tup ds vs h1 h2 ih =>
    intro e
    simp only [D.noIds, D.noIdsL_eq, List.all_eq_true] at e
    exact .tup ds vs h1 (fun i d v hd hv => ih i d v hd hv (e d (List.mem_of_getElem? hd)))
  | niface => exact fun _ => .niface
  | iface t d v _ ih => intro e; exact .iface t d v (ih (by simpa [D.noIds] using e))
  | bit x => exact fun _ => .bit _

/-- A block of one's own is one for good from now on. -/
theorem AInv.freeze (hI : AInv w S β H) {b : Nat} {cs : List D} (hb : H[b]? = some (.live cs)) :
    ∃ S', AInv w S' β (H.set b (.froz cs)) ∧ Evo w S β H w S' β (H.set b (.froz cs)) ∧ (∀ x, S x → S' x) := by
  have hlt : b < H.length := (List.getElem?_eq_some_iff.1 hb).1
  let S' : Nat → Prop := fun x => S x ∨ ∃ off, Bk β b (some (x, off))
  have sub : ∀ x, S x → S' x := fun x h => .inl h
  have keep : ∀ {d v}, Rel w S β d v → Rel w S' β d v := fun h => h.keep (fun _ _ => rfl) sub (fun _ _ h => h) (fun _ _ h => h)
  have lies : ∀ {cs b0 o1 vs0 T0 fr0}, Lies w S β cs b0 o1 vs0 T0 fr0 → Lies w S' β cs b0 o1 vs0 T0 fr0 := fun h =>
    ⟨h.heap, h.one, fun i d hd => let ⟨v, h1, h2⟩ := h.cell i d hd; ⟨v, h1, keep h2⟩⟩
  have hget : ∀ (b' : Nat) (x : Blk), b' ≠ b → (H.set b (.froz cs))[b']? = some x → H[b']? = some x := fun b' x hne h => by
    rwa [List.getElem?_set_ne (Ne.symm hne)] at h
  have hself : (H.set b (.froz cs))[b]? = some (.froz cs) := List.getElem?_set_self hlt
  have mutb : ∀ x off, Bk β b (some (x, off)) → Mut β H x := fun x off h => ⟨b, cs, off, hb, h⟩
  have hlive := hI.live b cs hb
  refine ⟨S', ⟨by simp [hI.len], fun b' c h => ?_, fun b' c h => ?_, fun b1 b2 c1 c2 blk o o' h1 h2 k1 k2 => ?_, hI.old.evo (fun _ _ => rfl) sub (fun x h => ?_), fun b' h => ?_⟩,
    ⟨rfl, rfl, Nat.le_refl _, fun _ _ _ => rfl, fun _ _ h => h, sub, fun _ _ h => h, fun x h => ?_, ?_⟩, sub⟩
  · have hne : b' ≠ b := fun e => by subst e; rw [hself] at h; cases h
    have h := hget _ _ hne h
    rcases hI.live b' c h with h1 | ⟨b0, o, vs0, T0, fr0, h3, h4, h5, h6⟩
    · exact .inl h1
    · refine .inr ⟨b0, o, vs0, T0, fr0, h3, fun hs => ?_, h5, lies h6⟩
      rcases hs with hs | ⟨off, hs⟩
      · exact h4 hs
      · exact hne (hI.apart b' b c cs b0 o off h hb h3 hs)
  · by_cases hne : b' = b
    · subst hne
      rw [hself] at h; cases h
      rcases hlive with h1 | ⟨b0, o, vs0, T0, fr0, h3, h4, h5, h6⟩
      · exact .inl h1
      · exact .inr ⟨b0, o, vs0, T0, fr0, h3, .inr ⟨o, h3⟩, lies h6⟩
    · have h := hget _ _ hne h
      rcases hI.froz b' c h with h1 | ⟨b0, o, vs0, T0, fr0, h3, h4, h6⟩
      · exact .inl h1
      · exact .inr ⟨b0, o, vs0, T0, fr0, h3, .inl h4, lies h6⟩
  · have hne1 : b1 ≠ b := fun e => by subst e; rw [hself] at h1; cases h1
    have hne2 : b2 ≠ b := fun e => by subst e; rw [hself] at h2; cases h2
    exact hI.apart b1 b2 c1 c2 blk o o' (hget _ _ hne1 h1) (hget _ _ hne2 h2) k1 k2
  · rcases h with h | ⟨off, h⟩
    · exact hI.old x h
    · rcases hlive with ⟨_, h1⟩ | ⟨b0, o, vs0, T0, fr0, h3, h4, h5, h6⟩
      · unfold Bk at *; rw [h] at h1; cases h1
      · unfold Bk at *; rw [h] at h3; cases h3
        exact (Array.getElem?_eq_some_iff.1 h6.heap).1
  · have hne : b' ≠ b := fun e => by subst e; rw [hself] at h; cases h
    exact hI.void b' (hget _ _ hne h)
  · rcases h with h | ⟨off, h⟩
    · exact .inl h
    · exact .inr (.inl (mutb x off h))
  · rintro x ⟨i, c, o, h, hk⟩
    have hne : i ≠ b := fun e => by subst e; rw [hself] at h; cases h
    exact .inl ⟨i, c, o, hget _ _ hne h, hk⟩

end

def renBlk (ρ : List Nat) : Blk → Blk
  | .live cs => .live (cs.map (D.ren ρ))
  | .froz cs => .froz (cs.map (D.ren ρ))
  | b => b

def bndBlk (n : Nat) : Blk → Bool
  | .live cs | .froz cs => cs.all (D.bnd n)
  | .dead => true
  | .void => false

/-- Block by block: what 'G' tells of a block, 'H' tells of the one that it was. -/
def fitsHeap (ρ0 : List Nat) (H : AHeap) : List Nat → AHeap → Prop
  | [], [] => True
  | r :: rs, b :: bs => (match b with
      | .dead => True
      | b => bndBlk ρ0.length b = true ∧ H[r]? = some (renBlk ρ0 b)) ∧ fitsHeap ρ0 H rs bs
  | _, _ => False

def fitsEnv (ρ : List Nat) (env : Env) : Env → Prop
  | [] => True
  | (t, d) :: r => (d.bnd ρ.length = true ∧ get env t = d.ren ρ) ∧ fitsEnv ρ env r

def liveIds : List Nat → AHeap → List Nat
  | r :: rs, .live _ :: bs => r :: liveIds rs bs
  | _ :: rs, _ :: bs => liveIds rs bs
  | _, _ => []

/-- The second tells no more than the first. -/
def le1 (a b : D) : Prop := a = b ∨ (a = .nil ∧ ∃ sz t, b = .sl sz [] t) ∨ (∃ sz es, a = .sl sz es true ∧ b = .sl sz es false) ∨ (a = .nil ∧ ∃ i o sz, b = .ref i o 0 sz) ∨ ∃ i o n sz c, a = .refc i o n sz c ∧ b = .ref i o n sz
def leC : List D → List D → Prop
  | [], [] => True
  | x :: xs, y :: ys => le1 x y ∧ leC xs ys
  | _, _ => False
def leD (a b : D) : Prop := le1 a b ∨ ∃ xs ys, a = .agg xs ∧ b = .agg ys ∧ leC xs ys
def leEnv (env : Env) : Env → Prop
  | [] => True
  | (t, d) :: r => leD (get env t) d ∧ leEnv env r
def leB : Blk → Blk → Prop
  | .live xs, .live ys => leC xs ys
  | .froz xs, .froz ys => leC xs ys
  | a, b => a = b
def leH : AHeap → AHeap → Prop
  | [], [] => True
  | x :: xs, y :: ys => leB x y ∧ leH xs ys
  | _, _ => False

theorem le1_rel {w : World} {S : Nat → Prop} {β : Bmap} {a b : D} {v : Value} (h : le1 a b) (hr : Rel w S β a v) : Rel w S β b v := by
  rcases h with rfl | ⟨rfl, sz, t, rfl⟩ | ⟨sz, es, rfl, rfl⟩ | ⟨rfl, i, o, sz, rfl⟩ | ⟨i, o, n, sz, c, rfl, rfl⟩
  · exact hr
  · cases hr; exact .slNone _ _
  · cases hr with
    | slNone => exact .slNone _ _
    | sl sz es t ad cap vf h1 h2 h3 h4 h5 h6 => exact .sl sz es false ad cap vf h1 h2 (fun h => by cases h) h4 h5 h6
  · cases hr; exact .refEmpty _ _ _ _
  · cases hr with
    | refc _ _ _ _ _ blk off h1 h2 h3 T n h4 h5 => exact .ref _ _ _ _ blk off _ h1 h2 h3 T n h4 h5
    | refcEmpty => exact .refEmpty _ _ _ _
theorem leC_get : ∀ {xs ys : List D}, leC xs ys → xs.length = ys.length ∧ ∀ (i : Nat) (y : D), ys[i]? = some y → ∃ x, xs[i]? = some x ∧ le1 x y
  | [], [], _ => ⟨rfl, fun i y h => by simp at h⟩
  | x :: xs, y :: ys, h => by
    obtain ⟨h1, h2⟩ := leC_get h.2
    refine ⟨by simp [h1], fun i y' hy => ?_⟩
    cases i with
    | zero => simp at hy; subst hy; exact ⟨x, rfl, h.1⟩
    | succ i => exact h2 i y' (by simpa using hy)
  | [], _ :: _, h => h.elim
  | _ :: _, [], h => h.elim
theorem leD_rel {w : World} {S : Nat → Prop} {β : Bmap} {a b : D} {v : Value} (h : leD a b) (hr : Rel w S β a v) : Rel w S β b v := by
  rcases h with h | ⟨xs, ys, rfl, rfl, h⟩
  · exact le1_rel h hr
  · obtain ⟨h1, h2⟩ := leC_get h
    cases hr with
    | agg _ vs k1 k0 k2 =>
      refine .agg ys vs (by rw [k1, h1]) k0 fun i d v hd hv => ?_
      obtain ⟨x, hx, hl⟩ := h2 i d hd
      exact le1_rel hl (k2 i x v hx hv)
theorem leEnv_get {env : Env} : ∀ {E : Env}, leEnv env E → ∀ t, get E t = .any ∨ leD (get env t) (get E t)
  | [], _, _ => .inl rfl
  | (k, d) :: r, h, t => by
    simp only [get]
    by_cases e : k = t
    · subst e; right; simpa using h.1
    · have : (k == t) = false := by simp [e]
      rw [this]; exact leEnv_get h.2 t
theorem leH_get : ∀ {H G : AHeap}, leH H G → H.length = G.length ∧ ∀ (i : Nat) (b : Blk), G[i]? = some b → ∃ a, H[i]? = some a ∧ leB a b
  | [], [], _ => ⟨rfl, fun i y h => by simp at h⟩
  | x :: xs, y :: ys, h => by
    obtain ⟨h1, h2⟩ := leH_get h.2
    refine ⟨by simp [h1], fun i y' hy => ?_⟩
    cases i with
    | zero => simp at hy; subst hy; exact ⟨x, rfl, h.1⟩
    | succ i => exact h2 i y' (by simpa using hy)
  | [], _ :: _, h => h.elim
  | _ :: _, [], h => h.elim

theorem Lies.le {w : World} {S : Nat → Prop} {β : Bmap} {xs ys : List D} {blk off : Nat} {vs : Array Value} {T : TypeId} {fr : Nat × Nat} (h : leC xs ys) (hl : Lies w S β xs blk off vs T fr) : Lies w S β ys blk off vs T fr := by
  obtain ⟨h1, h2⟩ := leC_get h
  refine ⟨hl.heap, fun i v hi hv => hl.one i v (by omega) hv, fun i d hd => ?_⟩
  obtain ⟨x, hx, hle⟩ := h2 i d hd
  obtain ⟨v, k1, k2⟩ := hl.cell i x hx
  exact ⟨v, k1, le1_rel hle k2⟩

theorem leB_live {a : Blk} {ys : List D} (h : leB a (.live ys)) : ∃ xs, a = .live xs ∧ leC xs ys := by
  cases a with
  | live xs => exact ⟨xs, rfl, h⟩
  | _ => cases h
theorem leB_froz {a : Blk} {ys : List D} (h : leB a (.froz ys)) : ∃ xs, a = .froz xs ∧ leC xs ys := by
  cases a with
  | froz xs => exact ⟨xs, rfl, h⟩
  | _ => cases h
theorem leB_void {a : Blk} (h : leB a .void) : a = .void := by cases a <;> first | rfl | cases h

inductive Fits (n0 : Nat) : Env → AHeap → Env → AHeap → Prop
  | le (env : Env) (H : AHeap) (E : Env) (G : AHeap) (h1 : leEnv env E) (h2 : leH H G) : Fits n0 env H E G
  | weak (env : Env) (H : AHeap) (E : Env) (h : weaker env E) : Fits n0 env H E H
  | ren (ρ : List Nat) (env : Env) (H : AHeap) (E : Env) (G : AHeap) (h1 : fitsEnv ρ env E) (h2 : fitsHeap ρ H ρ G) (h3 : (liveIds ρ G).Nodup) (h4 : ρ.take n0 = List.range n0) : Fits n0 env H E G
  | froz (b : Nat) (cs : List D) (env : Env) (H : AHeap) (h : H[b]? = some (.live cs)) : Fits n0 env H env (H.set b (.froz cs))
  | cut (b : Nat) (cs : List D) (k : Nat) (env : Env) (H : AHeap) (h : H[b]? = some (.live cs)) : Fits n0 env H env (H.set b (.live (cs.take k)))
  | cell (b i : Nat) (cs : List D) (d d' : D) (env : Env) (H : AHeap) (h : H[b]? = some (.live cs)) (hd : cs[i]? = some d) (ht : ∀ (w : World) (S : Nat → Prop) (β : Bmap) (v : Value), AInv w S β H → Rel w S β d v → Rel w S β d' v) : Fits n0 env H env (H.set b (.live (cs.set i d')))
  | new (env : Env) (H : AHeap) : Fits n0 env H env (H ++ [.live []])
  | trans (env : Env) (H : AHeap) (env' : Env) (H' : AHeap) (env'' : Env) (H'' : AHeap) (h1 : Fits n0 env H env' H') (h2 : Fits n0 env' H' env'' H'') : Fits n0 env H env'' H''

section
variable {n : Nat} {w0 : World} {S0 : Nat → Prop} {β0 : Bmap} {H0 : AHeap}

theorem fitsHeap_get {ρ0 : List Nat} {H : AHeap} : ∀ {rs : List Nat} {G : AHeap}, fitsHeap ρ0 H rs G → rs.length = G.length ∧ ∀ (i : Nat) (b : Blk), G[i]? = some b → b = .dead ∨ (bndBlk ρ0.length b = true ∧ ∃ r, rs[i]? = some r ∧ H[r]? = some (renBlk ρ0 b))
  | [], [], _ => ⟨rfl, fun i b h => by simp at h⟩
  | r :: rs, b :: bs, h => by
    obtain ⟨h1, h2⟩ := fitsHeap_get h.2
    refine ⟨by simp [h1], fun i b' hb => ?_⟩
    cases i with
    | zero =>
      simp only [List.getElem?_cons_zero, Option.some.injEq] at hb
      subst hb
      cases b with
      | dead => exact .inl rfl
      | _ => exact .inr ⟨h.1.1, r, rfl, h.1.2⟩
    | succ i => simpa using h2 i b' (by simpa using hb)
  | [], _ :: _, h => h.elim
  | _ :: _, [], h => h.elim

theorem liveIds_mem : ∀ (rs : List Nat) (G : AHeap) (i : Nat) (cs : List D) (r : Nat), G[i]? = some (.live cs) → rs[i]? = some r → r ∈ liveIds rs G
  | [], _, _, _, _, _, h => by simp at h
  | _ :: _, [], _, _, _, h, _ => by simp at h
  | r0 :: rs, b :: bs, 0, cs, r, h, h' => by
    simp only [List.getElem?_cons_zero, Option.some.injEq] at h h'
    subst h; subst h'
    simp [liveIds]
  | r0 :: rs, b :: bs, i + 1, cs, r, h, h' => by
    have := liveIds_mem rs bs i cs r (by simpa using h) (by simpa using h')
    cases b <;> simp [liveIds, this]

theorem liveIds_inj : ∀ (rs : List Nat) (G : AHeap), (liveIds rs G).Nodup → ∀ (i j : Nat) (cs cs' : List D) (r : Nat), G[i]? = some (.live cs) → G[j]? = some (.live cs') → rs[i]? = some r → rs[j]? = some r → i = j
  | [], _, _, _, _, _, _, _, _, _, h, _ => by simp at h
  | _ :: _, [], _, _, _, _, _, _, h, _, _, _ => by simp at h
  | r0 :: rs, b :: bs, hn, 0, 0, _, _, _, _, _, _, _ => rfl
  | r0 :: rs, b :: bs, hn, 0, j + 1, cs, cs', r, h1, h2, h3, h4 => by
    simp only [List.getElem?_cons_zero, Option.some.injEq] at h1 h3
    subst h1; subst h3
    simp only [liveIds, List.nodup_cons] at hn
    exact absurd (liveIds_mem rs bs j cs' r0 (by simpa using h2) (by simpa using h4)) hn.1
  | r0 :: rs, b :: bs, hn, i + 1, 0, cs, cs', r, h1, h2, h3, h4 => by
    simp only [List.getElem?_cons_zero, Option.some.injEq] at h2 h4
    subst h2; subst h4
    simp only [liveIds, List.nodup_cons] at hn
    exact absurd (liveIds_mem rs bs i cs r0 (by simpa using h1) (by simpa using h3)) hn.1
  | r0 :: rs, b :: bs, hn, i + 1, j + 1, cs, cs', r, h1, h2, h3, h4 => by
    have hn' : (liveIds rs bs).Nodup := by
      cases b <;> first | exact hn | (simp only [liveIds, List.nodup_cons] at hn; exact hn.2)
    have := liveIds_inj rs bs hn' i j cs cs' r (by simpa using h1) (by simpa using h2) (by simpa using h3) (by simpa using h4)
    omega

theorem fitsEnv_get {ρ : List Nat} {env : Env} : ∀ {E : Env}, fitsEnv ρ env E → ∀ t, get E t = .any ∨ ((get E t).bnd ρ.length = true ∧ get env t = (get E t).ren ρ)
  | [], _, _ => .inl rfl
  | (k, d) :: r, h, t => by
    simp only [get]
    by_cases e : k = t
    · subst e; right; simpa using h.1
    · have : (k == t) = false := by simp [e]
      rw [this]; exact fitsEnv_get h.2 t

theorem fits_sound {env : Env} {H : AHeap} {E : Env} {G : AHeap} (hf : Fits H0.length env H E G) : ∀ {a : Act} {w : World} {S : Nat → Prop} {β : Bmap}, Stt n w0 S0 β0 H0 env H a w S β → AInv w0 S0 β0 H0 → ∃ S' β', Stt n w0 S0 β0 H0 E G a w S' β' := by
  induction hf with
  | weak env H E h =>
    intro a w S β hs _
    refine ⟨S, β, hs.defers, hs.size, fun t => ?_, hs.inv, hs.evo⟩
    rcases weaker_get h t with h1 | h1
    · exact .inl h1
    · rw [h1]; exact hs.env t
  | le env H E G h1 h2 =>
    intro a w S β hs _
    obtain ⟨hl, hg⟩ := leH_get h2
    have hI := hs.inv
    have hmt : ∀ blk, Mut β G blk → Mut β H blk := fun blk ⟨b, cs, off, hb, hk⟩ => by
      obtain ⟨x, hx, hle⟩ := hg b _ hb
      obtain ⟨xs, rfl, _⟩ := leB_live hle
      exact ⟨b, xs, off, hx, hk⟩
    refine ⟨S, β, hs.defers, hs.size, fun t => ?_, ⟨by rw [hI.len, hl], fun b cs hb => ?_, fun b cs hb => ?_, fun b b' cs cs' blk o o' hb hb' k k' => ?_, hI.old, fun b hb => ?_⟩,
      ⟨hs.evo.os, hs.evo.output, hs.evo.size, hs.evo.frame, hs.evo.shape, hs.evo.sub, hs.evo.bk, hs.evo.newS, fun b h => hs.evo.newM b (hmt b h)⟩⟩
    · rcases leEnv_get h1 t with h3 | h3
      · exact .inl h3
      · rcases hs.env t with h4 | ⟨v, h4, h5⟩
        · rw [h4] at h3
          left
          rcases h3 with (h3 | ⟨h3, _⟩ | ⟨_, _, h3, _⟩ | ⟨h3, _⟩ | ⟨_, _, _, _, _, h3, _⟩) | ⟨_, _, h3, _⟩
          · exact h3.symm
          all_goals cases h3
        · exact .inr ⟨v, h4, leD_rel h3 h5⟩
    · obtain ⟨x, hx, hle⟩ := hg b _ hb
      obtain ⟨xs, rfl, hc⟩ := leB_live hle
      rcases hI.live b xs hx with ⟨rfl, h3⟩ | ⟨blk, off, vs, T, fr, h3, h4, h5, h6⟩
      · cases cs with
        | nil => exact .inl ⟨rfl, h3⟩
        | cons _ _ => exact hc.elim
      · exact .inr ⟨blk, off, vs, T, fr, h3, h4, h5, h6.le hc⟩
    · obtain ⟨x, hx, hle⟩ := hg b _ hb
      obtain ⟨xs, rfl, hc⟩ := leB_froz hle
      rcases hI.froz b xs hx with ⟨rfl, h3⟩ | ⟨blk, off, vs, T, fr, h3, h4, h6⟩
      · cases cs with
        | nil => exact .inl ⟨rfl, h3⟩
        | cons _ _ => exact hc.elim
      · exact .inr ⟨blk, off, vs, T, fr, h3, h4, h6.le hc⟩
    · obtain ⟨x, hx, hle⟩ := hg b _ hb
      obtain ⟨xs, rfl, _⟩ := leB_live hle
      obtain ⟨x', hx', hle'⟩ := hg b' _ hb'
      obtain ⟨xs', rfl, _⟩ := leB_live hle'
      exact hI.apart b b' xs xs' blk o o' hx hx' k k'
    · obtain ⟨x, hx, hle⟩ := hg b _ hb
      rw [leB_void hle] at hx
      exact hI.void b hx
  | froz b cs env H h =>
    intro a w S β hs _
    obtain ⟨S', h1, h2, h3⟩ := hs.inv.freeze h
    exact ⟨S', β, hs.step h1 h2⟩
  | cut b cs k env H h =>
    intro a w S β hs _
    have hI := hs.inv
    have hlt : b < H.length := (List.getElem?_eq_some_iff.1 h).1
    have geto : ∀ i x, (H.set b (Blk.live (cs.take k)))[i]? = some x → (i = b ∧ x = .live (cs.take k)) ∨ (i ≠ b ∧ H[i]? = some x) := fun i x hi => by
      by_cases e : b = i
      · subst e
        rw [List.getElem?_set_self hlt] at hi
        exact .inl ⟨rfl, (Option.some.inj hi).symm⟩
      · rw [List.getElem?_set_ne e] at hi
        exact .inr ⟨fun e' => e e'.symm, hi⟩
    have getL : ∀ i ds, (H.set b (Blk.live (cs.take k)))[i]? = some (Blk.live ds) → ∃ ds', H[i]? = some (Blk.live ds') := fun i ds hi => by
      rcases geto i _ hi with ⟨rfl, _⟩ | ⟨_, h2⟩
      · exact ⟨cs, h⟩
      · exact ⟨ds, h2⟩
    refine ⟨S, β, hs.step ⟨by simp [hI.len], fun i ds hi => ?_, fun i ds hi => ?_, fun i j ds ds' blk o o' hi hj ki kj => ?_, hI.old, fun i hi => ?_⟩
      ⟨rfl, rfl, Nat.le_refl _, fun _ _ _ => rfl, fun _ _ h => h, fun _ h => h, fun _ _ h => h, fun _ h => .inl h, fun blk ⟨i, ds, o, hi, ki⟩ => ?_⟩⟩
    · rcases geto i _ hi with ⟨rfl, h2⟩ | ⟨h1, h2⟩
      · cases h2
        rcases hI.live i cs h with ⟨rfl, h3⟩ | ⟨blk, off, vs, T, fr, h3, h4, h5, h6⟩
        · exact .inl ⟨by simp, h3⟩
        · exact .inr ⟨blk, off, vs, T, fr, h3, h4, h5, h6.heap, fun j v hj hv => h6.one j v (by rw [List.length_take] at hj; omega) hv, fun j d hd => h6.cell j d (by
            rw [List.getElem?_take] at hd
            split at hd
            · exact hd
            · cases hd)⟩
      · exact hI.live i ds h2
    · rcases geto i _ hi with ⟨rfl, h2⟩ | ⟨h1, h2⟩
      · cases h2
      · exact hI.froz i ds h2
    · obtain ⟨es, h1⟩ := getL i _ hi
      obtain ⟨es', h2⟩ := getL j _ hj
      exact hI.apart i j es es' blk o o' h1 h2 ki kj
    · rcases geto i _ hi with ⟨rfl, h2⟩ | ⟨h1, h2⟩
      · cases h2
      · exact hI.void i h2
    · obtain ⟨es, h1⟩ := getL i _ hi
      exact .inl ⟨i, es, o, h1, ki⟩
  | cell b i0 cs d0 d1 env H h hd0 ht =>
    intro a w S β hs _
    have hI := hs.inv
    have hlt : b < H.length := (List.getElem?_eq_some_iff.1 h).1
    have geto : ∀ i x, (H.set b (Blk.live (cs.set i0 d1)))[i]? = some x → (i = b ∧ x = .live (cs.set i0 d1)) ∨ (i ≠ b ∧ H[i]? = some x) := fun i x hi => by
      by_cases e : b = i
      · subst e
        rw [List.getElem?_set_self hlt] at hi
        exact .inl ⟨rfl, (Option.some.inj hi).symm⟩
      · rw [List.getElem?_set_ne e] at hi
        exact .inr ⟨fun e' => e e'.symm, hi⟩
    have getL : ∀ i ds, (H.set b (Blk.live (cs.set i0 d1)))[i]? = some (Blk.live ds) → ∃ ds', H[i]? = some (Blk.live ds') := fun i ds hi => by
      rcases geto i _ hi with ⟨rfl, _⟩ | ⟨_, h2⟩
      · exact ⟨cs, h⟩
      · exact ⟨ds, h2⟩
    refine ⟨S, β, hs.step ⟨by simp [hI.len], fun i ds hi => ?_, fun i ds hi => ?_, fun i j ds ds' blk o o' hi hj ki kj => ?_, hI.old, fun i hi => ?_⟩
      ⟨rfl, rfl, Nat.le_refl _, fun _ _ _ => rfl, fun _ _ h => h, fun _ h => h, fun _ _ h => h, fun _ h => .inl h, fun blk ⟨i, ds, o, hi, ki⟩ => ?_⟩⟩
    · rcases geto i _ hi with ⟨rfl, h2⟩ | ⟨h1, h2⟩
      · cases h2
        rcases hI.live i cs h with ⟨rfl, h3⟩ | ⟨blk, off, vs, T, fr, h3, h4, h5, h6⟩
        · exact .inl ⟨by simp, h3⟩
        · exact .inr ⟨blk, off, vs, T, fr, h3, h4, h5, h6.heap, fun j v hj hv => h6.one j v (by rw [List.length_set] at hj; exact hj) hv, fun j d hd => by
            by_cases e : i0 = j
            · subst e
              rw [List.getElem?_set_self (List.getElem?_eq_some_iff.1 hd0).1] at hd
              cases hd
              obtain ⟨v, k1, k2⟩ := h6.cell i0 d0 hd0
              exact ⟨v, k1, ht w S β v hI k2⟩
            · rw [List.getElem?_set_ne e] at hd
              exact h6.cell j d hd⟩
      · exact hI.live i ds h2
    · rcases geto i _ hi with ⟨rfl, h2⟩ | ⟨h1, h2⟩
      · cases h2
      · exact hI.froz i ds h2
    · obtain ⟨es, h1⟩ := getL i _ hi
      obtain ⟨es', h2⟩ := getL j _ hj
      exact hI.apart i j es es' blk o o' h1 h2 ki kj
    · rcases geto i _ hi with ⟨rfl, h2⟩ | ⟨h1, h2⟩
      · cases h2
      · exact hI.void i h2
    · obtain ⟨es, h1⟩ := getL i _ hi
      exact .inl ⟨i, es, o, h1, ki⟩
  | new env H =>
    intro a w S β hs _
    obtain ⟨h1, h2⟩ := hs.inv.pad 1
    have hv : (pad H 1)[H.length]? = some Blk.void := by simp [pad]
    obtain ⟨β', h3, h4⟩ := h1.voidEmpty H.length hv _ (.inl rfl)
    have e : (pad H 1).set H.length (.live []) = H ++ [.live []] := by simp [pad]
    rw [e] at h3 h4
    exact ⟨S, β', hs.step h3 (h2.trans h4)⟩
  | trans _ _ _ _ _ _ _ _ ih1 ih2 =>
    intro a w S β hs hI0
    obtain ⟨S1, β1, h1⟩ := ih1 hs hI0
    exact ih2 h1 hI0
  | ren ρ env H E G h1 h2 h3 h4 =>
    intro a w S β hs hI0
    obtain ⟨hl, hg⟩ := fitsHeap_get h2
    have hI := hs.inv
    have gd : ∀ i, i < ρ.length → ρ[i]? = some (ρ.getD i 0) := fun i hi => by simp [List.getD, hi]
    have blk : ∀ (i : Nat) (b : Blk), G[i]? = some b → b ≠ .dead → i < ρ.length ∧ bndBlk ρ.length b = true ∧ H[ρ.getD i 0]? = some (renBlk ρ b) := fun i b hb hd => by
      have hi : i < ρ.length := by rw [hl]; exact (List.getElem?_eq_some_iff.1 hb).1
      rcases hg i b hb with h | ⟨h5, r, h6, h7⟩
      · exact absurd h hd
      · rw [gd i hi] at h6; cases h6; exact ⟨hi, h5, h7⟩
    have lies : ∀ {cs : List D} {b0 o1 vs0 T0 fr0}, cs.all (D.bnd ρ.length) = true → Lies w S β (cs.map (D.ren ρ)) b0 o1 vs0 T0 fr0 → Lies w S (renB ρ β) cs b0 o1 vs0 T0 fr0 := fun hb h =>
      ⟨h.heap, fun i v hi hv => h.one i v (by simpa using hi) hv, fun i d hd => let ⟨v, k1, k2⟩ := h.cell i (d.ren ρ) (by simp [hd]); ⟨v, k1, Rel.ren k2 d rfl (List.all_eq_true.1 hb d (List.mem_of_getElem? hd))⟩⟩
    refine ⟨S, renB ρ β, hs.defers, hs.size, fun t => ?_, ⟨by simp [renB, hl], fun b cs hb => ?_, fun b cs hb => ?_, fun b b' cs cs' bl o o' hb hb' k k' => ?_, hI.old, fun b hb => ?_⟩,
      ⟨hs.evo.os, hs.evo.output, hs.evo.size, hs.evo.frame, hs.evo.shape, hs.evo.sub, fun b x h => ?_, hs.evo.newS, fun b h => ?_⟩⟩
    · rcases fitsEnv_get h1 t with h5 | ⟨h5, h6⟩
      · exact .inl h5
      · rcases hs.env t with h7 | ⟨v, h7, h8⟩
        · left
          rw [h6] at h7
          cases hd : get E t <;> rw [hd] at h7 <;> simp [D.ren] at h7
        · rw [h6] at h8; exact .inr ⟨v, h7, h8.ren _ rfl h5⟩
    · obtain ⟨hi, h5, h6⟩ := blk b _ hb (by simp)
      rcases hI.live _ _ h6 with ⟨h7, h8⟩ | ⟨b0, o, vs0, T0, fr0, h7, h8, h9, h10⟩
      · exact .inl ⟨by simpa using h7, renB_bk hi h8⟩
      · exact .inr ⟨b0, o, vs0, T0, fr0, renB_bk hi h7, h8, h9, lies h5 h10⟩
    · obtain ⟨hi, h5, h6⟩ := blk b _ hb (by simp)
      rcases hI.froz _ _ h6 with ⟨h7, h8⟩ | ⟨b0, o, vs0, T0, fr0, h7, h8, h10⟩
      · exact .inl ⟨by simpa using h7, renB_bk hi h8⟩
      · exact .inr ⟨b0, o, vs0, T0, fr0, renB_bk hi h7, h8, lies h5 h10⟩
    · obtain ⟨hi, h5, h6⟩ := blk b _ hb (by simp)
      obtain ⟨hi', h5', h6'⟩ := blk b' _ hb' (by simp)
      have e := hI.apart _ _ _ _ bl o o' h6 h6' (bk_renB k).2 (bk_renB k').2
      exact liveIds_inj ρ G h3 b b' cs cs' _ hb hb' (gd b hi) (by rw [e]; exact gd b' hi')
    · obtain ⟨hi, h5, h6⟩ := blk b _ hb (by simp)
      simp [bndBlk] at h5
    · have hb0 : b < H0.length := by
        rw [← hI0.len]; exact (List.getElem?_eq_some_iff.1 h).1
      have hr : ρ[b]? = some b := by
        have := congrArg (·[b]?) h4
        simp only [List.getElem?_take_of_lt hb0] at this
        rw [this]; simp [hb0]
      have hbl : b < ρ.length := (List.getElem?_eq_some_iff.1 hr).1
      refine renB_bk hbl ?_
      rw [show ρ.getD b 0 = b from by simp [List.getD, hr]]
      exact hs.evo.bk b x h
    · obtain ⟨i, cs, o, hb, k⟩ := h
      obtain ⟨hi, h5, h6⟩ := blk i _ hb (by simp)
      exact hs.evo.newM b ⟨_, _, o, h6, (bk_renB k).2⟩

end
end Go.Proofs.YtlkffgmejcgdbaaDoor

/- Functions: entered by the walk of their bodies; called with data, whatever the heap of the caller's. Of no program. -/
namespace Go.Proofs.YtlkffgmejcgdbaaDoor
set_option linter.all false

def argEnv : List D → Nat → Env
  | [], _ => []
  | d :: r, i => (i, d) :: argEnv r (i + 1)

def resD (τ : Ty) (env : Env) (H : AHeap) : ResultVar → R
  | .tmp t => ⟨True, get env t, H⟩
  | .cell a t => aLoad τ t (get env a) H

def resL (τ : Ty) (env : Env) (H : AHeap) : List ResultVar → (List D → Prop) → Prop
  | [], k => k []
  | r :: rs, k => andR (resD τ env H r) fun d _ => resL τ env H rs fun ds => k (d :: ds)

def retK (τ : Ty) (rs : List ResultVar) (K : D → AHeap → Prop) (env : Env) (H : AHeap) : Prop :=
  match rs with
  | [r] => andR (resD τ env H r) fun d _ => K d H
  | rs => resL τ env H rs fun ds => K (.tup ds) H

def retQ (τ : Ty) (rs : List ResultVar) (K : D → AHeap → Prop) (e : Exit) (env : Env) (H : AHeap) : Prop :=
  match e with
  | .normal | .ret => retK τ rs K env H
  | _ => False

section
variable {P : Program} {τ : Ty} {n : Nat} {w0 : World} {S0 : Nat → Prop} {β0 : Bmap} {H0 : AHeap}
variable {env : Env} {H : AHeap} {a : Act} {w : World} {S : Nat → Prop} {β : Bmap}

theorem argEnv_get : ∀ (args : List D) (i t : Nat), get (argEnv args i) t = if t < i then .any else args.getD (t - i) .any
  | [], i, t => by simp [argEnv, get, List.getD]
  | d :: r, i, t => by
    simp only [argEnv, get, argEnv_get r (i + 1) t]
    by_cases e : i = t
    · subst e; simp [List.getD]
    · have e2 : (i == t) = false := by simp [e]
      rw [e2, cond_false]
      by_cases c : t < i
      · rw [if_pos (by omega), if_pos c]
      · rw [if_neg (by omega), if_neg c]
        have : t - i = (t - (i + 1)) + 1 := by omega
        rw [this]
        simp [List.getD]

theorem Stt.res (hT : TyOk P τ) (h : Stt n w0 S0 β0 H0 env H a w S β) {f : ResultVar → Sem Value} (f1 : ∀ t, f (.tmp t) = pure (a.tmps.getD t undef)) (f2 : ∀ x t, f (.cell x t) = do loadVar t (← asAddr (a.tmps.getD x undef))) (r : ResultVar) (ho : (resD τ env H r).ob) :
    ∃ v, (f r).run P w = .ok v w ∧ Rel w S β (resD τ env H r).d v := by
  have ev : ∀ t, Rel w S β (get env t) (a.tmps.getD t undef) := fun t => h.eval (x := .tmp t) rfl
  cases r with
  | tmp t => exact ⟨_, by rw [f1]; rfl, ev t⟩
  | cell x t =>
    have hx := ev x
    simp only [resD] at ho ⊢
    cases hd : get env x <;> rw [hd] at ho hx <;> simp only [aLoad] at ho ⊢ <;> try exact ho.elim
    · rename_i cs
      cases hv : a.tmps.getD x undef <;> rw [hv] at hx <;> cases hx
      rename_i ad vf h1 h2
      obtain ⟨v, h3, h4⟩ := loadVar_ok (P := P) hT (w := w) (S := S) (β := β) (t := t) (cs := cs) (a := ad) (fun j d hd =>
        ⟨vf j, (h1 j (List.getElem?_eq_some_iff.1 hd).1).2.1, (h1 j (List.getElem?_eq_some_iff.1 hd).1).2.2, h2 j d hd⟩) ho
      exact ⟨v, by rw [f2, hv]; simpa [asAddr] using h3, h4⟩
    · rename_i b o
      cases hv : a.tmps.getD x undef <;> rw [hv] at hx <;> cases hx
      rename_i blk off hk
      cases hc : cellsAt H b with
      | none => rw [hc] at ho; exact ho.elim
      | some cs =>
        rw [hc] at ho
        simp only at ho ⊢
        obtain ⟨v, h1, h2⟩ := loadVar_ok (P := P) hT (w := w) (S := S) (β := β) (t := t) (cs := cs.drop o) (a := ⟨blk, off + o, none⟩) (fun j d hd => by
          rw [List.getElem?_drop] at hd
          obtain ⟨v, h1, h2, h3⟩ := h.inv.cellsAt hc hk (o + j) d hd
          exact ⟨v, by rw [addr_at, Nat.add_assoc]; exact h1, h2, h3⟩) (partOb_drop ho)
        exact ⟨v, by rw [f2, hv]; simpa [asAddr] using h1, by rw [partD_drop]; exact h2⟩

theorem Stt.resL (hT : TyOk P τ) (h : Stt n w0 S0 β0 H0 env H a w S β) {f : ResultVar → Sem Value} (f1 : ∀ t, f (.tmp t) = pure (a.tmps.getD t undef)) (f2 : ∀ x t, f (.cell x t) = do loadVar t (← asAddr (a.tmps.getD x undef))) : ∀ (rs : List ResultVar) (k : List D → Prop), Go.Proofs.YtlkffgmejcgdbaaDoor.resL τ env H rs k →
    ∃ vs ds, (rs.mapM f).run P w = .ok vs w ∧ vs.length = ds.length ∧ rs.length = vs.length ∧ (∀ (i : Nat) (d : D) (v : Value), ds[i]? = some d → vs[i]? = some v → Rel w S β d v) ∧ k ds
  | [], k, hk => ⟨[], [], by simp, rfl, rfl, fun i d v hd _ => by simp at hd, hk⟩
  | r :: rs, k, hk => by
    obtain ⟨ho, hk⟩ := hk
    obtain ⟨v, h1, h2⟩ := h.res hT f1 f2 r ho
    obtain ⟨vs, ds, h3, h4, h5, h6, h7⟩ := Stt.resL hT h f1 f2 rs _ hk
    refine ⟨v :: vs, (resD τ env H r).d :: ds, ?_, by simp [h4], by simp [h5], fun i d u hd hu => ?_, h7⟩
    · simp only [List.mapM_cons, Sem.run_bind, h1, h3, Result.andThen_ok, Sem.run_pure]
    · cases i with
      | zero => simp at hd hu; subst hd; subst hu; exact h2
      | succ i => exact h6 i d u (by simpa using hd) (by simpa using hu)

theorem results_eq (fn : Func) (tmps : Array Value) : ∃ f : ResultVar → Sem Value, (∀ t, f (.tmp t) = pure (tmps.getD t undef)) ∧ (∀ x t, f (.cell x t) = do loadVar t (← asAddr (tmps.getD x undef))) ∧
    Go.results fn tmps = (do let vs ← fn.results.toList.mapM f; pure (if h : vs.toArray.size = 1 then vs.toArray[0] else .tuple vs.toArray)) := by
  refine ⟨fun r => match r with | .tmp t => pure (tmps.getD t undef) | .cell x t => do loadVar t (← asAddr (tmps.getD x undef)), fun _ => rfl, fun _ _ => rfl, ?_⟩
  unfold Go.results
  rw [Array.mapM_eq_mapM_toList]
  simp only [map_eq_pure_bind, bind_assoc, pure_bind]
  congr 1

theorem Stt.results (hT : TyOk P τ) (h : Stt n w0 S0 β0 H0 env H a w S β) (fn : Func) (K : D → AHeap → Prop) (hr : retK τ fn.results.toList K env H) :
    ∃ v d, (Go.results fn a.tmps).run P w = .ok v w ∧ Rel w S β d v ∧ K d H := by
  have gen : ∃ (vs : List Value) (ds : List D), vs.length = fn.results.toList.length ∧ vs.length = ds.length ∧ (∀ (i : Nat) (d : D) (v : Value), ds[i]? = some d → vs[i]? = some v → Rel w S β d v) ∧
      (Go.results fn a.tmps).run P w = .ok (if h : vs.toArray.size = 1 then vs.toArray[0] else .tuple vs.toArray) w ∧ K (if ds.length = 1 then ds.getD 0 .any else .tup ds) H := by
    have key : ∀ k, Go.Proofs.YtlkffgmejcgdbaaDoor.resL τ env H fn.results.toList k → ∃ (vs : List Value) (ds : List D), vs.length = fn.results.toList.length ∧ vs.length = ds.length ∧ (∀ (i : Nat) (d : D) (v : Value), ds[i]? = some d → vs[i]? = some v → Rel w S β d v) ∧
        (Go.results fn a.tmps).run P w = .ok (if h : vs.toArray.size = 1 then vs.toArray[0] else .tuple vs.toArray) w ∧ k ds := fun k hk => by
      obtain ⟨f, f1, f2, f3⟩ := results_eq fn a.tmps
      obtain ⟨vs, ds, h1, h2, h3, h4, h5⟩ := h.resL hT f1 f2 fn.results.toList k hk
      refine ⟨vs, ds, h3.symm, h2, h4, ?_, h5⟩
      rw [f3]
      simp only [Sem.run_bind, Sem.run_pure, h1, Result.andThen_ok]
    unfold retK at hr
    split at hr
    · rename_i r he
      obtain ⟨ho, hk⟩ := hr
      obtain ⟨vs, ds, h1, h2, h3, h4, h5⟩ := key (fun ds => K (if ds.length = 1 then ds.getD 0 .any else .tup ds) H) (by rw [he]; exact ⟨ho, by simpa [Go.Proofs.YtlkffgmejcgdbaaDoor.resL, List.getD] using hk⟩)
      exact ⟨vs, ds, h1, h2, h3, h4, h5⟩
    · rename_i hne
      obtain ⟨vs, ds, h1, h2, h3, h4, h5⟩ := key _ hr
      refine ⟨vs, ds, h1, h2, h3, h4, ?_⟩
      have : ds.length ≠ 1 := fun e => by
        rw [← h2, h1] at e
        match hl : fn.results.toList, e with
        | [r], _ => exact hne r hl
      rw [if_neg this]
      exact h5
  obtain ⟨vs, ds, h1, h2, h3, h4, h5⟩ := gen
  refine ⟨_, _, h4, ?_, h5⟩
  by_cases hl : ds.length = 1
  · have hl2 : vs.toArray.size = 1 := by simp; omega
    rw [dif_pos hl2, if_pos hl]
    have hd : ds[0]? = some (ds.getD 0 .any) := by simp [List.getD, hl]
    exact h3 0 _ _ hd (by simp)
  · have hl2 : ¬ vs.toArray.size = 1 := by simp; omega
    rw [dif_neg hl2, if_neg hl]
    exact .tup ds vs.toArray (by simpa using h2) (fun i d v hd hv => h3 i d v hd (by simpa using hv))

/-- A function by its body. -/
theorem acalls_of_awp (hT : TyOk P τ) {g : FuncId} {fn : Func} {c : Code} {args : List D} {H : AHeap} {K : D → AHeap → Prop} {fits : Env → AHeap → Env → AHeap → Prop} {draw : Nat → List Oper → (Env → AHeap → Prop) → Env → AHeap → Prop}
    (hf : P.funcs[g]? = some fn) (hnm : (fn.name == "runtime.NumGoroutine") = false) (hb : fn.body = some c) (hn : args.length ≤ fn.ntmps) (hok : okCode fn.ntmps c = true) (hw : WOk P τ fn.ntmps H fits draw)
    (h : awp P τ fits draw c (retQ τ fn.results.toList K) (argEnv args 0) H) : ACalls P g args H K := by
  refine ⟨⟨fn, hf, hnm, by rw [hb]; rfl⟩, fun w S β vs hI hl hr => ?_⟩
  refine calls_of_wp hf hb ?_
  have hst : Stt fn.ntmps w S β H (argEnv args 0) H { tmps := vs ++ Array.replicate (fn.ntmps - vs.size) undef, defers := [] } w S β := by
    refine ⟨rfl, by simp; omega, fun t => ?_, hI, Evo.refl _ _ _ _⟩
    rw [argEnv_get]
    simp only [Nat.not_lt_zero, if_false, Nat.sub_zero]
    by_cases ht : t < args.length
    · right
      refine ⟨vs[t]'(by omega), by simp [Array.getElem?_append, show t < vs.size by omega], hr t _ _ ?_ (by simp [show t < vs.size by omega])⟩
      simp [List.getD, ht]
    · left
      simp [List.getD, List.getElem?_eq_none (Nat.le_of_not_lt ht)]
  refine awp_sound hT hI hw c hok (retQ τ fn.results.toList K) _ (fun e a w' hng hl => ?_) (argEnv args 0) H _ w S β hst h
  obtain ⟨env', H', S', β', h', hk⟩ := hl
  have fin : retK τ fn.results.toList K env' H' → ∃ v, (Go.results fn a.tmps).run P w' = .ok v w' ∧ ∃ v' d H'' S' β', Ending.returned v = .returned v' ∧ AInv w' S' β' H'' ∧ Evo w S β H w' S' β' H'' ∧ Rel w' S' β' d v' ∧ K d H'' := fun hk => by
    obtain ⟨v, d, h1, h2, h3⟩ := h'.results hT fn K hk
    exact ⟨v, h1, v, d, H', S', β', rfl, h'.inv, h'.evo, h2, h3⟩
  cases e with
  | normal => exact ⟨h'.defers, fin hk⟩
  | ret => exact ⟨h'.defers, fin hk⟩
  | exit id => exact hk.elim
  | goto l => exact hk.elim
  | panic ch => exact hk.elim
  | outgrown => exact hk.elim

/-- What is told of another's call leaves one's own heap as it was. -/
theorem AInv.frame {w' : World} {S' βs : _} {Hs' : AHeap} (hI : AInv w S β H) (hE : Evo w S [] [] w' S' βs Hs') (hold : Old w' S') : AInv w' S' β H ∧ Evo w S β H w' S' β H := by
  have nomut : ∀ b, ¬ Mut [] [] b := fun b ⟨i, cs, o, h, _⟩ => by simp at h
  have hheap : ∀ b, b < w.heap.size → w'.heap[b]? = w.heap[b]? := fun b hb => hE.frame b hb (nomut b)
  have hS : ∀ b, b < w.heap.size → S' b → S b := fun b hb h => by
    rcases hE.newS b h with h | h | h
    · exact h
    · exact absurd h (nomut b)
    · omega
  have keep : ∀ {d v}, Rel w S β d v → Rel w' S' β d v := fun h => h.keep (fun b hb => hheap b (hI.old b hb)) hE.sub (fun _ _ h => h) hE.shape
  have lies : ∀ {cs b0 o1 vs0 T0 fr0}, Lies w S β cs b0 o1 vs0 T0 fr0 → Lies w' S' β cs b0 o1 vs0 T0 fr0 := fun h =>
    ⟨by rw [hheap _ (Array.getElem?_eq_some_iff.1 h.heap).1]; exact h.heap, h.one, fun i d hd => let ⟨v, h1, h2⟩ := h.cell i d hd; ⟨v, h1, keep h2⟩⟩
  refine ⟨⟨hI.len, fun b cs h => ?_, fun b cs h => ?_, hI.apart, hold, hI.void⟩,
    ⟨hE.os, hE.output, hE.size, fun b hb _ => hheap b hb, hE.shape, hE.sub, fun _ _ h => h, fun b h => ?_, fun _ h => .inl h⟩⟩
  · rcases hI.live b cs h with h | ⟨b0, o, vs0, T0, fr0, h3, h4, h5, h6⟩
    · exact .inl h
    · exact .inr ⟨b0, o, vs0, T0, fr0, h3, fun hs => h4 (hS b0 (Array.getElem?_eq_some_iff.1 h6.heap).1 hs), h5, lies h6⟩
  · rcases hI.froz b cs h with h | ⟨b0, o, vs0, T0, fr0, h3, h4, h6⟩
    · exact .inl h
    · exact .inr ⟨b0, o, vs0, T0, fr0, h3, hE.sub _ h4, lies h6⟩
  · rcases hE.newS b h with h | h | h
    · exact .inl h
    · exact absurd h (nomut b)
    · exact .inr (.inr h)

end

def Blk.fz : Blk → Blk
  | .live cs => .froz cs
  | b => b

section
variable {w : World} {S : Nat → Prop} {β : Bmap} {H : AHeap}

theorem AInv.freezeUpTo (hI : AInv w S β H) : ∀ (k : Nat), ∃ S', AInv w S' β ((H.take k).map Blk.fz ++ H.drop k) ∧ Evo w S β H w S' β ((H.take k).map Blk.fz ++ H.drop k)
  | 0 => ⟨S, by simpa using hI, by simpa using Evo.refl _ _ _ _⟩
  | k + 1 => by
    obtain ⟨S', h1, h2⟩ := hI.freezeUpTo k
    by_cases hk : k < H.length
    · have e1 : (H.take (k + 1)).map Blk.fz ++ H.drop (k + 1) = ((H.take k).map Blk.fz ++ H.drop k).set k (H[k].fz) := by
        rw [List.set_append_right _ _ (by simp; omega)]
        have hlen : ((H.take k).map Blk.fz).length = k := by simp; omega
        rw [hlen, Nat.sub_self, List.take_succ_eq_append_getElem hk, List.map_append, List.drop_eq_getElem_cons hk]
        simp only [List.map_cons, List.map_nil, List.append_assoc, List.cons_append, List.nil_append, List.set_cons_zero]
      have hget : ((H.take k).map Blk.fz ++ H.drop k)[k]? = some H[k] := by
        rw [List.getElem?_append_right (by rw [List.length_map, List.length_take]; omega), List.getElem?_drop]
        simp [Nat.min_eq_left (Nat.le_of_lt hk), hk]
      rw [e1]
      cases hb : H[k] with
      | live cs =>
        rw [hb] at hget
        obtain ⟨S'', g1, g2, _⟩ := h1.freeze hget
        exact ⟨S'', g1, h2.trans g2⟩
      | _ =>
        rw [hb] at hget
        simp only [Blk.fz]
        rw [set_self hget]
        exact ⟨S', h1, h2⟩
    · have e1 : (H.take (k + 1)).map Blk.fz ++ H.drop (k + 1) = (H.take k).map Blk.fz ++ H.drop k := by
        rw [List.take_of_length_le (by omega), List.take_of_length_le (by omega), List.drop_of_length_le (by omega), List.drop_of_length_le (by omega)]
      rw [e1]
      exact ⟨S', h1, h2⟩

theorem AInv.freezeAll (hI : AInv w S β H) : ∃ S', AInv w S' β (H.map Blk.fz) ∧ Evo w S β H w S' β (H.map Blk.fz) := by
  obtain ⟨S', h1, h2⟩ := hI.freezeUpTo H.length
  simp only [List.take_length, List.drop_length, List.append_nil] at h1 h2
  exact ⟨S', h1, h2⟩

end

/-- Whatever is told by 'r' over the heap is told by 'd', which names no block. -/
def Sub (H : AHeap) (r d : D) : Prop :=
  d.noIds = true ∧ ∀ (w : World) (S : Nat → Prop) (β : Bmap) (v : Value), AInv w S β H → Rel w S β r v → Rel w S β d v

theorem Sub.refl {H : AHeap} {d : D} (h : d.noIds = true) : Sub H d d := ⟨h, fun _ _ _ _ _ h => h⟩

/-- A function of data: called on data it returns data. -/
def PureF (P : Program) (g : FuncId) (args : List D) (d : D) : Prop := ACalls P g args [] fun r H' => Sub (H'.map Blk.fz) r d

theorem pcall_sub {P : Program} {g : FuncId} {args pargs : List D} {d : D} {H : AHeap} {K : D → AHeap → Prop} (hF : PureF P g pargs d) (hl : args.length = pargs.length) (hs : ∀ (i : Nat) (x y : D), args[i]? = some x → pargs[i]? = some y → Sub H x y) (hk : K d H) : ACalls P g args H K := by
  refine ⟨hF.1, fun w S β vs hI hlv hr => ?_⟩
  have hI0 : AInv w S [] [] := ⟨rfl, fun b cs h => by simp at h, fun b cs h => by simp at h, fun b b' cs cs' blk o o' h => by simp at h, hI.old, fun b h => by simp at h⟩
  refine (hF.2 w S [] vs hI0 (by omega) (fun i y v hy hv => ?_)).mono ?_
  · have hi : i < args.length := by rw [hl]; exact (List.getElem?_eq_some_iff.1 hy).1
    obtain ⟨h1, h2⟩ := hs i _ y (List.getElem?_eq_getElem hi) hy
    exact (h2 w S β v hI (hr i _ v (List.getElem?_eq_getElem hi) hv)).noIds [] h1
  · rintro e w' ⟨v, r, Hs', S', βs, rfl, h1, h2, h3, h4, h5⟩
    obtain ⟨S'', h6, h7⟩ := h1.freezeAll
    have h8 := (h5 w' S'' βs v h6 (h3.evo h1 h7)).noIds β h4
    obtain ⟨h9, h10⟩ := hI.frame (h2.trans h7) h6.old
    exact ⟨v, d, H, S'', β, rfl, h9, h10, h8, hk⟩

theorem pcall {P : Program} {g : FuncId} {args : List D} {d : D} {H : AHeap} {K : D → AHeap → Prop} (hF : PureF P g args d) (hn : args.all D.noIds = true) (hk : K d H) : ACalls P g args H K :=
  pcall_sub hF rfl (fun i x y hx hy => by rw [hx] at hy; cases hy; exact Sub.refl (List.all_eq_true.1 hn x (List.mem_of_getElem? hx))) hk

/-- Ahead of a call a block of one's own becomes one for good. -/
theorem acall_froz {P : Program} {g : FuncId} {args : List D} {H : AHeap} {K : D → AHeap → Prop} (b : Nat) {cs : List D} (hb : H[b]? = some (.live cs)) (h : ACalls P g args (H.set b (.froz cs)) K) : ACalls P g args H K := by
  refine ⟨h.1, fun w S β vs hI hl hr => ?_⟩
  obtain ⟨S', h1, h2, h3⟩ := hI.freeze hb
  refine (h.2 w S' β vs h1 hl (fun i d v hd hv => (hr i d v hd hv).evo hI h2)).mono ?_
  rintro e w' ⟨v, d, H', S'', β', rfl, h4, h5, h6, h7⟩
  exact ⟨v, d, H', S'', β', rfl, h4, h2.trans h5, h6, h7⟩

end Go.Proofs.YtlkffgmejcgdbaaDoor
