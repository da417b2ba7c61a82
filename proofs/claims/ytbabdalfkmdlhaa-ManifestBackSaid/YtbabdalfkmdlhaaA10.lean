/- The abstract operations are sound, seventh part: append, copy, bytes and strings. Of no program. -/
import Derived.Test.YtbabdalfkmdlhaaA9
namespace Go.Proofs.Ytbabdalfkmdlhaa
set_option linter.all false
section
variable {P : Program} {τ : Ty} {w : World} {S : Nat → Prop} {β : Bmap} {H : AHeap}

theorem flat_get (sz : Nat) : ∀ (es : List D), (∀ e, e ∈ es → e.cells.length = sz) → ∀ (k : Nat) (d : D), (es.flatMap D.cells)[k]? = some d → ∃ i j e, es[i]? = some e ∧ e.cells[j]? = some d ∧ k = i * sz + j
  | [], _, k, d, h => by simp at h
  | e :: es, he, k, d, h => by
    have hl := he e (by simp)
    rw [List.flatMap_cons] at h
    by_cases c : k < sz
    · rw [List.getElem?_append_left (by omega)] at h
      exact ⟨0, k, e, rfl, h, by simp⟩
    · rw [List.getElem?_append_right (by omega), hl] at h
      obtain ⟨i, j, e', h1, h2, h3⟩ := flat_get sz es (fun x hx => he x (by simp [hx])) (k - sz) d h
      exact ⟨i + 1, j, e', by simpa using h1, h2, by rw [Nat.add_mul]; omega⟩

theorem flat_length (sz : Nat) : ∀ (es : List D), (∀ e, e ∈ es → e.cells.length = sz) → (es.flatMap D.cells).length = es.length * sz
  | [], _ => by simp
  | e :: es, he => by
    rw [List.flatMap_cons, List.length_append, flat_length sz es (fun x hx => he x (by simp [hx])), he e (by simp), List.length_cons, Nat.add_mul]
    omega

/-- Cells that lie in memory one behind the other are loaded as they are told. -/
theorem load_cells (ds : List D) (a : Addr) (h : ∀ (j : Nat) (d : D), ds[j]? = some d → ∃ v, w.cell? (a.add j) = some v ∧ v.oneCell' = true ∧ Rel w S β d v) :
    ∃ arr : Array Value, (∀ w' : World, w'.heap = w.heap → (loadCells a ds.length).run P w' = .ok arr w') ∧ RelCells w S β ds arr.toList := by
  have hex : ∀ j, ∃ v, ∀ d, ds[j]? = some d → w.cell? (a.add j) = some v ∧ v.oneCell' = true ∧ Rel w S β d v := fun j => by
    cases hd : ds[j]? with
    | none => exact ⟨undef, fun d h => by cases h⟩
    | some d => obtain ⟨v, h1⟩ := h j d hd; exact ⟨v, fun d' h' => by cases h'; exact h1⟩
  let f : Nat → Value := fun j => Classical.choose (hex j)
  have hf : ∀ j d, ds[j]? = some d → w.cell? (a.add j) = some (f j) ∧ (f j).oneCell' = true ∧ Rel w S β d (f j) := fun j => Classical.choose_spec (hex j)
  refine ⟨((List.range ds.length).map f).toArray, fun w' hw => run_loadCells w' a ds.length f (fun j hj => ?_), by simp, fun i d hd => ?_⟩
  · rw [show w'.cell? (a.add j) = w.cell? (a.add j) from by simp [World.cell?, hw]]
    exact (hf j _ (List.getElem?_eq_getElem hj)).1
  · have hi := (List.getElem?_eq_some_iff.1 hd).1
    exact ⟨f i, by simp [hi], (hf i d hd).2⟩

theorem elem_ok (hI : AInv w S β H) {x : D} {v : Value} (hx : Rel w S β x v) {xs : List D} {n : Nat} (h : elemCells H x = some (xs, n)) (sz m : Nat) (hsz : xs.length = n * sz) (hm : m ≤ n) :
    (∀ w', (Builtin.lenOf v).run P w' = .ok n w') ∧ ∃ arr : Array Value, (∀ w' : World, w'.heap = w.heap → (Builtin.firstCells sz m v).run P w' = .ok arr w') ∧ RelCells w S β (xs.take (m * sz)) arr.toList := by
  have hms : m * sz ≤ n * sz := Nat.mul_le_mul_right _ hm
  have tk : ∀ (l : List D), l.length = n * sz → (l.take (m * sz)).length = m * sz := fun l hl => by rw [List.length_take]; omega
  cases hx <;> simp only [elemCells] at h <;> try (cases h; done)
  · -- a string
    rename_i s hs
    simp only [Option.some.injEq, Prod.mk.injEq] at h
    obtain ⟨rfl, rfl⟩ := h
    refine ⟨fun w' => rfl, ((s.take (m * sz)).map fun b => Value.int .u8 b.toNat).toArray, fun w' _ => ?_, by simp, fun i d hd => ?_⟩
    · have he : ((⟨⟨s⟩⟩ : ByteArray).extract 0 m).data.toList = s.take m := by rw [Lib.extract_data]; simp
      have he2 : ((⟨⟨s⟩⟩ : ByteArray).extract 0 m).data = (s.take m).toArray := Array.ext' (by rw [he])
      have he3 : s.take (m * sz) = s.take m := by
        simp only [List.length_map] at hsz
        rcases Nat.eq_zero_or_pos s.length with h0 | h0
        · have : s = [] := List.eq_nil_of_length_eq_zero h0
          subst this; simp
        · have hz1 : sz = 1 := by
            have : s.length * sz = s.length * 1 := by omega
            exact Nat.eq_of_mul_eq_mul_left h0 this
          rw [hz1, Nat.mul_one]
      simp [Builtin.firstCells, he2, he3]
    · rw [← List.map_take] at hd
      simp only [List.getElem?_map, Option.map_eq_some_iff] at hd
      obtain ⟨b, hb, rfl⟩ := hd
      exact ⟨.int .u8 b.toNat, by show ((s.take (m * sz)).map _)[i]? = _; rw [List.getElem?_map, hb]; rfl, rfl, byteD_rel b⟩
  · -- nil
    simp only [Option.some.injEq, Prod.mk.injEq] at h
    obtain ⟨rfl, rfl⟩ := h
    exact ⟨fun w' => rfl, #[], fun w' _ => rfl, by simp, fun i d hd => by simp at hd⟩
  · -- a slice that is nil
    simp only [Option.some.injEq, Prod.mk.injEq] at h
    obtain ⟨rfl, rfl⟩ := h
    exact ⟨fun w' => rfl, #[], fun w' _ => rfl, by simp, fun i d hd => by simp at hd⟩
  · -- a slice for good
    rename_i sz' es tight ad cap vf h1 h2 h3 h4 h5 h6
    simp only [Option.some.injEq, Prod.mk.injEq] at h
    obtain ⟨rfl, rfl⟩ := h
    obtain ⟨arr, h7, h8⟩ := load_cells (P := P) (w := w) (S := S) (β := β) ((es.flatMap D.cells).take (m * sz)) ad (fun k d hd => by
      rw [List.getElem?_take] at hd
      split at hd
      · obtain ⟨i, j, e, g1, g2, g3⟩ := flat_get sz' es h4 k d hd
        have hk : k < es.length * sz' := by rw [← flat_length sz' es h4]; exact (List.getElem?_eq_some_iff.1 hd).1
        exact ⟨vf k, (h5 k hk).2.1, (h5 k hk).2.2, by rw [g3]; exact h6 i e j d g1 g2⟩
      · cases hd)
    rw [tk _ hsz] at h7
    exact ⟨fun w' => rfl, arr, fun w' hw => by simpa [Builtin.firstCells] using h7 w' hw, h8⟩
  · -- a slice into a block
    rename_i b o len sz' blk off cap h1 h2 h3 T n' h4 h5
    split at h
    · rename_i cs hcs
      simp only [Option.some.injEq, Prod.mk.injEq] at h
      obtain ⟨rfl, rfl⟩ := h
      obtain ⟨arr, h7, h8⟩ := load_cells (P := P) (w := w) (S := S) (β := β) (((cs.drop o).take (len * sz')).take (m * sz)) ⟨blk, off + o, none⟩ (fun k d hd => by
        rw [List.getElem?_take] at hd
        split at hd
        · rw [List.getElem?_take] at hd
          split at hd
          · rw [List.getElem?_drop] at hd
            obtain ⟨v, g1, g2, g3⟩ := hI.cellsAt hcs h1 (o + k) d hd
            exact ⟨v, by rw [addr_at, Nat.add_assoc]; exact g1, g2, g3⟩
          · cases hd
        · cases hd)
      rw [tk _ hsz] at h7
      exact ⟨fun w' => rfl, arr, fun w' hw => by simpa [Builtin.firstCells] using h7 w' hw, h8⟩
    · cases h
  · -- an empty one
    rename_i b o sz' a
    split at h
    · rename_i cs hcs
      simp only [Nat.zero_mul, List.take_zero, Option.some.injEq, Prod.mk.injEq] at h
      obtain ⟨rfl, rfl⟩ := h
      have : m = 0 := by omega
      subst this
      refine ⟨fun w' => rfl, #[], fun w' _ => ?_, by simp, fun i d hd => by simp at hd⟩
      cases a <;> simp [Builtin.firstCells, loadCells, loadCellsFrom]
    · cases h

theorem TyAt.seq (hT : TyOk P τ) {t : TypeId} (hi : (τ t).td.isSeq = true) : P.underlying t = some .string ∨ ∃ e, P.underlying t = some (.slice e) := by
  cases htd : (τ t).td <;> rw [htd] at hi <;> simp [TD.isSeq] at hi
  · exact .inl ((hT t (by rw [htd]; rfl)).str htd)
  · exact .inr ⟨_, (hT t (by rw [htd]; rfl)).slice htd⟩

theorem append_room (hT : TyOk P τ) {t t' e ty : TypeId} (htd : (τ t).td = .slice e) (hke : (τ e).td.known = true) (hi' : (τ t').td.isSeq = true) (a : Option Addr) (sLen sCap n : Nat) (vx : Value) (arr : Array Value) (w' : World)
    (hn : (Builtin.lenOf vx).run P w = .ok n w) (hf : (Builtin.firstCells (τ e).size n vx).run P w = .ok arr w) (hroom : sLen + n ≤ sCap)
    (hst : ∀ ad, a = some ad → (storeCells (ad.add (sLen * (τ e).size)) arr.toList).run P w = .ok () w') (hst0 : a = none → w' = w) :
    (Builtin.append_ #[t, t'] ty #[.slice a sLen sCap, vx]).run P w = .ok (.slice a (sLen + n) sCap) w' := by
  have hu := (hT t (by rw [htd]; rfl)).slice htd
  have hs := (hT e hke).run_sizeOf w
  cases a with
  | none =>
    rw [hst0 rfl]
    rcases TyAt.seq hT hi' with h' | ⟨e', h'⟩ <;> simp [Builtin.append_, run_underlying hu, run_underlying h', hs, hn, hroom, hf]
  | some ad =>
    have := hst ad rfl
    rcases TyAt.seq hT hi' with h' | ⟨e', h'⟩ <;> simp [Builtin.append_, run_underlying hu, run_underlying h', hs, hn, hroom, hf, this]

theorem append_grow (hT : TyOk P τ) {t t' e ty : TypeId} (htd : (τ t).td = .slice e) (hke : (τ e).td.known = true) (hi' : (τ t').td.isSeq = true) (a : Option Addr) (sLen sCap n : Nat) (vx : Value) (olds arr : Array Value)
    (hn : (Builtin.lenOf vx).run P w = .ok n w) (hf : (Builtin.firstCells (τ e).size n vx).run P w.drew = .ok arr w.drew) (ho : (Builtin.firstCells (τ e).size sLen (.slice a sLen sCap)).run P w.drew = .ok olds w.drew)
    (hroom : sCap < sLen + n) (h63 : sLen + n ≤ maxLen) (hb : (sLen + n) * (τ e).bytes ≤ 140737488355328) :
    (Builtin.append_ #[t, t'] ty #[.slice a sLen sCap, vx]).run P w = .ok (.slice (some ⟨w.heap.size, 0, none⟩) (sLen + n) (grownCap w (sLen + n) sCap e))
      (w.drew.alloc (.cells (olds ++ arr ++ Builtin.zeroCells (τ e).zero.cells (grownCap w (sLen + n) sCap e - (sLen + n))) e)) := by
  have hu := (hT t (by rw [htd]; rfl)).slice htd
  obtain ⟨i, hi, hz, hs, hby⟩ := (hT e hke).info
  have hn1 : ¬ (sLen + n ≤ sCap) := by omega
  have h63' : ¬ (9223372036854775807 < ((sLen : Int) + (n : Int))) := by unfold maxLen at h63; omega
  have h48' : ¬ (281474976710656 < Builtin.nextslicecap (sLen + n) sCap * i.bytes) := by
    have := growslice_fits hroom hb
    rw [hby]; omega
  rw [← hs] at hf ho
  rcases TyAt.seq hT hi' with h' | ⟨e', h'⟩ <;> simp [Builtin.append_, run_underlying hu, run_underlying h', sizeOf, typeInfo, zeroValue, hi, hz, hn, hn1, h63', h48', Question.forced, hf, ho, newRow, grownCap]

end
end Go.Proofs.Ytbabdalfkmdlhaa
