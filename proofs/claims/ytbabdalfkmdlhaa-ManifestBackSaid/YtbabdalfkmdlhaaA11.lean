/- The abstract operations are sound, eighth part: the append, the copy, the conversions. Of no program. -/
import Derived.Test.YtbabdalfkmdlhaaA10
namespace Go.Proofs.Ytbabdalfkmdlhaa
set_option linter.all false
section
variable {P : Program} {τ : Ty} {w : World} {S : Nat → Prop} {β : Bmap} {H : AHeap}

theorem AInv.kill (hI : AInv w S β H) (b : Nat) : AInv w S β (H.set b .dead) ∧ Evo w S β H w S β (H.set b .dead) := by
  have hget : ∀ (b' : Nat) (x : Blk), x ≠ Blk.dead → (H.set b .dead)[b']? = some x → H[b']? = some x := fun b' x hx h => by
    rw [List.getElem?_set] at h
    split at h
    · split at h
      · cases h; exact absurd rfl hx
      · cases h
    · exact h
  refine ⟨⟨by simp [hI.len], fun b' cs h => hI.live b' cs (hget _ _ (by simp) h), fun b' cs h => hI.froz b' cs (hget _ _ (by simp) h),
    fun b1 b2 cs cs' blk o o' h h' => hI.apart b1 b2 cs cs' blk o o' (hget _ _ (by simp) h) (hget _ _ (by simp) h'), hI.old, fun b' h => hI.void b' (hget _ _ (by simp) h)⟩,
    ⟨rfl, rfl, Nat.le_refl _, fun _ _ _ => rfl, fun _ _ h => h, fun _ h => h, fun _ _ h => h, fun _ h => .inl h, ?_⟩⟩
  rintro k ⟨i, cs, o, h, hk⟩
  exact .inl ⟨i, cs, o, hget _ _ (by simp) h, hk⟩

theorem AInv.drew (hI : AInv w S β H) : AInv w.drew S β H ∧ Evo w S β H w.drew S β H := hI.sameHeap rfl rfl rfl

theorem Rel.drew {d : D} {v : Value} (h : Rel w S β d v) : Rel w.drew S β d v := Rel.keep (w := w) (w' := w.drew) (fun _ _ => rfl) (fun _ h => h) (fun _ _ h => h) (fun _ _ h => h) h

theorem RelCells.drew {ds : List D} {vs : List Value} (h : RelCells w S β ds vs) : RelCells w.drew S β ds vs := ⟨h.1, fun i d hd => let ⟨v, a, b, c⟩ := h.2 i d hd; ⟨v, a, b, c.drew⟩⟩

/-- The append grows: a new block, told as 'slot'. -/
theorem grow_slot (hT : TyOk P τ) (hI : AInv w S β H) {t t' e ty : TypeId} (htd : (τ t).td = .slice e) (hke : (τ e).td.known = true) (hi' : (τ t').td.isSeq = true) (hz : okVal (τ e).zero = true) (hzs : (ofVal (τ e).zero).cells.length = (τ e).size)
    {slot : Nat} (hv : H[slot]? = some Blk.void) (b : Nat) (hb : b ≠ slot) (a : Option Addr) (sLen sCap n : Nat) (vx : Value) (olds arr : Array Value) (os xs : List D)
    (hn : (Builtin.lenOf vx).run P w = .ok n w) (hf : (Builtin.firstCells (τ e).size n vx).run P w.drew = .ok arr w.drew) (ho : (Builtin.firstCells (τ e).size sLen (.slice a sLen sCap)).run P w.drew = .ok olds w.drew)
    (hos : RelCells w S β os olds.toList) (hxs : RelCells w S β xs arr.toList) (hol : os.length = sLen * (τ e).size) (hxl : xs.length = n * (τ e).size)
    (hroom : sCap < sLen + n) (h63 : sLen + n ≤ maxLen) (hb2 : (sLen + n) * (τ e).bytes ≤ 140737488355328) (H1 : AHeap) (hH1 : H1 = H ∨ H1 = H.set b .dead) :
    ∃ v' w' β', (Builtin.append_ #[t, t'] ty #[.slice a sLen sCap, vx]).run P w = .ok v' w' ∧ AInv w' S β' (H1.set slot (.live (os ++ xs))) ∧ Evo w S β H w' S β' (H1.set slot (.live (os ++ xs))) ∧ Rel w' S β' (.ref slot 0 (sLen + n) (τ e).size) v' := by
  have hrun := append_grow (P := P) hT (ty := ty) htd hke hi' a sLen sCap n vx olds arr hn hf ho hroom h63 hb2
  obtain ⟨I1, E1⟩ := hI.drew
  have step2 : AInv w.drew S β H1 ∧ Evo w.drew S β H w.drew S β H1 := by
    rcases hH1 with rfl | rfl
    · exact ⟨I1, Evo.refl _ _ _ _⟩
    · exact I1.kill b
  obtain ⟨I2, E2⟩ := step2
  have hv1 : H1[slot]? = some Blk.void := by
    rcases hH1 with rfl | rfl
    · exact hv
    · rw [List.getElem?_set_ne hb]; exact hv
  have hall := (hos.append hxs).drew
  obtain ⟨β', I3, E3, hk⟩ := I2.alloc slot hv1 (olds ++ arr ++ Builtin.zeroCells (τ e).zero.cells (grownCap w (sLen + n) sCap e - (sLen + n))) e (os ++ xs) (fun i d hd => by
    obtain ⟨v, h1, h2, h3⟩ := hall.2 i d hd
    refine ⟨v, ?_, h2, h3⟩
    have hlt : i < olds.size + arr.size := by
      have := (List.getElem?_eq_some_iff.1 h1).1
      simpa using this
    rw [Array.getElem?_append_left (by simpa using hlt)]
    rw [← Array.getElem?_toList, Array.toList_append]
    exact h1)
  refine ⟨_, _, β', hrun, I3, (E1.trans E2).trans E3, ?_⟩
  have hge := grownCap_ge w (sLen + n) sCap e
  refine .ref slot 0 (sLen + n) _ w.heap.size 0 _ hk hge (grownCap_le_maxLen w _ _ e h63) e (olds ++ arr ++ Builtin.zeroCells (τ e).zero.cells (grownCap w (sLen + n) sCap e - (sLen + n))).size ?_ ?_
  · unfold World.shape?
    have := heap_alloc_new w.drew (.cells (olds ++ arr ++ Builtin.zeroCells (τ e).zero.cells (grownCap w (sLen + n) sCap e - (sLen + n))) e)
    rw [World.size_drew] at this
    rw [this]
  · have z1 : (τ e).zero.cells.size = (τ e).size := by
      have := (zero_cells (w := w) (S := S) (β := β) hz).1
      simp at this; omega
    have o1 := hos.1
    have x1 := hxs.1
    simp only [Array.length_toList] at o1 x1
    simp only [Array.size_append, size_zeroCells, z1, o1, x1, hol, hxl, ← Nat.add_mul]
    have : sLen + n + (grownCap w (sLen + n) sCap e - (sLen + n)) = grownCap w (sLen + n) sCap e := by omega
    rw [this]; omega

theorem chunk_cells (agg : Bool) (sz : Nat) (hs : agg = false → sz = 1) : ∀ (n : Nat) (xs : List D), xs.length = n * sz → xs.all D.one = true →
    (chunk agg sz n xs).flatMap D.cells = xs ∧ (chunk agg sz n xs).length = n ∧ ∀ e, e ∈ chunk agg sz n xs → e.cells.length = sz
  | 0, xs, h, _ => by
    have : xs = [] := List.eq_nil_of_length_eq_zero (by simpa using h)
    subst this
    simp [chunk]
  | n + 1, xs, h, h1 => by
    have hl : sz ≤ xs.length := by rw [h, Nat.add_mul]; omega
    have h1' : (xs.drop sz).all D.one = true := by
      rw [List.all_eq_true] at h1 ⊢
      exact fun x hx => h1 x (List.mem_of_mem_drop hx)
    obtain ⟨i1, i2, i3⟩ := chunk_cells agg sz hs n (xs.drop sz) (by rw [List.length_drop, h, Nat.add_mul]; omega) h1'
    have hd : (if agg then D.agg (xs.take sz) else xs.getD 0 .any).cells = xs.take sz := by
      cases agg with
      | true => rfl
      | false =>
        have : sz = 1 := hs rfl
        subst this
        cases xs with
        | nil => simp at hl
        | cons x xs =>
          simp only [List.all_cons, Bool.and_eq_true] at h1
          have h2 := h1.1
          simp only [Bool.false_eq_true, if_false]
          cases x <;> simp [D.one] at h2 <;> rfl
    refine ⟨?_, by simp [chunk, i2], fun e he => ?_⟩
    · simp only [chunk, List.flatMap_cons, i1, hd, List.take_append_drop]
    · simp only [chunk, List.mem_cons] at he
      rcases he with rfl | he
      · rw [hd, List.length_take]; omega
      · exact i3 e he

theorem flat_of (sz : Nat) : ∀ (es : List D), (∀ e, e ∈ es → e.cells.length = sz) → ∀ (i j : Nat) (e d : D), es[i]? = some e → e.cells[j]? = some d → (es.flatMap D.cells)[i * sz + j]? = some d
  | [], _, i, _, _, _, h, _ => by simp at h
  | x :: es, he, 0, j, e, d, h, hd => by
    simp only [List.getElem?_cons_zero, Option.some.injEq] at h
    subst h
    rw [List.flatMap_cons, Nat.zero_mul, Nat.zero_add, List.getElem?_append_left (List.getElem?_eq_some_iff.1 hd).1]
    exact hd
  | x :: es, he, i + 1, j, e, d, h, hd => by
    have := flat_of sz es (fun y hy => he y (by simp [hy])) i j e d (by simpa using h) hd
    have hx := he x (by simp)
    rw [List.flatMap_cons, List.getElem?_append_right (by rw [hx, Nat.add_mul]; omega), hx]
    rw [show (i + 1) * sz + j - sz = i * sz + j by rw [Nat.add_mul]; omega]
    exact this

/-- A slice whose elements' cells lie one behind the other, in a block for good. -/
theorem sl_of_cells {sz : Nat} {es : List D} {tight : Bool} (he : ∀ e, e ∈ es → e.cells.length = sz) (arr : Array Value) (blk cap : Nat) (hS : S blk) {T : TypeId} {fr : Nat × Nat} {cells : Array Value} (hh : w.heap[blk]? = some (.cells cells T fr))
    (hc : ∀ (i : Nat) (v : Value), arr[i]? = some v → cells[i]? = some v) (hr : RelCells w S β (es.flatMap D.cells) arr.toList) (h1 : es.length ≤ cap) (h2 : cap ≤ maxLen) (h3 : tight = true → cap = es.length) :
    Rel w S β (.sl sz es tight) (.slice (some ⟨blk, 0, none⟩) es.length cap) := by
  refine .sl sz es tight ⟨blk, 0, none⟩ cap (fun k => arr.getD k undef) h1 h2 h3 he (fun i hi => ?_) (fun i e j d h h' => ?_)
  · rw [← flat_length sz es he] at hi
    obtain ⟨v, g1, g2, _⟩ := hr.2 i _ (List.getElem?_eq_getElem hi)
    rw [Array.getElem?_toList] at g1
    refine ⟨hS, ?_, ?_⟩
    · rw [addr_at]; simp [World.cell?, hh, hc i v g1, Array.getD_eq_getD_getElem?, g1]
    · simp [Array.getD_eq_getD_getElem?, g1, g2]
  · obtain ⟨v, g1, _, g3⟩ := hr.2 _ d (flat_of sz es he i j e d h h')
    rw [Array.getElem?_toList] at g1
    simp only [Array.getD_eq_getD_getElem?, g1, Option.getD_some]
    exact g3

/-- What an append asks, in common. -/
structure AppOb (τ : Ty) (t' e : TypeId) (xs : List D) (n k : Nat) : Prop where
  one : xs.all D.one = true
  len : xs.length = n * (τ e).size
  bytes : (k + n) * (τ e).bytes ≤ 140737488355328
  max : k + n ≤ maxLen
  known : (τ e).td.known = true
  seq : (τ t').td.isSeq = true
  zero : okVal (τ e).zero = true
  zlen : (ofVal (τ e).zero).cells.length = (τ e).size

theorem append_nil (hT : TyOk P τ) (hI : AInv w S β H) {t t' e ty : TypeId} (htd : (τ t).td = .slice e) {slot : Nat} (hv : H[slot]? = some Blk.void) {x : D} {vx : Value} (hx : Rel w S β x vx) {xs : List D} {n : Nat}
    (hel : elemCells H x = some (xs, n)) (ob : AppOb τ t' e xs n 0) :
    ∃ v' w' S' β', (Builtin.append_ #[t, t'] ty #[.slice none 0 0, vx]).run P w = .ok v' w' ∧ AInv w' S' β' (H.set slot (.live xs)) ∧ Evo w S β H w' S' β' (H.set slot (.live xs)) ∧ Rel w' S' β' (.ref slot 0 n (τ e).size) v' := by
  obtain ⟨hn, arr, hf, hr⟩ := elem_ok (P := P) hI hx hel (τ e).size n ob.len (Nat.le_refl _)
  rw [← ob.len, List.take_length] at hr
  rcases Nat.eq_zero_or_pos n with rfl | hpos
  · have hxs : xs = [] := List.eq_nil_of_length_eq_zero (by rw [ob.len]; simp)
    subst hxs
    obtain ⟨β', h1, h2⟩ := hI.voidEmpty slot hv H (.inl rfl)
    refine ⟨.slice none 0 0, w, S, β', ?_, h1, h2, .refEmpty _ _ _ _⟩
    have := append_room (P := P) hT (w := w) (ty := ty) htd ob.known ob.seq none 0 0 0 vx arr w (hn w) (hf w rfl) (Nat.le_refl _) (fun _ h => by cases h) (fun _ => rfl)
    simpa using this
  · obtain ⟨v', w', β', h1, h2, h3, h4⟩ := grow_slot (P := P) hT hI (ty := ty) htd ob.known ob.seq ob.zero ob.zlen hv (slot + 1) (by omega) none 0 0 n vx #[] arr [] xs (hn w) (hf w.drew rfl) (by simp [Builtin.firstCells]) ⟨rfl, fun i d h => by simp at h⟩ hr (by simp) ob.len (by omega) (by have := ob.max; omega) ob.bytes H (.inl rfl)
    simp only [List.nil_append, Nat.zero_add] at h2 h3 h4
    exact ⟨v', w', S, β', h1, h2, h3, h4⟩

theorem append_ref (hT : TyOk P τ) (hI : AInv w S β H) {t t' e ty : TypeId} (htd : (τ t).td = .slice e) {slot : Nat} (hv : H[slot]? = some Blk.void) {x : D} {vx vs : Value} (hx : Rel w S β x vx) {xs : List D} {n b o len : Nat}
    (hs : Rel w S β (.ref b o len (τ e).size) vs) {cs : List D} (hb : H[b]? = some (.live cs)) (hne : b ≠ slot) (hfit : o + len * (τ e).size ≤ cs.length) (hel : elemCells H x = some (xs, n)) (ob : AppOb τ t' e xs n len) :
    ∃ v' w' S' β', (Builtin.append_ #[t, t'] ty #[vs, vx]).run P w = .ok v' w' ∧ AInv w' S' β' ((H.set b .dead).set slot (.live ((cs.drop o).take (len * (τ e).size) ++ xs))) ∧
      Evo w S β H w' S' β' ((H.set b .dead).set slot (.live ((cs.drop o).take (len * (τ e).size) ++ xs))) ∧ Rel w' S' β' (.ref slot 0 (len + n) (τ e).size) v' := by
  obtain ⟨hn, arr, hf, hr⟩ := elem_ok (P := P) hI hx hel (τ e).size n ob.len (Nat.le_refl _)
  rw [← ob.len, List.take_length] at hr
  have hosl : ((cs.drop o).take (len * (τ e).size)).length = len * (τ e).size := by simp; omega
  cases hs with
  | refEmpty _ _ _ a =>
    simp only [Nat.zero_mul, List.take_zero, List.nil_append, Nat.zero_add]
    rcases Nat.eq_zero_or_pos n with rfl | hpos
    · have hxs : xs = [] := List.eq_nil_of_length_eq_zero (by rw [ob.len]; simp)
      subst hxs
      have harr : arr.toList = [] := List.eq_nil_of_length_eq_zero (by rw [hr.1]; rfl)
      obtain ⟨β', h1, h2⟩ := hI.voidEmpty slot hv (H.set b .dead) (.inr ⟨b, hne, rfl⟩)
      refine ⟨.slice a 0 0, w, S, β', ?_, h1, h2, .refEmpty _ _ _ _⟩
      have := append_room (P := P) hT (w := w) (ty := ty) htd ob.known ob.seq a 0 0 0 vx arr w (hn w) (hf w rfl) (Nat.le_refl _) (fun ad _ => by rw [harr]; rfl) (fun _ => rfl)
      simpa using this
    · obtain ⟨v', w', β', h1, h2, h3, h4⟩ := grow_slot (P := P) hT hI (ty := ty) htd ob.known ob.seq ob.zero ob.zlen hv b hne a 0 0 n vx #[] arr [] xs (hn w) (hf w.drew rfl) (by cases a <;> simp [Builtin.firstCells, loadCells, loadCellsFrom]) ⟨rfl, fun i d h => by simp at h⟩ hr (by simp) ob.len (by omega) (by have := ob.max; omega) ob.bytes (H.set b .dead) (.inr rfl)
      simp only [List.nil_append, Nat.zero_add] at h2 h3 h4
      exact ⟨v', w', S, β', h1, h2, h3, h4⟩
  | ref _ _ _ _ blk off cap g1 g2 g3 T m g4 g5 =>
    by_cases hroom : len + n ≤ cap
    · rcases hI.live b cs hb with ⟨_, hk⟩ | ⟨b1, o1, vsA, T1, fr, h1, h2, h3, h4⟩
      · unfold Bk at hk g1; rw [hk] at g1; cases g1
      · have e : b1 = blk ∧ o1 = off := by unfold Bk at g1 h1; rw [g1] at h1; cases h1; exact ⟨rfl, rfl⟩
        obtain ⟨rfl, rfl⟩ := e
        have hm : m = vsA.size := by simp only [World.shape?, h4.heap, Option.some.injEq, Prod.mk.injEq] at g4; exact g4.2.symm
        subst hm
        have hxl := ob.len
        have hal : arr.size = xs.length := by have := hr.1; simpa using this
        have hcap : (len + n) * (τ e).size ≤ cap * (τ e).size := Nat.mul_le_mul_right _ hroom
        rw [Nat.add_mul] at hcap
        have hone : ∀ v ∈ arr.toList, v.oneCell' = true := fun v hv => by
          obtain ⟨i, hi, hv⟩ := List.mem_iff_getElem.1 hv
          obtain ⟨u, h5, h6, _⟩ := hr.2 i _ (List.getElem?_eq_getElem (by simp at hi; omega))
          rw [List.getElem?_eq_getElem hi] at h5
          cases h5; rw [← hv]; exact h6
        have hst := run_storeCells_any P b1 (o1 + o + len * (τ e).size) T1 fr arr.toList 0 vsA w h4.heap h3 (by simp; omega) hone
        simp only [Nat.add_zero] at hst
        have hrun := append_room (P := P) hT (w := w) (ty := ty) htd ob.known ob.seq (some ⟨b1, o1 + o, none⟩) len cap n vx arr _ (hn w) (hf w rfl) hroom (fun ad had => by cases had; rw [addr_at]; exact hst) (fun h => by cases h)
        have hslt : slot < H.length := (List.getElem?_eq_some_iff.1 hv).1
        have hβv := hI.void slot hv
        have hsl : (splice vsA.toList (o1 + o + len * (τ e).size) arr.toList).length = vsA.size := by rw [splice_length _ _ _ (by simp; omega)]; simp
        have hbk' : Bk (β.set slot (some (some (b1, o1 + o)))) slot (some (b1, o1 + o)) := by
          unfold Bk; exact List.getElem?_set_self (by rw [hI.len]; exact hslt)
        have := hI.step (w' := w.setRow b1 (splice vsA.toList (o1 + o + len * (τ e).size) arr.toList).toArray) (β' := β.set slot (some (some (b1, o1 + o)))) (H1 := H.set b .dead) slot b1 (o1 + o) _ T1 fr ((cs.drop o).take (len * (τ e).size) ++ xs) rfl rfl (by simp)
          (fun k _ hne => setRow_other w b1 k _ hne) (fun k x hx => by
            by_cases hkb : k = b1
            · subst hkb
              simp only [World.shape?, h4.heap, setRow_heap w k vsA _ T1 fr h4.heap] at hx ⊢
              simpa [hsl] using hx
            · simp only [World.shape?, setRow_other w b1 k _ hkb] at hx ⊢
              exact hx)
          (.inr ⟨b, cs, o1, hb, g1⟩) (setRow_heap w b1 vsA _ T1 fr h4.heap) (by simpa [hsl] using h3) (by simp) hslt
          (fun b' c hne' hl => by
            have hbb : b' ≠ b := fun e => by
              subst e
              rw [List.getElem?_set_self (hI.lt g1)] at hl; cases hl
            rw [List.getElem?_set_ne (Ne.symm hbb)] at hl
            exact ⟨hl, fun off' hk' => hbb (hI.apart b' b c cs b1 off' o1 hl hb hk' g1)⟩)
          (fun b' c _ hl => by
            rw [List.getElem?_set] at hl
            split at hl
            · split at hl <;> cases hl
            · exact hl)
          (fun b' _ hl => by
            rw [List.getElem?_set] at hl
            split at hl
            · split at hl <;> cases hl
            · exact hl)
          (by simp) (fun b' hne' => List.getElem?_set_ne (Ne.symm hne')) hbk' (fun x h => by unfold Bk at h; rw [hβv] at h; cases h)
          (fun i d hd => by
            simp only [List.getElem?_toArray]
            rw [splice_get _ _ _ (by simp; omega)]
            by_cases c1 : i < len * (τ e).size
            · rw [List.getElem?_append_left (by omega), List.getElem?_take_of_lt c1, List.getElem?_drop] at hd
              rw [if_pos (by omega)]
              obtain ⟨v, hv, hrl⟩ := h4.cell (o + i) d hd
              exact ⟨v, by rw [show o1 + o + i = o1 + (o + i) by omega]; simpa using hv, h4.one (o + i) v (List.getElem?_eq_some_iff.1 hd).1 hv, hrl⟩
            · rw [List.getElem?_append_right (by omega), hosl] at hd
              have hi2 := (List.getElem?_eq_some_iff.1 hd).1
              rw [if_neg (by omega), if_pos (by simp; omega)]
              obtain ⟨v, g6, g7, g8⟩ := hr.2 _ d hd
              exact ⟨v, by rw [show o1 + o + i - (o1 + o + len * (τ e).size) = i - len * (τ e).size by omega]; exact g6, g7, g8⟩)
        refine ⟨_, _, S, _, hrun, this.1, this.2, ?_⟩
        have := Rel.ref (w := w.setRow b1 (splice vsA.toList (o1 + o + len * (τ e).size) arr.toList).toArray) (S := S) (β := β.set slot (some (some (b1, o1 + o)))) slot 0 (len + n) (τ e).size b1 (o1 + o) cap hbk' hroom g3 T1 vsA.size (by simp only [World.shape?, setRow_heap w b1 vsA _ T1 fr h4.heap]; simp [hsl]) (by omega)
        simpa using this
    · obtain ⟨olds, h7, h8⟩ := load_cells (P := P) (w := w) (S := S) (β := β) ((cs.drop o).take (len * (τ e).size)) ⟨blk, off + o, none⟩ (fun k d hd => by
        rw [List.getElem?_take] at hd
        split at hd
        · rw [List.getElem?_drop] at hd
          obtain ⟨v, k1, k2, k3⟩ := hI.cellsAt (cs := cs) (by simp [cellsAt, hb, Blk.cells]) g1 (o + k) d hd
          exact ⟨v, by rw [addr_at, Nat.add_assoc]; exact k1, k2, k3⟩
        · cases hd)
      rw [hosl] at h7
      obtain ⟨v', w', β', k1, k2, k3, k4⟩ := grow_slot (P := P) hT hI (ty := ty) htd ob.known ob.seq ob.zero ob.zlen hv b hne (some ⟨blk, off + o, none⟩) len cap n vx olds arr _ xs (hn w) (hf w.drew rfl) (by simpa [Builtin.firstCells] using h7 w.drew rfl) h8 hr hosl ob.len (by omega) ob.max ob.bytes (H.set b .dead) (.inr rfl)
      exact ⟨v', w', S, β', k1, k2, k3, k4⟩

theorem append_tight (hT : TyOk P τ) (hI : AInv w S β H) {t t' e ty : TypeId} (htd : (τ t).td = .slice e) {x : D} {vx vs : Value} (hx : Rel w S β x vx) {xs es : List D} {n : Nat}
    (hs : Rel w S β (.sl (τ e).size es true) vs) (hel : elemCells H x = some (xs, n)) (ob : AppOb τ t' e xs n es.length) (hag : (τ e).td.isAgg = false → (τ e).size = 1) :
    ∃ v' w' S' β', (Builtin.append_ #[t, t'] ty #[vs, vx]).run P w = .ok v' w' ∧ AInv w' S' β' H ∧ Evo w S β H w' S' β' H ∧ Rel w' S' β' (.sl (τ e).size (es ++ chunk (τ e).td.isAgg (τ e).size n xs) false) v' := by
  obtain ⟨hn, arr, hf, hr⟩ := elem_ok (P := P) hI hx hel (τ e).size n ob.len (Nat.le_refl _)
  rw [← ob.len, List.take_length] at hr
  obtain ⟨c1, c2, c3⟩ := chunk_cells (τ e).td.isAgg (τ e).size hag n xs ob.len ob.one
  -- what the slice is
  have shape : ∃ a olds, vs = .slice a es.length es.length ∧ (∀ e', e' ∈ es → e'.cells.length = (τ e).size) ∧ (∀ w' : World, w'.heap = w.heap → (Builtin.firstCells (τ e).size es.length (.slice a es.length es.length)).run P w' = .ok olds w') ∧ RelCells w S β (es.flatMap D.cells) olds.toList := by
    cases hs with
    | slNone => exact ⟨none, #[], rfl, fun _ h => by simp at h, fun _ _ => rfl, rfl, fun i d h => by simp at h⟩
    | sl _ _ _ ad cap vf h1 h2 h3 h4 h5 h6 =>
      have : cap = es.length := h3 rfl
      subst this
      have hE : elemCells H (.sl (τ e).size es true) = some (es.flatMap D.cells, es.length) := rfl
      obtain ⟨_, olds, g1, g2⟩ := elem_ok (P := P) hI (.sl (τ e).size es true ad es.length vf h1 h2 h3 h4 h5 h6) hE (τ e).size es.length (flat_length _ es h4) (Nat.le_refl _)
      rw [← flat_length _ es h4, List.take_length] at g2
      exact ⟨some ad, olds, rfl, h4, g1, g2⟩
  obtain ⟨a, olds, rfl, he, ho, hro⟩ := shape
  rcases Nat.eq_zero_or_pos n with rfl | hpos
  · have hxs : xs = [] := List.eq_nil_of_length_eq_zero (by rw [ob.len]; simp)
    subst hxs
    have harr : arr.toList = [] := List.eq_nil_of_length_eq_zero (by rw [hr.1]; rfl)
    refine ⟨.slice a es.length es.length, w, S, β, ?_, hI, Evo.refl _ _ _ _, ?_⟩
    · have := append_room (P := P) hT (w := w) (ty := ty) htd ob.known ob.seq a es.length es.length 0 vx arr w (hn w) (hf w rfl) (Nat.le_refl _) (fun ad _ => by rw [harr]; rfl) (fun _ => rfl)
      simpa using this
    · simp only [chunk, List.append_nil]
      generalize hl : es.length = k at hs ⊢
      cases hs with
      | slNone => exact .slNone _ _
      | sl _ _ _ ad cap vf h1 h2 h3 h4 h5 h6 => exact .sl _ _ _ ad _ vf h1 h2 (fun h => by cases h) h4 h5 h6
  · have hrun := append_grow (P := P) hT (w := w) (ty := ty) htd ob.known ob.seq a es.length es.length n vx olds arr (hn w) (hf w.drew rfl) (ho w.drew rfl) (by omega) ob.max ob.bytes
    obtain ⟨I1, E1⟩ := hI.drew
    obtain ⟨I2, E2⟩ := I1.allocPure (.cells (olds ++ arr ++ Builtin.zeroCells (τ e).zero.cells (grownCap w (es.length + n) es.length e - (es.length + n))) e)
    refine ⟨_, _, _, _, hrun, I2, E1.trans E2, ?_⟩
    have hge := grownCap_ge w (es.length + n) es.length e
    have hlen : (es ++ chunk (τ e).td.isAgg (τ e).size n xs).length = es.length + n := by simp [c2]
    have hfm : (es ++ chunk (τ e).td.isAgg (τ e).size n xs).flatMap D.cells = es.flatMap D.cells ++ xs := by rw [List.flatMap_append, c1]
    have hall := (hro.append hr)
    have key := sl_of_cells (w := w.drew.alloc (.cells (olds ++ arr ++ Builtin.zeroCells (τ e).zero.cells (grownCap w (es.length + n) es.length e - (es.length + n))) e)) (S := fun b => S b ∨ b = w.drew.heap.size) (β := β) (sz := (τ e).size)
      (es := es ++ chunk (τ e).td.isAgg (τ e).size n xs) (tight := false) (fun x hx => by
        rcases List.mem_append.1 hx with h | h
        · exact he x h
        · exact c3 x h) (olds ++ arr) w.heap.size (grownCap w (es.length + n) es.length e) (.inr (by simp)) (T := e) (fr := (0, 0)) (cells := olds ++ arr ++ Builtin.zeroCells (τ e).zero.cells (grownCap w (es.length + n) es.length e - (es.length + n)))
      (by
        have := heap_alloc_new w.drew (.cells (olds ++ arr ++ Builtin.zeroCells (τ e).zero.cells (grownCap w (es.length + n) es.length e - (es.length + n))) e)
        rw [World.size_drew] at this
        exact this)
      (fun i v hv => by rw [Array.getElem?_append_left (Array.getElem?_eq_some_iff.1 hv).1]; exact hv)
      (by
        rw [hfm, Array.toList_append]
        exact ⟨hall.1, fun i d hd => let ⟨v, a1, a2, a3⟩ := hall.2 i d hd; ⟨v, a1, a2, a3.evo hI (E1.trans E2)⟩⟩)
      (by rw [hlen]; exact hge) (grownCap_le_maxLen w _ _ e ob.max) (fun h => by cases h)
    rw [hlen] at key
    exact key

theorem append_ok (hT : TyOk P τ) (hI : AInv w S β H) {ts : List TypeId} {ty : TypeId} {slot : Nat} (hv : H[slot]? = some Blk.void) {s x : D} {vs vx : Value} (hs : Rel w S β s vs) (hx : Rel w S β x vx) :
    OpOk P w S β H (Builtin.append_ ts.toArray ty #[vs, vx]) (aAppend τ ts s x slot H) := by
  unfold aAppend
  split
  · rename_i t t'
    cases htd : (τ t).td <;> simp only <;> first | exact OpOk.bad | skip
    rename_i e
    cases hel : elemCells H x with
    | none => exact OpOk.bad
    | some p =>
      obtain ⟨xs, n⟩ := p
      simp only
      cases s <;> (try simp only) <;> first | exact OpOk.bad | skip
      · intro ho
        obtain ⟨o1, o2, o3, o4, o5, o7, o8, o9⟩ := ho
        cases hs
        exact append_nil hT hI htd hv hx hel ⟨o1, o2, by simpa using o3, by simpa using o4, o5, o7, o8, o9⟩
      · rename_i sz es tight
        cases tight <;> (try simp only) <;> first | exact OpOk.bad | skip
        intro ho
        obtain ⟨o1, o2, rfl, o3, o4, o5, o7, o8, o9, o10⟩ := ho
        exact append_tight hT hI htd hx hs hel ⟨o1, o2, o3, o4, o5, o7, o8, o9⟩ o10
      · rename_i b o len sz
        split
        · rename_i cs hb
          intro ho
          obtain ⟨o1, o2, rfl, o3, o4, o5, o6, o7, o8, o9, o10⟩ := ho
          exact append_ref hT hI htd hv hx hs hb o10 o3 hel ⟨o1, o2, o4, o5, o6, o7, o8, o9⟩
        · exact OpOk.bad
  · exact OpOk.bad

end
end Go.Proofs.Ytbabdalfkmdlhaa
