/- Open orders, checked fast: masks are forced to numbers on the way. Of no program. -/
import Derived.Test.YtbabdalfkmdlhaaA28
namespace Go.Proofs.Ytbabdalfkmdlhaa
set_option linter.all false

/-- The number first. -/
def force {α : Type} (n : Nat) (f : Nat → α) : α := match n with
  | 0 => f 0
  | k + 1 => f (k + 1)
theorem force_eq {α : Type} (n : Nat) (f : Nat → α) : force n f = f n := by cases n <;> rfl

/-- 'mask' off a reversed list. -/
def maskR (acc : List Nat) (j : Nat) (o : Oper) : Nat := o.after.toList.foldl (fun s e => if Region.binds .any e then s ||| 2 ^ e.on ||| (if e.on < j then acc.getD (j - 1 - e.on) 0 else 0) else s) 0

def goB : List Oper → Nat → List Nat → (List Nat → Bool) → Bool
  | [], _, acc, k => k acc
  | o :: r, j, acc, k => force (maskR acc j o) fun m => goB r (j + 1) (m :: acc) k

theorem maskR_eq (acc : List Nat) (o : Oper) : maskR acc acc.length o = mask acc.reverse o := by
  unfold maskR mask
  congr 1
  funext s e
  unfold maskF
  split
  · congr 1
    by_cases h : e.on < acc.length
    · rw [if_pos h, List.getD_eq_getElem?_getD, List.getD_eq_getElem?_getD, List.getElem?_reverse h]
    · rw [if_neg h, List.getD_eq_getElem?_getD, List.getElem?_eq_none (by simp; omega)]; rfl
  · rfl

theorem goB_eq : ∀ (ops : List Oper) (acc : List Nat) (k : List Nat → Bool), goB ops acc.length acc k = k (befores ops acc.reverse).reverse
  | [], acc, k => by simp [goB, befores]
  | o :: r, acc, k => by
    have := goB_eq r (mask acc.reverse o :: acc) k
    simp only [goB, force_eq, befores, maskR_eq]
    simpa using this

def upTo (p : Nat → Bool) : Nat → Bool
  | 0 => true
  | n + 1 => upTo p n && p n
theorem upTo_eq (p : Nat → Bool) (n : Nat) : upTo p n = (List.range n).all p := by
  induction n with
  | zero => rfl
  | succ n ih => rw [upTo, ih, List.range_succ, List.all_append]; simp

/-- The pairs, the later one going up. -/
def pairsF (ops : List Oper) (test : Nat → Nat → Oper → Oper → Bool) : Nat → List Oper → List Nat → Bool
  | _, [], _ => true
  | j, y :: r, B => (match B with
    | b :: B => goI test j b y 0 ops && pairsF ops test (j + 1) r B
    | [] => false)
where
  goI (test : Nat → Nat → Oper → Oper → Bool) (j b : Nat) (y : Oper) : Nat → List Oper → Bool
    | _, [] => true
    | i, x :: r => (Nat.ble j i) || ((b.testBit i || test i j x y) && goI test j b y (i + 1) r)

theorem goI_spec {test : Nat → Nat → Oper → Oper → Bool} {j b : Nat} {y : Oper} : ∀ (i : Nat) (l : List Oper), pairsF.goI test j b y i l = true → ∀ (k : Nat) (x : Oper), l[k]? = some x → i + k < j → (b.testBit (i + k) || test (i + k) j x y) = true
  | _, [], _, k, x, hk, _ => by simp at hk
  | i, z :: r, h, k, x, hk, hj => by
    simp only [pairsF.goI, Bool.or_eq_true, Nat.ble_eq, Bool.and_eq_true] at h
    rcases h with h | ⟨h1, h2⟩
    · omega
    · cases k with
      | zero => simp at hk; subst hk; simpa using h1
      | succ k =>
        have := goI_spec (i + 1) r h2 k x (by simpa using hk) (by omega)
        rwa [show i + 1 + k = i + (k + 1) by omega] at this

theorem pairsF_spec {ops : List Oper} {test : Nat → Nat → Oper → Oper → Bool} : ∀ (j : Nat) (l : List Oper) (B : List Nat), pairsF ops test j l B = true → ∀ (k i : Nat) (x y : Oper), l[k]? = some y → ops[i]? = some x → i < j + k → ((B.getD k 0).testBit i || test i (j + k) x y) = true
  | _, [], _, _, k, i, x, y, hk, _, _ => by simp at hk
  | j, z :: r, [], h, k, i, x, y, hk, hx, hi => by simp [pairsF] at h
  | j, z :: r, b :: B, h, k, i, x, y, hk, hx, hi => by
    simp only [pairsF, Bool.and_eq_true] at h
    cases k with
    | zero =>
      simp at hk; subst hk
      have := goI_spec 0 ops h.1 i x hx (by omega)
      simpa using this
    | succ k =>
      have := pairsF_spec (j + 1) r B h.2 k i x y (by simpa using hk) hx (by omega)
      rw [show j + 1 + k = j + (k + 1) by omega] at this
      simpa using this

def tmpsOkF (ops : List Oper) : Bool :=
  edgesOk ops 0 && goB ops 0 [] fun R => pairsF ops (fun _ _ x y => Oper.apart ops.toArray x y) 0 ops R.reverse

def heapOkF (ops : List Oper) (tr : List WR) : Bool :=
  goB ops 0 [] fun R => pairsF ops (fun i j _ _ => match tr[i]?, tr[j]? with | some x, some y => offEach x.2 y.1 && offEach x.2 y.2 && offEach y.2 x.1 | _, _ => true) 0 ops R.reverse

theorem tmpsOkF_sound {ops : List Oper} (h : tmpsOkF ops = true) : tmpsOk ops = true := by
  simp only [tmpsOkF, Bool.and_eq_true] at h
  have hg := goB_eq ops [] fun R => pairsF ops (fun _ _ x y => Oper.apart ops.toArray x y) 0 ops R.reverse
  simp only [List.length_nil, List.reverse_nil, List.reverse_reverse] at hg
  rw [hg] at h
  simp only [tmpsOk, Bool.and_eq_true, h.1, true_and, List.all_eq_true, List.mem_range]
  intro j hj i hi
  have hy : ops[j]? = some ops[j] := List.getElem?_eq_getElem hj
  have hx : ops[i]? = some (ops[i]'(by omega)) := List.getElem?_eq_getElem (by omega)
  have := pairsF_spec 0 ops _ h.2 j i _ _ hy hx (by omega)
  rw [hx, hy]
  exact this

theorem heapOkF_sound {ops : List Oper} {tr : List WR} (h : heapOkF ops tr = true) : heapOk ops tr = true := by
  have hg := goB_eq ops [] fun R => pairsF ops (fun i j _ _ => match tr[i]?, tr[j]? with | some x, some y => offEach x.2 y.1 && offEach x.2 y.2 && offEach y.2 x.1 | _, _ => true) 0 ops R.reverse
  simp only [List.length_nil, List.reverse_nil, List.reverse_reverse] at hg
  rw [heapOkF, hg] at h
  simp only [heapOk, List.all_eq_true, List.mem_range]
  intro j hj i hi
  have hy : ops[j]? = some ops[j] := List.getElem?_eq_getElem hj
  have hx : ops[i]? = some (ops[i]'(by omega)) := List.getElem?_eq_getElem (by omega)
  have := pairsF_spec 0 ops _ h j i _ _ hy hx (by omega)
  rw [Nat.zero_add] at this
  exact this

section
variable {P : Program} {τ : Ty} {f : Fit} {d : Drw} {all : List Oper} {k : List It} {Q : AQ} {env : Env} {H : AHeap} {z : List WR}
theorem draw_fast {id : Nat} {ops : List Oper} (x : Nat) (h1 : tmpsOkF ops = true) (h2 : tr P τ f (adraw P τ) ops k Q ops H.length env (pad H (countAllocs τ ops + x)) []) : adrawS P τ f (adraw P τ) id ops k Q env H :=
  draw_start x (tmpsOkF_sound h1) h2
theorem tend_fast (h1 : heapOkF all z.reverse = true) (h2 : goN P τ f d k Q env H) : tend P τ f d all k Q env H z := tend_ok (heapOkF_sound h1) h2
end

section
variable {α : Type}

theorem flat_all (f : α → D) (h : ∀ x, (f x).cells.all D.one = true) (l : List α) : ((l.map f).flatMap D.cells).all D.one = true := by
  induction l with
  | nil => rfl
  | cons x l ih => simp only [List.map_cons, List.flatMap_cons, List.all_append, h, ih, Bool.and_self]
theorem flat_len (f : α → D) (sz : Nat) (h : ∀ x, (f x).cells.length = sz) (l : List α) : ((l.map f).flatMap D.cells).length = l.length * sz := by
  induction l with
  | nil => simp
  | cons x l ih => simp only [List.map_cons, List.flatMap_cons, List.length_append, h, ih, List.length_cons, Nat.succ_mul]; omega
theorem flat_take (f : α → D) (sz : Nat) (h : ∀ x, (f x).cells.length = sz) (l : List α) : ((l.map f).flatMap D.cells).take (l.length * sz) = (l.map f).flatMap D.cells :=
  List.take_of_length_le (by rw [flat_len f sz h]; exact Nat.le_refl _)
theorem mem_noIds : ∀ {l : List D} {d : D}, D.noIdsL l = true → d ∈ l → d.noIds = true
  | [], _, _, hd => by cases hd
  | x :: l, d, h, hd => by
    simp only [D.noIdsL, Bool.and_eq_true] at h
    rcases List.mem_cons.1 hd with rfl | hd
    · exact h.1
    · exact mem_noIds h.2 hd
theorem flat_noIds (f : α → D) (h : ∀ x, D.noIdsL (f x).cells = true) (l : List α) : D.noIdsL ((l.map f).flatMap D.cells) = true := by
  refine noIds_of_mem fun d hd => ?_
  obtain ⟨y, hy, hd⟩ := List.mem_flatMap.1 hd
  obtain ⟨x, _, rfl⟩ := List.mem_map.1 hy
  exact mem_noIds (h x) hd

theorem flat_row (f : α → D) (sz : Nat) (h : ∀ x, (f x).cells.length = sz) : ∀ (l : List α) (i : Nat) (hi : i < l.length), (((l.map f).flatMap D.cells).drop (i * sz)).take sz = (f (l[i]'hi)).cells
  | [], i, hi => by simp at hi
  | x :: l, i, hi => by
    simp only [List.map_cons, List.flatMap_cons]
    cases i with
    | zero =>
      rw [Nat.zero_mul, List.drop_zero, List.take_append_of_le_length (by rw [h]; exact Nat.le_refl _), List.take_of_length_le (by rw [h]; exact Nat.le_refl _)]
      rfl
    | succ i =>
      have e : (i + 1) * sz = sz + i * sz := by rw [Nat.succ_mul]; omega
      rw [e, List.drop_append, h, List.drop_of_length_le (by rw [h]; omega), List.nil_append, show sz + i * sz - sz = i * sz by omega]
      exact flat_row f sz h l i (by simpa using hi)
theorem flat_getD (f : α → D) (sz : Nat) (h : ∀ x, (f x).cells.length = sz) (l : List α) (i j : Nat) (hi : i < l.length) (hj : j < sz) (d : D) : ((l.map f).flatMap D.cells).getD (i * sz + j) d = (f (l[i]'hi)).cells.getD j d := by
  have := flat_row f sz h l i hi
  rw [← this, List.getD_eq_getElem?_getD, List.getD_eq_getElem?_getD, List.getElem?_take_of_lt hj, List.getElem?_drop]

/-- A block of one's own is a slice of structs. -/
theorem Sub.ownA {H : AHeap} {b len : Nat} {cs : List D} (l : List α) (f : α → D) (sz : Nat) (h1 : ∀ x, (f x).cells.length = sz) (h2 : ∀ x, D.noIdsL (f x).cells = true) (hb : H[b]? = some (.froz cs)) (hl : l.length = len)
    (hc : cs = (l.map f).flatMap D.cells) : Sub H (.ref b 0 len sz) (.sl sz (l.map f) false) := by
  subst hc; subst hl
  refine Sub.sl hb (by simp) (fun e he => ?_) (by rw [flat_len f sz h1]; omega) ?_
  · obtain ⟨x, _, rfl⟩ := List.mem_map.1 he
    exact h1 x
  · rw [List.drop_zero, flat_take f sz h1]
    exact Subs.refl (flat_noIds f h2 l)
end

end Go.Proofs.Ytbabdalfkmdlhaa
