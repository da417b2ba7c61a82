/- States, in plain Lean. -/
import Derived.Test.YtkmlebnkmmkpmaaFoldA
namespace Go.Proofs.Ytkmlebnkmmkpmaa
set_option linter.all false

theorem take_tw {α : Type} (p : α → Bool) (l : List α) : l.take (l.takeWhile p).length = l.takeWhile p := by
  induction l with
  | nil => rfl
  | cons x l ih => cases h : p x <;> simp [List.takeWhile_cons, h, ih]
theorem drop_tw {α : Type} (p : α → Bool) (l : List α) : l.drop (l.takeWhile p).length = l.dropWhile p := by
  induction l with
  | nil => rfl
  | cons x l ih => cases h : p x <;> simp [List.takeWhile_cons, List.dropWhile_cons, h, ih]
theorem mem_tw {α : Type} {p : α → Bool} {l : List α} {x : α} (h : x ∈ l.takeWhile p) : p x = true := by
  induction l with
  | nil => simp at h
  | cons y l ih =>
    cases hy : p y
    · rw [List.takeWhile_cons, hy] at h; simp at h
    · rw [List.takeWhile_cons, hy] at h
      rcases List.mem_cons.1 h with rfl | h
      · exact hy
      · exact ih h

/-- What a place of a state asks. -/
def okAt (l : List GPair) (i : Nat) : Bool := match l[i]? with
  | none => true
  | some p => !(p.val == []) && (decide (p.val.length < 64) && (match i with
    | 0 => true
    | j + 1 => match l[j]? with
      | none => true
      | some q => decide (q.key.toNat < p.key.toNat)))
def rightP (l : List GPair) : Bool := (List.range l.length).all (okAt l)

structure RightP (l : List GPair) : Prop where
  up : upP l
  val : ∀ p, p ∈ l → 1 ≤ p.val.length ∧ p.val.length ≤ 63

theorem right_at {l : List GPair} (h : rightP l = true) (i : Nat) : okAt l i = true := by
  by_cases hi : i < l.length
  · exact List.all_eq_true.1 h i (by simpa using hi)
  · unfold okAt; rw [List.getElem?_eq_none (by omega)]
theorem right_step {l : List GPair} (h : rightP l = true) (i : Nat) (hi : i + 1 < l.length) : l[i].key.toNat < l[i + 1].key.toNat := by
  have := right_at h (i + 1)
  simp only [okAt, List.getElem?_eq_getElem hi, List.getElem?_eq_getElem (show i < l.length by omega), Bool.and_eq_true, decide_eq_true_eq] at this
  exact this.2.2
theorem rightP_iff (l : List GPair) : rightP l = true ↔ RightP l := by
  constructor
  · intro h
    refine ⟨fun i j hi hj hij => ?_, fun p hp => ?_⟩
    · obtain ⟨d, rfl⟩ : ∃ d, j = i + 1 + d := ⟨j - i - 1, by omega⟩
      clear hij
      induction d with
      | zero => exact right_step h i hj
      | succ d ih => exact Nat.lt_trans (ih (by omega)) (right_step h (i + 1 + d) hj)
    · obtain ⟨i, hi, rfl⟩ := List.mem_iff_getElem.1 hp
      have := right_at h i
      simp only [okAt, List.getElem?_eq_getElem hi, Bool.and_eq_true, decide_eq_true_eq, Bool.not_eq_true', beq_eq_false_iff_ne, ne_eq] at this
      have h1 := this.1
      have h2 := this.2.1
      have : l[i].val.length ≠ 0 := fun h0 => h1 (List.length_eq_zero_iff.1 h0)
      omega
  · intro h
    refine List.all_eq_true.2 fun i hi => ?_
    have hi : i < l.length := by simpa using hi
    have hv := h.val _ (List.getElem_mem hi)
    have hne : l[i].val ≠ [] := fun h0 => by rw [h0] at hv; simp at hv
    simp only [okAt, List.getElem?_eq_getElem hi, Bool.and_eq_true, decide_eq_true_eq, Bool.not_eq_true', beq_eq_false_iff_ne, ne_eq]
    refine ⟨hne, by omega, ?_⟩
    cases i with
    | zero => rfl
    | succ j =>
      simp only [List.getElem?_eq_getElem (show j < l.length by omega), decide_eq_true_eq]
      exact h.up j (j + 1) (by omega) hi (by omega)

theorem upP_pw (l : List GPair) : upP l ↔ l.Pairwise (fun a b => a.key.toNat < b.key.toNat) := by
  rw [List.pairwise_iff_getElem]
  exact ⟨fun h i j hi hj hij => h i j hi hj hij, fun h i j hi hj hij => h i j hi hj hij⟩
theorem upP_nil : upP [] := fun i j hi => by simp at hi
theorem right_nil : RightP [] := ⟨upP_nil, fun p hp => by cases hp⟩

theorem upP_few {l : List GPair} (h : upP l) : l.length ≤ 256 := by
  have key : ∀ (n : Nat) (hn : n < l.length), n ≤ l[n].key.toNat := by
    intro n
    induction n with
    | zero => intro _; omega
    | succ n ih => intro hn; have h1 := ih (by omega); have h2 := h n (n + 1) (by omega) hn (by omega); omega
  rcases Nat.lt_or_ge 256 l.length with hc | hc
  · have h1 := key 256 hc
    have h2 := l[256].key.toNat_lt
    omega
  · exact hc

/-- A record's data taken in, by the document. -/
def stepR (l : List GPair) : List UInt8 → List GPair
  | [] => l
  | k :: v => l.takeWhile (fun p => decide (p.key.toNat < k.toNat)) ++ (if v = [] then [] else [⟨k, v⟩]) ++ l.filter (fun p => decide (k.toNat < p.key.toNat))

theorem idx_eq (l : List GPair) (k : UInt8) : idxT l (cK k) = (l.takeWhile (fun p => decide (p.key.toNat < k.toNat))).length := by
  unfold idxT
  congr 1
  congr 1
  funext p
  exact decide_eq_decide.2 (by simp only [cK]; omega)
theorem take_idx (l : List GPair) (k : UInt8) : l.take (idxT l (cK k)) = l.takeWhile (fun p => decide (p.key.toNat < k.toNat)) := by
  rw [idx_eq, take_tw]
theorem drop_idx (l : List GPair) (k : UInt8) : l.drop (idxT l (cK k)) = l.dropWhile (fun p => decide (p.key.toNat < k.toNat)) := by
  rw [idx_eq, drop_tw]

theorem filter_pre (l : List GPair) (k : UInt8) : (l.takeWhile (fun p => decide (p.key.toNat < k.toNat))).filter (fun p => decide (k.toNat < p.key.toNat)) = [] := by
  rw [List.filter_eq_nil_iff]
  intro p hp
  have := mem_tw hp
  simp only [decide_eq_true_eq] at this ⊢
  omega

theorem drop_cases {l : List GPair} (h : upP l) (k : UInt8) : (thereT l (cK k) = true ∧ ∃ p r, l.dropWhile (fun p => decide (p.key.toNat < k.toNat)) = p :: r ∧ p.key = k ∧ l.filter (fun p => decide (k.toNat < p.key.toNat)) = r) ∨
    (thereT l (cK k) = false ∧ l.filter (fun p => decide (k.toNat < p.key.toNat)) = l.dropWhile (fun p => decide (p.key.toNat < k.toNat))) := by
  have hsplit : l.filter (fun p => decide (k.toNat < p.key.toNat)) = (l.dropWhile (fun p => decide (p.key.toNat < k.toNat))).filter (fun p => decide (k.toNat < p.key.toNat)) := by
    conv => lhs; rw [← List.takeWhile_append_dropWhile (p := fun p : GPair => decide (p.key.toNat < k.toNat)) (l := l)]
    rw [List.filter_append, filter_pre, List.nil_append]
  have hpw := (upP_pw l).1 h
  have hd : (l.dropWhile (fun p => decide (p.key.toNat < k.toNat))).Pairwise (fun a b => a.key.toNat < b.key.toNat) := hpw.sublist (List.dropWhile_sublist _)
  have hget : l[idxT l (cK k)]? = (l.dropWhile (fun p => decide (p.key.toNat < k.toNat)))[0]? := by rw [← drop_idx, List.getElem?_drop, Nat.add_zero]
  unfold thereT
  rw [hget, hsplit]
  cases hdw : l.dropWhile (fun p => decide (p.key.toNat < k.toNat)) with
  | nil => exact .inr ⟨rfl, rfl⟩
  | cons p r =>
    rw [hdw] at hd
    have hp : ¬ p.key.toNat < k.toNat := by
      have := List.head?_dropWhile_not (fun p : GPair => decide (p.key.toNat < k.toNat)) l
      rw [hdw] at this
      simpa using this
    have hr := (List.pairwise_cons.1 hd).1
    have hrf : r.filter (fun p => decide (k.toNat < p.key.toNat)) = r := by
      rw [List.filter_eq_self]
      intro q hq
      have := hr q hq
      simp only [decide_eq_true_eq]
      omega
    simp only [List.getElem?_cons_zero]
    by_cases hk : p.key = k
    · left
      refine ⟨by simp only [cK, hk]; simp, p, r, rfl, hk, ?_⟩
      rw [List.filter_cons, if_neg (by rw [hk]; simp), hrf]
    · right
      have hkn : p.key.toNat ≠ k.toNat := fun e => hk (UInt8.toNat_inj.1 e)
      refine ⟨by simp only [cK, beq_eq_false_iff_ne]; omega, ?_⟩
      rw [List.filter_cons, if_pos (by simp only [decide_eq_true_eq]; omega), hrf]

theorem stepP_eq {l : List GPair} (h : upP l) (data : List UInt8) : stepP l data = stepR l data := by
  cases data with
  | nil => rfl
  | cons k v =>
    have ht := take_idx l k
    have hd := drop_idx l k
    have hle := idxT_le l (cK k)
    simp only [stepP, stepR]
    rcases drop_cases h k with ⟨h1, p, r, h2, h3, h4⟩ | ⟨h1, h2⟩
    · have hil := there_lt h1
      have hd1 : l.drop (idxT l (cK k) + 1) = r := by rw [← List.drop_drop, hd, h2]; rfl
      rw [h1, h4]
      split
      · simp only [if_true, delT, ht, hd1, List.append_nil]
      · simp only [if_true]
        rw [List.set_eq_take_append_cons_drop, if_pos hil, ht, hd1]
        simp
    · rw [h1, h2]
      split
      · simp only [Bool.false_eq_true, if_false, List.append_nil]
        exact (List.takeWhile_append_dropWhile).symm
      · simp only [Bool.false_eq_true, if_false, insT, ht, hd]
        simp

theorem stepR_right {l : List GPair} (h : RightP l) (data : List UInt8) (hd : data.length ≤ 64) : RightP (stepR l data) := by
  cases data with
  | nil => exact h
  | cons k v =>
    have hpw := (upP_pw l).1 h.up
    refine ⟨(upP_pw _).2 ?_, fun p hp => ?_⟩
    · simp only [stepR]
      rw [List.pairwise_append]
      refine ⟨?_, hpw.sublist List.filter_sublist, fun a ha b hb => ?_⟩
      · rw [List.pairwise_append]
        refine ⟨hpw.sublist (List.takeWhile_sublist _), by split <;> simp, fun a ha b hb => ?_⟩
        have h1 := mem_tw ha
        split at hb
        · cases hb
        · rw [List.mem_singleton.1 hb]; simpa using h1
      · have h2 : k.toNat < b.key.toNat := by simpa using (List.mem_filter.1 hb).2
        rcases List.mem_append.1 ha with ha | ha
        · have h1 := mem_tw ha
          simp only [decide_eq_true_eq] at h1
          omega
        · split at ha
          · cases ha
          · rw [List.mem_singleton.1 ha]; exact h2
    · simp only [stepR] at hp
      rcases List.mem_append.1 hp with hp | hp
      · rcases List.mem_append.1 hp with hp | hp
        · exact h.val p ((List.takeWhile_sublist _).subset hp)
        · split at hp
          · cases hp
          · rename_i hv
            rw [List.mem_singleton.1 hp]
            have : v.length ≠ 0 := fun e => hv (List.length_eq_zero_iff.1 e)
            simp only [List.length_cons] at hd
            simp only []
            omega
      · exact h.val p (List.mem_filter.1 hp).1

theorem stepP_right {l : List GPair} (h : RightP l) (data : List UInt8) (hd : data.length ≤ 64) : RightP (stepP l data) := by
  rw [stepP_eq h.up]; exact stepR_right h data hd
theorem stepP_up {l : List GPair} (h : upP l) (data : List UInt8) : upP (stepP l data) := by
  rw [stepP_eq h]
  cases data with
  | nil => exact h
  | cons k v =>
    have hpw := (upP_pw l).1 h
    refine (upP_pw _).2 ?_
    simp only [stepR]
    rw [List.pairwise_append]
    refine ⟨?_, hpw.sublist List.filter_sublist, fun a ha b hb => ?_⟩
    · rw [List.pairwise_append]
      refine ⟨hpw.sublist (List.takeWhile_sublist _), by split <;> simp, fun a ha b hb => ?_⟩
      have h1 := mem_tw ha
      split at hb
      · cases hb
      · rw [List.mem_singleton.1 hb]; simpa using h1
    · have h2 : k.toNat < b.key.toNat := by simpa using (List.mem_filter.1 hb).2
      rcases List.mem_append.1 ha with ha | ha
      · have h1 := mem_tw ha
        simp only [decide_eq_true_eq] at h1
        omega
      · split at ha
        · cases ha
        · rw [List.mem_singleton.1 ha]; exact h2

def foldS (l : List GPair) (recs : List GRec) : List GPair := recs.foldl (fun l r => stepP l r.data) l
theorem foldS_nil (l : List GPair) : foldS l [] = l := rfl
theorem foldS_app (l : List GPair) (a b : List GRec) : foldS l (a ++ b) = foldS (foldS l a) b := List.foldl_append
theorem foldS_snoc (l : List GPair) (a : List GRec) (r : GRec) : foldS l (a ++ [r]) = stepP (foldS l a) r.data := by rw [foldS_app]; rfl
theorem foldS_up {l : List GPair} (h : upP l) (recs : List GRec) : upP (foldS l recs) := by
  induction recs generalizing l with
  | nil => exact h
  | cons r recs ih => exact ih (stepP_up h r.data)
theorem foldS_right {l : List GPair} (h : RightP l) (recs : List GRec) (hd : ∀ r, r ∈ recs → r.data.length ≤ 64) : RightP (foldS l recs) := by
  induction recs generalizing l with
  | nil => exact h
  | cons r recs ih => exact ih (stepP_right h r.data (hd r (by simp))) (fun r' hr => hd r' (by simp [hr]))

def oneB (p : GPair) : List UInt8 := p.key :: (putN p.val.length ++ p.val)
def bytesP (l : List GPair) : List UInt8 := putN l.length ++ l.flatMap oneB
theorem oneB_len (p : GPair) (h : p.val.length ≤ 1000) : (oneB p).length ≤ 1010 := by
  have := (put_len p.val.length 8).2 (by omega)
  simp only [oneB, List.length_cons, List.length_append]
  omega
theorem oneBs_len (l : List GPair) (h : ∀ p, p ∈ l → p.val.length ≤ 1000) : (l.flatMap oneB).length ≤ 1010 * l.length := by
  induction l with
  | nil => simp
  | cons p l ih =>
    have h1 := oneB_len p (h p (by simp))
    have h2 := ih fun q hq => h q (by simp [hq])
    simp only [List.flatMap_cons, List.length_append, List.length_cons]
    omega

/-- So many pairs, off bytes. -/
def pairsN : Nat → List UInt8 → Option (List GPair × List UInt8)
  | 0, r => some ([], r)
  | n + 1, r => match r with
    | [] => none
    | k :: r => match readN r with
      | none => none
      | some (z, j) => if z ≤ (r.drop j).length then (match pairsN n ((r.drop j).drop z) with
        | none => none
        | some (l, r') => some (⟨k, (r.drop j).take z⟩ :: l, r')) else none
def parseP (s : List UInt8) : List GPair × Bool := match readN s with
  | none => ([], false)
  | some (n, j) => if n ≤ 256 then (match pairsN n (s.drop j) with
    | none => ([], false)
    | some (l, r) => bif (r == []) && rightP l then (l, true) else ([], false)) else ([], false)

theorem pairs_bytes : ∀ (l : List GPair) (rest : List UInt8), (∀ p, p ∈ l → p.val.length ≤ 1000) → pairsN l.length (l.flatMap oneB ++ rest) = some (l, rest)
  | [], rest, _ => rfl
  | p :: l, rest, h => by
    have hp := h p (by simp)
    have ih := pairs_bytes l rest fun q hq => h q (by simp [hq])
    have e : (p :: l).flatMap oneB ++ rest = p.key :: (putN p.val.length ++ (p.val ++ (l.flatMap oneB ++ rest))) := by simp [oneB, List.append_assoc]
    rw [List.length_cons, e]
    simp only [pairsN]
    rw [read_put p.val.length _ (by have : (128 : Nat) ^ 9 = 9223372036854775808 := by decide
                                    omega)]
    simp only [List.drop_left, List.length_append, List.take_left]
    rw [if_pos (by omega), ih]
theorem parse_bytes {l : List GPair} (h : RightP l) : parseP (bytesP l) = (l, true) := by
  have hf := upP_few h.up
  unfold parseP bytesP
  rw [read_put l.length _ (by have : (128 : Nat) ^ 9 = 9223372036854775808 := by decide
                              omega)]
  simp only [List.drop_left]
  have := pairs_bytes l [] fun p hp => by have := (h.val p hp).2; omega
  rw [List.append_nil] at this
  rw [if_pos hf, this]
  simp only [(rightP_iff l).2 h, beq_self_eq_true, Bool.and_self, cond_true]
theorem parse_right {s : List UInt8} : RightP (parseP s).1 := by
  unfold parseP
  split
  · exact right_nil
  · split
    · split
      · exact right_nil
      · rename_i l r _
        cases hq : (r == []) && rightP l
        · exact right_nil
        · simp only [Bool.and_eq_true] at hq
          exact (rightP_iff l).1 hq.2
    · exact right_nil

/-- What a key has. -/
def getP (l : List GPair) (k : UInt8) : Option (List UInt8) := (l.find? fun p => p.key == k).map GPair.val
theorem getP_mem {l : List GPair} (h : upP l) {p : GPair} (hp : p ∈ l) : getP l p.key = some p.val := by
  have hpw := (upP_pw l).1 h
  clear h
  induction l with
  | nil => cases hp
  | cons q l ih =>
    rw [List.pairwise_cons] at hpw
    rcases List.mem_cons.1 hp with rfl | hp
    · simp [getP]
    · have h1 := hpw.1 p hp
      have : (q.key == p.key) = false := by
        rw [beq_eq_false_iff_ne]
        intro e
        rw [e] at h1
        omega
      have ih := ih hp hpw.2
      simp only [getP, List.find?_cons, this] at ih ⊢
      exact ih
theorem getP_some {l : List GPair} {k : UInt8} {v : List UInt8} (h : getP l k = some v) : ⟨k, v⟩ ∈ l := by
  unfold getP at h
  obtain ⟨p, h1, rfl⟩ := Option.map_eq_some_iff.1 h
  have h2 := List.find?_some h1
  have h3 := List.mem_of_find?_eq_some h1
  have : p.key = k := by simpa using h2
  subst this
  exact h3
theorem ext_getP {a b : List GPair} (ha : upP a) (hb : upP b) (h : ∀ k, getP a k = getP b k) : a = b := by
  have mem : ∀ p, p ∈ a ↔ p ∈ b := fun p => by
    constructor
    · intro hp
      have := getP_mem ha hp
      rw [h] at this
      exact getP_some this
    · intro hp
      have := getP_mem hb hp
      rw [← h] at this
      exact getP_some this
  have pa := (upP_pw a).1 ha
  have pb := (upP_pw b).1 hb
  clear ha hb h
  induction a generalizing b with
  | nil =>
    cases b with
    | nil => rfl
    | cons q b => exact absurd ((mem q).2 (by simp)) (by simp)
  | cons p a ih =>
    cases b with
    | nil => exact absurd ((mem p).1 (by simp)) (by simp)
    | cons q b =>
      rw [List.pairwise_cons] at pa pb
      have hpq : p = q := by
        rcases List.mem_cons.1 ((mem p).1 (by simp)) with h | h
        · exact h
        · rcases List.mem_cons.1 ((mem q).2 (by simp)) with h' | h'
          · exact h'.symm
          · have h1 := pb.1 p h
            have h2 := pa.1 q h'
            omega
      subst hpq
      congr 1
      refine ih (fun r => ⟨fun hr => ?_, fun hr => ?_⟩) pa.2 pb.2
      · rcases List.mem_cons.1 ((mem r).1 (by simp [hr])) with h | h
        · subst h; have := pa.1 r hr; omega
        · exact h
      · rcases List.mem_cons.1 ((mem r).2 (by simp [hr])) with h | h
        · subst h; have := pb.1 r hr; omega
        · exact h

theorem getP_step {l : List GPair} (h : upP l) (k : UInt8) (v : List UInt8) (q : UInt8) : getP (stepP l (k :: v)) q = if q = k then (if v = [] then none else some v) else getP l q := by
  have hu := stepP_up h (k :: v)
  have hm : ∀ p, p ∈ stepP l (k :: v) ↔ (p ∈ l ∧ p.key ≠ k) ∨ (v ≠ [] ∧ p = ⟨k, v⟩) := fun p => by
    rw [stepP_eq h]
    simp only [stepR, List.mem_append, List.mem_filter, decide_eq_true_eq]
    have hpw := (upP_pw l).1 h
    constructor
    · rintro ((h1 | h1) | ⟨h1, h2⟩)
      · have := mem_tw h1
        simp only [decide_eq_true_eq] at this
        exact .inl ⟨(List.takeWhile_sublist _).subset h1, fun e => by rw [e] at this; omega⟩
      · split at h1
        · cases h1
        · rename_i hv
          exact .inr ⟨hv, List.mem_singleton.1 h1⟩
      · exact .inl ⟨h1, fun e => by rw [e] at h2; omega⟩
    · rintro (⟨h1, h2⟩ | ⟨h1, rfl⟩)
      · have hkn : p.key.toNat ≠ k.toNat := fun e => h2 (UInt8.toNat_inj.1 e)
        rcases Nat.lt_or_gt_of_ne hkn with h3 | h3
        · refine .inl (.inl ?_)
          rw [← List.takeWhile_append_dropWhile (p := fun p : GPair => decide (p.key.toNat < k.toNat)) (l := l)] at h1
          rcases List.mem_append.1 h1 with h1 | h1
          · exact h1
          · exfalso
            cases hdw : l.dropWhile (fun p => decide (p.key.toNat < k.toNat)) with
            | nil => rw [hdw] at h1; cases h1
            | cons x r =>
              have hx := List.head?_dropWhile_not (fun p : GPair => decide (p.key.toNat < k.toNat)) l
              rw [hdw] at hx
              have hx : ¬ x.key.toNat < k.toNat := by simpa using hx
              have hd := hpw.sublist (List.dropWhile_sublist (fun p : GPair => decide (p.key.toNat < k.toNat)))
              rw [hdw] at hd h1
              rcases List.mem_cons.1 h1 with rfl | h1
              · exact hx h3
              · have := (List.pairwise_cons.1 hd).1 p h1
                omega
        · exact .inr ⟨h1, h3⟩
      · exact .inl (.inr (by rw [if_neg h1]; simp))
  by_cases hq : q = k
  · subst hq
    rw [if_pos rfl]
    by_cases hv : v = []
    · rw [if_pos hv]
      cases hg : getP (stepP l (q :: v)) q with
      | none => rfl
      | some w =>
        rcases (hm _).1 (getP_some hg) with ⟨_, h2⟩ | ⟨h1, _⟩
        · exact absurd rfl h2
        · exact absurd hv h1
    · rw [if_neg hv]
      have := getP_mem hu ((hm ⟨q, v⟩).2 (.inr ⟨hv, rfl⟩))
      exact this
  · rw [if_neg hq]
    cases hg : getP l q with
    | none =>
      cases hg2 : getP (stepP l (k :: v)) q with
      | none => rfl
      | some w =>
        rcases (hm _).1 (getP_some hg2) with ⟨h1, _⟩ | ⟨_, h2⟩
        · have := getP_mem h h1
          simp only [] at this
          rw [hg] at this
          cases this
        · cases h2; exact absurd rfl hq
    | some w =>
      exact getP_mem hu ((hm ⟨q, w⟩).2 (.inl ⟨getP_some hg, hq⟩))

/-- A key's last record. -/
def lastD (recs : List GRec) (k : UInt8) : Option (List UInt8) := recs.foldl (fun a r => match r.data with | [] => a | q :: v => if q = k then (if v = [] then none else some v) else a) none
theorem fold_get {l : List GPair} (h : upP l) (recs : List GRec) (k : UInt8) : getP (foldS l recs) k = recs.foldl (fun a r => match r.data with | [] => a | q :: v => if q = k then (if v = [] then none else some v) else a) (getP l k) := by
  induction recs generalizing l with
  | nil => rfl
  | cons r recs ih =>
    simp only [foldS, List.foldl_cons] at ih ⊢
    rw [ih (stepP_up h r.data)]
    congr 1
    cases hd : r.data with
    | nil => rfl
    | cons q v =>
      simp only []
      rw [getP_step h]
      by_cases hk : k = q
      · subst hk; simp
      · rw [if_neg hk, if_neg (fun e => hk e.symm)]

/-- Is it the last one of its key? -/
def onlyR (r : GRec) (rest : List GRec) : Bool := !(r.data == []) && rest.all fun q => (q.data == []) || !(q.data.head? == r.data.head?)
def lastR : List GRec → List GRec
  | [] => []
  | r :: rest => if onlyR r rest = true then r :: lastR rest else lastR rest

theorem last_fold (k : UInt8) : ∀ (recs : List GRec) (a : Option (List UInt8)),
    (lastR recs).foldl (fun a r => match r.data with | [] => a | q :: v => if q = k then (if v = [] then none else some v) else a) a = recs.foldl (fun a r => match r.data with | [] => a | q :: v => if q = k then (if v = [] then none else some v) else a) a
  | [], a => rfl
  | r :: rest, a => by
    simp only [lastR]
    split
    · simp only [List.foldl_cons]
      exact last_fold k rest _
    · rename_i ho
      rw [last_fold k rest a, List.foldl_cons]
      have same : ∀ (l : List GRec) (x y : Option (List UInt8)), (∃ q, q ∈ l ∧ q.data.head? = some k) →
          l.foldl (fun a r => match r.data with | [] => a | q :: v => if q = k then (if v = [] then none else some v) else a) x = l.foldl (fun a r => match r.data with | [] => a | q :: v => if q = k then (if v = [] then none else some v) else a) y := by
        intro l
        induction l with
        | nil => rintro x y ⟨q, hq, _⟩; cases hq
        | cons q l ih =>
          rintro x y ⟨z, hz, hzk⟩
          simp only [List.foldl_cons]
          by_cases hk : q.data.head? = some k
          · congr 1
            cases hqd : q.data with
            | nil => rw [hqd] at hk; cases hk
            | cons b v =>
              rw [hqd] at hk
              simp only [List.head?_cons, Option.some.injEq] at hk
              simp only [hk, if_true]
          · rcases List.mem_cons.1 hz with rfl | hz
            · exact absurd hzk hk
            · exact ih _ _ ⟨z, hz, hzk⟩
      cases hd : r.data with
      | nil => rfl
      | cons b v =>
        simp only []
        by_cases hb : b = k
        · refine same rest _ _ ?_
          subst hb
          have : onlyR r rest = false := by simpa using ho
          unfold onlyR at this
          rw [hd] at this
          have h2 : (rest.all fun q => (q.data == []) || !(q.data.head? == (b :: v).head?)) = false := by
            have hne : ((b :: v) == ([] : List UInt8)) = false := rfl
            rw [hne] at this
            simpa using this
          obtain ⟨q, hq, h3⟩ := List.all_eq_false.1 h2
          refine ⟨q, hq, ?_⟩
          simp only [Bool.or_eq_true, not_or, Bool.not_eq_true', List.head?_cons] at h3
          have := h3.2
          simpa using this
        · rw [if_neg hb]

theorem foldS_last (recs : List GRec) : foldS [] recs = foldS [] (lastR recs) := by
  refine ext_getP (foldS_up upP_nil _) (foldS_up upP_nil _) fun k => ?_
  rw [fold_get upP_nil, fold_get upP_nil, last_fold]

end Go.Proofs.Ytkmlebnkmmkpmaa
