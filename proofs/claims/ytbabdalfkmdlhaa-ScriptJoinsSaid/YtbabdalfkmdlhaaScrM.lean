/- Scripts, in plain Lean. -/
import Derived.Test.YtbabdalfkmdlhaaV
import Derived.Test.YtbabdalfkmdlhaaManM
namespace Go.Proofs.Ytbabdalfkmdlhaa
set_option linter.all false

def okN (n : Int) : Bool := decide (0 ≤ n) && decide (n ≤ 1099511627776)
theorem okN_iff {n : Int} : okN n = true ↔ 0 ≤ n ∧ n ≤ 1099511627776 := by simp only [okN, Bool.and_eq_true, decide_eq_true_eq]

/-- May an operation be? -/
def rightO (o : GOp) : Bool := (okN o.kind && (okN o.node && (okN o.n && okN o.k))) && (o.keep.all okN && (decide (o.keep.length ≤ 64) && decide (o.data.length ≤ 256)))

structure RightO (o : GOp) : Prop where
  kind : 0 ≤ o.kind ∧ o.kind ≤ 1099511627776
  node : 0 ≤ o.node ∧ o.node ≤ 1099511627776
  n : 0 ≤ o.n ∧ o.n ≤ 1099511627776
  k : 0 ≤ o.k ∧ o.k ≤ 1099511627776
  keep : ∀ x, x ∈ o.keep → 0 ≤ x ∧ x ≤ 1099511627776
  few : o.keep.length ≤ 64
  data : o.data.length ≤ 256

theorem right_iff {o : GOp} : rightO o = true ↔ RightO o := by
  simp only [rightO, Bool.and_eq_true, decide_eq_true_eq, okN_iff, List.all_eq_true]
  exact ⟨fun ⟨⟨a, b, c, d⟩, e, f, g⟩ => ⟨a, b, c, d, e, f, g⟩, fun ⟨a, b, c, d, e, f, g⟩ => ⟨⟨a, b, c, d⟩, e, f, g⟩⟩

def putsM (l : List Int) : List UInt8 := l.flatMap putM
theorem putsM_nil : putsM [] = [] := rfl
theorem putsM_snoc (l : List Int) (x : Int) : putsM (l ++ [x]) = putsM l ++ putM x := by simp [putsM]
theorem putsM_nat (l : List Nat) : putsM (l.map Int.ofNat) = putsN l := by
  induction l with
  | nil => rfl
  | cons x l ih =>
    have e : putsN (x :: l) = putN x ++ putsN l := rfl
    rw [e, ← ih, ← putM_nat]
    rfl
theorem putsM_pos (l : List Int) (h : ∀ x, x ∈ l → 0 ≤ x) : putsM l = putsN (l.map Int.toNat) := flat_putM l h
theorem putsM_len (l : List Int) (h : ∀ x, x ∈ l → 0 ≤ x ∧ x ≤ 1099511627776) : l.length ≤ (putsM l).length ∧ (putsM l).length ≤ 9 * l.length := by
  induction l with
  | nil => simp [putsM]
  | cons x l ih =>
    have hx := h x (by simp)
    have h2 := ih fun y hy => h y (by simp [hy])
    have e : putsM (x :: l) = putN x.toNat ++ putsM l := by simp [putsM, putM, show ¬ x < 0 by omega]
    have h1 := putN_pos x.toNat
    have h3 := (put_len x.toNat 8).2 (by omega)
    rw [e]
    simp only [List.length_append, List.length_cons]
    omega

def headO (o : GOp) : List Int := [o.kind, o.node, o.n, o.k, (o.keep.length : Int)]
def bodyO (o : GOp) : List UInt8 := putsM (headO o) ++ putsM o.keep ++ o.data
def frO (o : GOp) : List UInt8 := frameN (bodyO o)
def putS (l : List GOp) : List UInt8 × Int := bif l.all rightO then (l.flatMap frO, 0) else ([], 1)

theorem head_ok {o : GOp} (h : RightO o) : ∀ x, x ∈ headO o → 0 ≤ x ∧ x ≤ 1099511627776 := fun x hx => by
  have hx : x = o.kind ∨ x = o.node ∨ x = o.n ∨ x = o.k ∨ x = (o.keep.length : Int) := by simpa [headO] using hx
  rcases hx with rfl | rfl | rfl | rfl | rfl
  · exact h.kind
  · exact h.node
  · exact h.n
  · exact h.k
  · have := h.few; omega

theorem body_len {o : GOp} (h : RightO o) : 5 ≤ (bodyO o).length ∧ (bodyO o).length ≤ 877 := by
  have h1 := putsM_len (headO o) (head_ok h)
  have h2 := putsM_len o.keep h.keep
  have h3 := h.few
  have h4 := h.data
  have h5 : (headO o).length = 5 := rfl
  simp only [bodyO, List.length_append]
  omega

theorem fr_len {o : GOp} (h : RightO o) : 10 ≤ (frO o).length ∧ (frO o).length ≤ 890 := by
  have h1 := body_len h
  have h2 := frameN_len (bodyO o)
  have h3 := putN_pos (bodyO o).length
  have h4 := (put_len (bodyO o).length 8).2 (by omega)
  simp only [frO]
  omega

theorem frs_len (l : List GOp) (h : l.all rightO = true) : (l.flatMap frO).length ≤ 890 * l.length := by
  induction l with
  | nil => simp
  | cons o l ih =>
    simp only [List.all_cons, Bool.and_eq_true] at h
    have h1 := fr_len (right_iff.1 h.1)
    have h2 := ih h.2
    simp only [List.flatMap_cons, List.length_append, List.length_cons]
    omega

/-- The operation of a body, whatever its numbers are. -/
def oneO (b : List UInt8) : Option GOp := match takeNs 5 b with
  | some ([a1, a2, a3, a4, c], r) => match takeNs (min c 65) r with
    | some (l, r2) => some ⟨a1, a2, a3, a4, r2, l.map Int.ofNat⟩
    | none => none
  | _ => none

def zeroO : GOp := ⟨0, 0, 0, 0, [], []⟩
def oneQ (b : List UInt8) : GOp × Bool := match oneO b with
  | none => (zeroO, false)
  | some o => (o, rightO o)

theorem one_body {o : GOp} (h : RightO o) : oneQ (bodyO o) = (o, true) := by
  have hk := h.few
  have k1 := h.kind
  have k2 := h.node
  have k3 := h.n
  have k4 := h.k
  have e1 : bodyO o = putsN ((headO o).map Int.toNat) ++ (putsN (o.keep.map Int.toNat) ++ o.data) := by
    rw [bodyO, putsM_pos _ fun x hx => (head_ok h x hx).1, putsM_pos _ fun x hx => (h.keep x hx).1, List.append_assoc]
  have t1 := takeNs_put ((headO o).map Int.toNat) (putsN (o.keep.map Int.toNat) ++ o.data) (fun x hx => by
    obtain ⟨y, hy, rfl⟩ := List.mem_map.1 hx
    have := head_ok h y hy
    omega)
  have t2 := takeNs_put (o.keep.map Int.toNat) o.data (fun x hx => by
    obtain ⟨y, hy, rfl⟩ := List.mem_map.1 hx
    have := h.keep y hy
    omega)
  have hm : (headO o).map Int.toNat = [o.kind.toNat, o.node.toNat, o.n.toNat, o.k.toNat, o.keep.length] := by simp [headO]
  rw [← e1] at t1
  rw [hm] at t1
  simp only [List.length_cons, List.length_nil, Nat.zero_add] at t1
  have t1 : takeNs 5 (bodyO o) = some ([o.kind.toNat, o.node.toNat, o.n.toNat, o.k.toNat, o.keep.length], putsN (o.keep.map Int.toNat) ++ o.data) := t1
  rw [List.length_map] at t2
  have e2 : oneO (bodyO o) = some o := by
    unfold oneO
    rw [t1]
    simp only []
    rw [Nat.min_eq_left (by omega), t2]
    simp only []
    rw [map_nat _ fun x hx => (h.keep x hx).1]
    have q1 : ((o.kind.toNat : Nat) : Int) = o.kind := by omega
    have q2 : ((o.node.toNat : Nat) : Int) = o.node := by omega
    have q3 : ((o.n.toNat : Nat) : Int) = o.n := by omega
    have q4 : ((o.k.toNat : Nat) : Int) = o.k := by omega
    rw [q1, q2, q3, q4]
  simp only [oneQ, e2, right_iff.2 h]

theorem one_some {b : List UInt8} {o : GOp} (h : oneQ b = (o, true)) : RightO o ∧ bodyO o = b := by
  unfold oneQ at h
  split at h
  · cases h
  · rename_i o' ho
    simp only [Prod.mk.injEq] at h
    obtain ⟨rfl, hr⟩ := h
    have hR := right_iff.1 hr
    refine ⟨hR, ?_⟩
    unfold oneO at ho
    split at ho
    · rename_i a1 a2 a3 a4 c r t1
      split at ho
      · rename_i l r2 t2
        cases ho
        obtain ⟨p1, p2, p3⟩ := takeNs_some _ _ _ _ t1
        obtain ⟨q1, q2, q3⟩ := takeNs_some _ _ _ _ t2
        have hf := hR.few
        simp only [List.length_map] at hf
        have hc : l.length = c := by omega
        have e1 : headO ⟨a1, a2, a3, a4, r2, l.map Int.ofNat⟩ = [a1, a2, a3, a4, c].map Int.ofNat := by
          simp [headO, hc]
        rw [bodyO, e1, putsM_nat, putsM_nat, p2, q2, List.append_assoc]
      · cases ho
    · cases ho

/-- The operations of bytes, so many of them at most: they, how many bytes they are of, and why no more. -/
def getN : Nat → List UInt8 → List GOp × Nat × Int
  | 0, s => if s.length = 0 then ([], 0, 0) else ([], 0, 5)
  | n + 1, s => if s.length = 0 then ([], 0, 0) else match nextN s with
    | .inr e => ([], 0, e)
    | .inl (b, k) => bif (oneQ b).2 then ((oneQ b).1 :: (getN n (s.drop k)).1, k + (getN n (s.drop k)).2.1, (getN n (s.drop k)).2.2) else ([], 0, 3)
def getS (s : List UInt8) : List GOp × Nat × Int := getN 4096 s

theorem gets_nil (n : Nat) : getN n [] = ([], 0, 0) := by cases n <;> rfl

theorem next_fr {o : GOp} (h : RightO o) (rest : List UInt8) : nextN (frO o ++ rest) = .inl (bodyO o, (frO o).length) :=
  next_frame _ _ (by have := body_len h; omega)

theorem gets_fr {o : GOp} (h : RightO o) (rest : List UInt8) (n : Nat) : getN (n + 1) (frO o ++ rest) = (o :: (getN n rest).1, (frO o).length + (getN n rest).2.1, (getN n rest).2.2) := by
  have h1 := fr_len h
  simp only [getN]
  rw [if_neg (by rw [List.length_append]; omega), next_fr h]
  simp only [one_body h, List.drop_left, cond_true]

/-- Operations that may be come back. -/
theorem gets_put : ∀ (l : List GOp) (n : Nat), l.all rightO = true → l.length ≤ n → getN n (l.flatMap frO) = (l, (l.flatMap frO).length, 0)
  | [], n, _, _ => gets_nil n
  | o :: l, 0, _, h => by simp at h
  | o :: l, n + 1, hr, h => by
    simp only [List.all_cons, Bool.and_eq_true] at hr
    rw [List.flatMap_cons, gets_fr (right_iff.1 hr.1), gets_put l n hr.2 (by simpa using h), List.length_append]

/-- What is read may be, and has just the bytes that it was read of. -/
theorem gets_some : ∀ (n : Nat) (s : List UInt8), (getN n s).1.all rightO = true ∧ (getN n s).1.length ≤ n ∧ (getN n s).2.1 ≤ s.length ∧ (getN n s).1.flatMap frO = s.take (getN n s).2.1 ∧ ((getN n s).2.2 = 0 ↔ (getN n s).2.1 = s.length)
  | 0, s => by
    simp only [getN]
    split
    · rename_i h; simp [h]
    · rename_i h; simp; omega
  | n + 1, s => by
    simp only [getN]
    split
    · rename_i h; simp [h]
    · rename_i h
      split
      · rename_i e he
        have : e ≠ 0 := by
          unfold nextN at he
          intro h0
          subst h0
          split at he
          · cases he
          · split at he
            · cases he
            · split at he
              · cases he
              · split at he
                · cases he
                · split at he <;> cases he
        simp [this]; omega
      · rename_i b k hn
        obtain ⟨q1, q2, q3, q4⟩ := next_some hn
        cases ho : (oneQ b).2
        · simp; omega
        · obtain ⟨i1, i2, i3, i4, i5⟩ := gets_some n (s.drop k)
          obtain ⟨r1, r2⟩ := one_some (b := b) (o := (oneQ b).1) (by rw [← ho])
          simp only [cond_true, List.all_cons, Bool.and_eq_true, i1, right_iff.2 r1, List.length_cons, List.flatMap_cons, i4]
          rw [List.length_drop] at i3 i5
          refine ⟨⟨trivial, trivial⟩, by omega, by omega, ?_, ?_⟩
          · rw [frO, r2, ← q3, List.take_add]
          · rw [i5]; omega

theorem take_app {α : Type} (a b : List α) (k : Nat) : (a ++ b).take k = if k < a.length then a.take k else a ++ b.take (k - a.length) := by
  split
  · rw [List.take_append_of_le_length (by omega)]
  · rw [List.take_append, List.take_of_length_le (by omega)]

/-- Cut off, what is left is a beginning. -/
theorem gets_cut : ∀ (l : List GOp) (n k : Nat), l.all rightO = true → l.length ≤ n → k ≤ (l.flatMap frO).length →
    (getN n ((l.flatMap frO).take k)).1.length ≤ l.length ∧ (getN n ((l.flatMap frO).take k)).1 = l.take (getN n ((l.flatMap frO).take k)).1.length ∧ (getN n ((l.flatMap frO).take k)).2.1 ≤ k ∧
    ((getN n ((l.flatMap frO).take k)).2.2 = 0 ↔ (getN n ((l.flatMap frO).take k)).2.1 = k) ∧ ((getN n ((l.flatMap frO).take k)).2.2 = 0 ∨ (getN n ((l.flatMap frO).take k)).2.2 = 2)
  | [], n, k, _, _, hk => by
    simp only [List.flatMap_nil, List.length_nil] at hk
    simp only [List.flatMap_nil, List.take_nil, gets_nil, List.length_nil]
    simp; omega
  | o :: l, 0, _, _, h, _ => by simp at h
  | o :: l, n + 1, k, hr, hl, hk => by
    simp only [List.all_cons, Bool.and_eq_true] at hr
    have hR := right_iff.1 hr.1
    rw [List.flatMap_cons, take_app]
    rw [List.flatMap_cons, List.length_append] at hk
    have hfl := fr_len hR
    split
    · rename_i h
      have e : getN (n + 1) ((frO o).take k) = if k = 0 then ([], 0, 0) else ([], 0, 2) := by
        simp only [getN, List.length_take]
        by_cases c : k = 0
        · subst c; simp
        · rw [if_neg (by omega), if_neg c, frO, next_cut _ (by have := body_len hR; omega) k h]
      rw [e]
      split <;> simp <;> omega
    · rename_i h
      rw [gets_fr hR]
      obtain ⟨i1, i2, i3, i4, i5⟩ := gets_cut l n (k - (frO o).length) hr.2 (by simpa using hl) (by omega)
      refine ⟨by simpa using i1, ?_, by simp only []; omega, ?_, i5⟩
      · simp only [List.length_cons, List.take_succ_cons]
        rw [← i2]
      · simp only [i4]; omega

/-- One step on. -/
theorem gets_step {s : List UInt8} {b : List UInt8} {k n : Nat} (h0 : 0 < s.length) (h : nextN s = .inl (b, k)) (ho : (oneQ b).2 = true) : getN (n + 1) s = ((oneQ b).1 :: (getN n (s.drop k)).1, k + (getN n (s.drop k)).2.1, (getN n (s.drop k)).2.2) := by
  simp only [getN]
  rw [if_neg (by omega), h]
  simp only [ho, cond_true]
theorem gets_err {s : List UInt8} {e : Int} {n : Nat} (h0 : 0 < s.length) (h : nextN s = .inr e) : getN (n + 1) s = ([], 0, e) := by
  simp only [getN]
  rw [if_neg (by omega), h]
theorem gets_form {s : List UInt8} {b : List UInt8} {k n : Nat} (h0 : 0 < s.length) (h : nextN s = .inl (b, k)) (ho : (oneQ b).2 = false) : getN (n + 1) s = ([], 0, 3) := by
  simp only [getN]
  rw [if_neg (by omega), h]
  simp only [ho, cond_false]

end Go.Proofs.Ytbabdalfkmdlhaa
