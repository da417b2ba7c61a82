/- A burst of up to 32 bits is seen: in plain Lean. -/
import Derived.Test.YtlpbhmhkobhkeaaCrcW
namespace Go.Proofs.Ytlpbhmhkobhkeaa
set_option linter.all false

def bit1 (b : Bool) : BitVec 32 := if b then 1#32 else 0#32
def runF {ι : Type} (f : ι → Bool) (x : BitVec 32) (l : List ι) : BitVec 32 := l.foldl (fun x i => step1 (x ^^^ bit1 (f i))) x

theorem runF_append {ι : Type} (f : ι → Bool) (x : BitVec 32) (l m : List ι) : runF f x (l ++ m) = runF f (runF f x l) m := by simp [runF, List.foldl_append]
theorem runF_map {ι κ : Type} (f : ι → Bool) (h : κ → ι) (x : BitVec 32) (l : List κ) : runF f x (l.map h) = runF (fun i => f (h i)) x l := by simp [runF, List.foldl_map]

theorem runF_congr {ι : Type} {f g : ι → Bool} : ∀ {l : List ι} (x : BitVec 32), (∀ i, i ∈ l → f i = g i) → runF f x l = runF g x l
  | [], _, _ => rfl
  | a :: l, x, h => by
    simp only [runF, List.foldl_cons, h a (by simp)]
    exact runF_congr _ fun i hi => h i (by simp [hi])

theorem step_comm (n : Nat) (x : BitVec 32) : stepN n (step1 x) = stepN (n + 1) x := by
  have := stepN_add n 1 x
  rw [Nat.add_comm 1 n] at this
  exact this

theorem runF_false {ι : Type} : ∀ (l : List ι) (x : BitVec 32), runF (fun _ => false) x l = stepN l.length x
  | [], _ => rfl
  | a :: l, x => by
    have := runF_false l (step1 x)
    simp only [runF, List.foldl_cons, bit1, Bool.false_eq_true, if_false, BitVec.xor_zero, List.length_cons] at this ⊢
    rw [this, step_comm]

theorem runF_xor {ι : Type} (f g : ι → Bool) : ∀ (l : List ι) (x y : BitVec 32), runF f x l ^^^ runF g y l = runF (fun i => f i ^^ g i) (x ^^^ y) l
  | [], _, _ => rfl
  | a :: l, x, y => by
    have e : step1 (x ^^^ bit1 (f a)) ^^^ step1 (y ^^^ bit1 (g a)) = step1 (x ^^^ y ^^^ bit1 (f a ^^ g a)) := by
      rw [← step_xor]
      congr 1
      have : bit1 (f a ^^ g a) = bit1 (f a) ^^^ bit1 (g a) := by cases f a <;> cases g a <;> rfl
      rw [this]
      generalize bit1 (f a) = p
      generalize bit1 (g a) = q
      rw [BitVec.xor_assoc, BitVec.xor_assoc]
      congr 1
      rw [← BitVec.xor_assoc, BitVec.xor_comm p y, BitVec.xor_assoc]
    have := runF_xor f g l (step1 (x ^^^ bit1 (f a))) (step1 (y ^^^ bit1 (g a)))
    rw [e] at this
    exact this

/-- The word of bits. -/
def pk (g : Nat → Bool) : Nat → BitVec 32
  | 0 => 0#32
  | m + 1 => pk g m ^^^ (bit1 (g m) <<< m)

theorem pk_bit (g : Nat → Bool) (m i : Nat) (hm : m ≤ 32) (hi : i < 32) : (pk g m).getLsbD i = (decide (i < m) && g i) := by
  induction m with
  | zero => simp [pk]
  | succ m ih =>
    rw [pk, BitVec.getLsbD_xor, ih (by omega), BitVec.getLsbD_shiftLeft]
    by_cases c : i < m
    · have c2 : i < m + 1 := by omega
      simp [c, c2]
    · by_cases c3 : i = m
      · subst c3
        cases hg : g i <;> simp [bit1, hi]
      · have c2 : ¬ i < m + 1 := by omega
        have c4 : i - m ≠ 0 := by omega
        have : (bit1 (g m)).getLsbD (i - m) = false := by
          cases g m
          · simp [bit1]
          · simp [bit1, c4]
        simp [c, c2, this]

theorem runF_pk (g : Nat → Bool) (m : Nat) (hm : m ≤ 32) (x : BitVec 32) : runF g x (List.range m) = stepN m (x ^^^ pk g m) := by
  induction m with
  | zero => simp [runF, pk, stepN]
  | succ m ih =>
    rw [List.range_succ, runF_append, ih (by omega)]
    show step1 (stepN m (x ^^^ pk g m) ^^^ bit1 (g m)) = step1 (stepN m (x ^^^ (pk g m ^^^ bit1 (g m) <<< m)))
    have hb : (bit1 (g m)).toNat < 2 ^ (32 - m) := by
      have : 2 ^ 1 ≤ 2 ^ (32 - m) := Nat.pow_le_pow_right (by decide) (by omega)
      cases g m <;> simp [bit1] <;> omega
    rw [← BitVec.xor_assoc, stepN_xor m (x ^^^ pk g m), stepN_shift m _ (by omega) hb]

theorem step_nz {x : BitVec 32} (h : x ≠ 0#32) : step1 x ≠ 0#32 := by
  intro h0
  apply h
  rw [step_if] at h0
  have htop : (x >>> 1).getLsbD 31 = false := by simp
  cases hx : x.getLsbD 0 <;> rw [hx] at h0
  · simp only [Bool.false_eq_true, if_false, BitVec.xor_zero] at h0
    have h1 := congrArg BitVec.toNat h0
    have h2 : x.toNat % 2 = 0 := by
      rw [BitVec.getLsbD, Nat.testBit_zero, decide_eq_false_iff_not] at hx
      omega
    simp [Nat.shiftRight_eq_div_pow] at h1
    apply BitVec.eq_of_toNat_eq
    simp
    omega
  · simp only [if_true] at h0
    have := congrArg (fun b => BitVec.getLsbD b 31) h0
    simp only [BitVec.getLsbD_xor, htop] at this
    exact absurd this (by decide)

theorem stepN_nz (n : Nat) {x : BitVec 32} (h : x ≠ 0#32) : stepN n x ≠ 0#32 := by
  induction n with
  | zero => exact h
  | succ n ih => exact step_nz ih

def bitOf (s : List UInt8) (p : Nat) : Bool := (s.getD (p / 8) 0).toBitVec.getLsbD (p % 8)

theorem fold_bits (x : BitVec 32) (s : List UInt8) : s.foldl (fun x b => halfN 8 (feed x b)) x = runF (bitOf s) x (List.range (8 * s.length)) := by
  obtain ⟨t, rfl⟩ : ∃ t, s = t.reverse := ⟨s.reverse, by simp⟩
  induction t generalizing x with
  | nil => rfl
  | cons b t ih =>
    rw [List.reverse_cons]
    generalize t.reverse = s at ih ⊢
    rw [List.foldl_append, ih, List.length_append, List.length_singleton, Nat.mul_add, List.range_add, runF_append, runF_map]
    have e1 : runF (bitOf (s ++ [b])) x (List.range (8 * s.length)) = runF (bitOf s) x (List.range (8 * s.length)) :=
      runF_congr x fun i hi => by
        have hlt : i / 8 < s.length := by have := List.mem_range.1 hi; omega
        simp only [bitOf, List.getD_eq_getElem?_getD, List.getElem?_append_left hlt]
    have e2 : ∀ y, runF (fun i => bitOf (s ++ [b]) (8 * s.length + i)) y (List.range (8 * 1)) = runF (fun i => b.toBitVec.getLsbD i) y (List.range 8) := fun y =>
      runF_congr y fun i hi => by
        have hi8 := List.mem_range.1 hi
        have a1 : (8 * s.length + i) / 8 = s.length := by omega
        have a2 : (8 * s.length + i) % 8 = i := by omega
        simp only [bitOf, a1, a2, List.getD_eq_getElem?_getD]
        simp
    rw [e1, e2, runF_pk _ 8 (by decide)]
    show halfN 8 (feed _ b) = _
    rw [halfN_step, feed]
    congr 2
    apply BitVec.eq_of_getLsbD_eq
    intro i hi
    rw [pk_bit _ 8 i (by decide) hi, BitVec.getLsbD_setWidth]
    by_cases c : i < 8
    · simp [c, hi]
    · have : b.toBitVec.getLsbD i = false := BitVec.getLsbD_of_ge _ _ (by omega)
      simp [c, this]

/-- A burst is seen. -/
theorem burst (s s' : List UInt8) (k m : Nat) (w : Nat → Bool) (hl : s'.length = s.length) (hm : 0 < m) (hm2 : m ≤ 32) (hk : k + m ≤ 8 * s.length) (hw : w 0 = true)
    (h : ∀ p, p < 8 * s.length → bitOf s' p = (bitOf s p ^^ (decide (k ≤ p) && (decide (p < k + m) && w (p - k))))) : onT 0#32 s' ≠ onT 0#32 s := by
  intro he
  rw [onT_eq, onT_eq, onR, onR, fold_bits, fold_bits, hl] at he
  have he2 := congrArg (fun z => ~~~z) he
  simp only [BitVec.not_not] at he2
  have hx := runF_xor (bitOf s') (bitOf s) (List.range (8 * s.length)) (~~~0#32) (~~~0#32)
  rw [he2, BitVec.xor_self, BitVec.xor_self] at hx
  have hd : runF (fun i => bitOf s' i ^^ bitOf s i) 0#32 (List.range (8 * s.length)) = runF (fun p => decide (k ≤ p) && (decide (p < k + m) && w (p - k))) 0#32 (List.range (8 * s.length)) :=
    runF_congr _ fun i hi => by
      rw [h i (List.mem_range.1 hi)]
      cases bitOf s i <;> simp
  rw [hd] at hx
  obtain ⟨r, hr⟩ : ∃ r, 8 * s.length = k + m + r := ⟨8 * s.length - (k + m), by omega⟩
  rw [hr, List.range_add, List.range_add, runF_append, runF_append, runF_map, runF_map] at hx
  have p1 : runF (fun p => decide (k ≤ p) && (decide (p < k + m) && w (p - k))) 0#32 (List.range k) = 0#32 := by
    have c : ∀ i, i ∈ List.range k → (decide (k ≤ i) && (decide (i < k + m) && w (i - k))) = false := fun i hi => by
      have := List.mem_range.1 hi
      have c : ¬ k ≤ i := by omega
      simp [c]
    rw [runF_congr (g := fun _ => false) 0#32 c, runF_false, stepN_zero]
  have p2 : ∀ y, runF (fun i => decide (k ≤ k + i) && (decide (k + i < k + m) && w (k + i - k))) y (List.range m) = runF w y (List.range m) := fun y =>
    runF_congr y fun i hi => by
      have := List.mem_range.1 hi
      have c : k + i < k + m := by omega
      simp [this]
  have p3 : ∀ y, runF (fun i => decide (k ≤ k + m + i) && (decide (k + m + i < k + m) && w (k + m + i - k))) y (List.range r) = stepN r y := fun y => by
    rw [runF_congr (g := fun _ => false) y (fun i _ => by
      have c : ¬ k + m + i < k + m := by omega
      simp [c]), runF_false, List.length_range]
  rw [p1, p2, p3, runF_pk w m hm2, BitVec.zero_xor] at hx
  have hz : pk w m ≠ 0#32 := by
    intro h0
    have := pk_bit w m 0 hm2 (by decide)
    rw [h0, hw] at this
    simp at this
    omega
  exact stepN_nz r (stepN_nz m hz) hx.symm

end Go.Proofs.Ytlpbhmhkobhkeaa
