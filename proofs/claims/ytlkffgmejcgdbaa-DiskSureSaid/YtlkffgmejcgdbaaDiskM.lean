/- Files of a disk, in plain Lean. -/
import Derived.Test.YtlkffgmejcgdbaaL4
import Derived.Test.YtlkffgmejcgdbaaV
namespace Go.Proofs.Ytlkffgmejcgdbaa
set_option linter.all false
-- bundled

def lt (a b : List UInt8) : Bool := Op.bytesLess a b
theorem lt_irr : ∀ a : List UInt8, lt a a = false
  | [] => rfl
  | a :: x => by
    have := lt_irr x
    simp only [lt] at this
    simp [lt, Op.bytesLess, this]
theorem lt_trans : ∀ {a b c : List UInt8}, lt a b = true → lt b c = true → lt a c = true
  | _, _, [], _, h => by cases ‹List UInt8› <;> simp [lt, Op.bytesLess] at h
  | _, [], _ :: _, h, _ => by simp [lt, Op.bytesLess] at h
  | [], _ :: _, _ :: _, _, _ => rfl
  | a :: x, b :: y, c :: z, h1, h2 => by
    simp only [lt, Op.bytesLess, Bool.or_eq_true, Bool.and_eq_true, decide_eq_true_eq, beq_iff_eq] at h1 h2 ⊢
    rcases h1 with h1 | ⟨h1, k1⟩ <;> rcases h2 with h2 | ⟨h2, k2⟩
    · exact .inl (UInt8.lt_trans h1 h2)
    · exact .inl (h2 ▸ h1)
    · exact .inl (h1 ▸ h2)
    · exact .inr ⟨h1.trans h2, lt_trans (a := x) (b := y) (c := z) k1 k2⟩
theorem lt_tri : ∀ {a b : List UInt8}, lt a b = false → lt b a = false → a = b
  | [], [], _, _ => rfl
  | [], _ :: _, h, _ => by simp [lt, Op.bytesLess] at h
  | _ :: _, [], _, h => by simp [lt, Op.bytesLess] at h
  | a :: x, b :: y, h1, h2 => by
    simp only [lt, Op.bytesLess, Bool.or_eq_false_iff, Bool.and_eq_false_iff, decide_eq_false_iff_not, beq_eq_false_iff_ne] at h1 h2
    have hab : a = b := by
      have k1 := h1.1
      have k2 := h2.1
      exact UInt8.le_antisymm (UInt8.not_lt.1 k2) (UInt8.not_lt.1 k1)
    subst hab
    rcases h1.2 with h | h
    · exact absurd rfl h
    · rcases h2.2 with h' | h'
      · exact absurd rfl h'
      · rw [lt_tri (a := x) (b := y) h h']
theorem lt_asym {a b : List UInt8} (h : lt a b = true) : lt b a = false := by
  cases hb : lt b a
  · rfl
  · have := lt_trans h hb
    rw [lt_irr] at this
    cases this
theorem lt_ne {a b : List UInt8} (h : lt a b = true) : a ≠ b := fun e => by rw [e, lt_irr] at h; cases h

/-- Names rise. -/
def upF (l : List GFile) : Prop := l.Pairwise fun a b => lt a.name b.name = true
def cF (s : List UInt8) (f : GFile) : Int := if lt f.name s = true then -1 else if f.name = s then 0 else 1
theorem cF_neg (s : List UInt8) (f : GFile) : cF s f < 0 ↔ lt f.name s = true := by
  unfold cF
  split
  · simp_all
  · split <;> simp_all
theorem cF_zero (s : List UInt8) (f : GFile) : (cF s f == 0) = (f.name == s) := by
  unfold cF
  split
  · rename_i h
    have := lt_ne h
    simp [this]
  · split <;> simp_all
theorem cF_mono {l : List GFile} (h : upF l) (s : List UInt8) (i j : Nat) (hi : i < l.length) (hj : j < l.length) (hij : i ≤ j) (hc : cF s l[j] < 0) : cF s l[i] < 0 := by
  rcases Nat.lt_or_ge i j with h1 | h1
  · have h2 := List.pairwise_iff_getElem.1 h i j hi hj h1
    rw [cF_neg] at hc ⊢
    exact lt_trans h2 hc
  · obtain rfl : i = j := by omega
    exact hc

theorem take_twF {α : Type} (p : α → Bool) (l : List α) : l.take (l.takeWhile p).length = l.takeWhile p := by
  induction l with
  | nil => rfl
  | cons x l ih => cases h : p x <;> simp [List.takeWhile_cons, h, ih]
theorem drop_twF {α : Type} (p : α → Bool) (l : List α) : l.drop (l.takeWhile p).length = l.dropWhile p := by
  induction l with
  | nil => rfl
  | cons x l ih => cases h : p x <;> simp [List.takeWhile_cons, List.dropWhile_cons, h, ih]

/-- A rising list parts at a name. -/
theorem upF_part {l : List GFile} (h : upF l) (s : List UInt8) : (∀ f, f ∈ l.take (idxT l (cF s)) → lt f.name s = true) ∧
    ((thereT l (cF s) = true ∧ ∃ (hi : idxT l (cF s) < l.length), l[idxT l (cF s)].name = s ∧ (∀ f, f ∈ l.drop (idxT l (cF s) + 1) → lt s f.name = true)) ∨
     (thereT l (cF s) = false ∧ ∀ f, f ∈ l.drop (idxT l (cF s)) → lt s f.name = true)) := by
  obtain ⟨i, hi⟩ : ∃ i, idxT l (cF s) = i := ⟨_, rfl⟩
  have hle := idxT_le l (cF s)
  have e1 : l.take (idxT l (cF s)) = l.takeWhile fun f => decide (cF s f < 0) := by unfold idxT; exact take_twF _ l
  have hlo : ∀ f, f ∈ l.take (idxT l (cF s)) → lt f.name s = true := fun f hf => by
    rw [e1] at hf
    have : ∀ (l : List GFile), f ∈ l.takeWhile (fun f => decide (cF s f < 0)) → cF s f < 0 := by
      intro l
      induction l with
      | nil => intro h; simp at h
      | cons x l ih =>
        intro h
        rw [List.takeWhile_cons] at h
        split at h
        · rename_i hx
          rcases List.mem_cons.1 h with rfl | h
          · exact of_decide_eq_true hx
          · exact ih h
        · simp at h
    exact (cF_neg s f).1 (this l hf)
  refine ⟨hlo, ?_⟩
  rw [hi] at hle ⊢
  have hup := List.pairwise_iff_getElem.1 h
  have after : ∀ (hil : i < l.length) (f : GFile), f ∈ l.drop (i + 1) → lt l[i].name f.name = true := fun hil f hf => by
    obtain ⟨k, hk, rfl⟩ := List.mem_iff_getElem.1 hf
    rw [List.length_drop] at hk
    rw [List.getElem_drop]
    exact hup i (i + 1 + k) hil (by omega) (by omega)
  by_cases hil : i < l.length
  · have hge : ¬ cF s l[i] < 0 := by
      have e : l.drop i = l.dropWhile fun f => decide (cF s f < 0) := by rw [← hi]; unfold idxT; exact drop_twF _ l
      have := List.head?_dropWhile_not (fun f => decide (cF s f < 0)) l
      rw [← e, List.head?_drop, List.getElem?_eq_getElem hil] at this
      simpa using this
    have hth : thereT l (cF s) = (l[i].name == s) := by
      unfold thereT
      rw [hi, List.getElem?_eq_getElem hil]
      exact cF_zero s _
    cases hq : (l[i].name == s)
    · right
      rw [hth, hq]
      have hne : l[i].name ≠ s := by simpa using hq
      have hgt : lt s l[i].name = true := by
        cases hx : lt s l[i].name
        · exfalso
          have h2 : lt l[i].name s = false := by
            cases hy : lt l[i].name s
            · rfl
            · exact absurd ((cF_neg s _).2 hy) hge
          exact hne (lt_tri h2 hx)
        · rfl
      refine ⟨rfl, fun f hf => ?_⟩
      rw [List.drop_eq_getElem_cons hil] at hf
      rcases List.mem_cons.1 hf with rfl | hf
      · exact hgt
      · exact lt_trans hgt (after hil f hf)
    · left
      rw [hth, hq]
      have he : l[i].name = s := by simpa using hq
      exact ⟨rfl, hil, he, fun f hf => he ▸ after hil f hf⟩
  · right
    refine ⟨?_, fun f hf => by rw [List.drop_of_length_le (by omega)] at hf; cases hf⟩
    unfold thereT
    rw [hi, List.getElem?_eq_none (by omega)]

end Go.Proofs.Ytlkffgmejcgdbaa
