/- Pieces of a row, held in whatever order: plain Lean. -/
import Derived.Test.YtkmlebnkmmkpmaaHeldN
namespace Go.Proofs.Ytkmlebnkmmkpmaa
set_option linter.all false

def pieceN (s : UInt8) : Nat := s.toNat % 5 + 1
def mkP (a n : Nat) : List GRec := (List.range n).map fun k => ⟨((a + k : Nat) : Int), 0, [120]⟩
def endP (a : Nat) (l : List UInt8) : Nat := a + (l.map pieceN).sum
def pieces : Nat → List UInt8 → List (List GRec)
  | _, [] => []
  | a, s :: l => mkP a (pieceN s) :: pieces (a + pieceN s) l

theorem mkP_len (a n : Nat) : (mkP a n).length = n := by simp [mkP]
theorem mkP_get (a n i : Nat) (hi : i < (mkP a n).length) : (mkP a n)[i] = ⟨((a + i : Nat) : Int), 0, [120]⟩ := by simp [mkP]
theorem mkP_succ (a n : Nat) : mkP a (n + 1) = mkP a n ++ [⟨((a + n : Nat) : Int), 0, [120]⟩] := by simp [mkP, List.range_succ]
theorem mkP_first (a n : Nat) (hn : 0 < n) : first (mkP a n) = (a : Int) := by
  have h0 : 0 < (mkP a n).length := by rw [mkP_len]; exact hn
  rw [← first_get h0, mkP_get]
  simp
theorem mkP_row (a n : Nat) (hn : 0 < n) (h5 : n ≤ 5) (ha : a ≤ 100000) : rowB (mkP a n) = true := by
  refine row_mk (fun i hi => ?_) (by rw [mkP_len]; omega)
  rw [mkP_first a n hn, mkP_get]
  rw [mkP_len] at hi
  refine ⟨rightR_iff.2 ⟨?_, ?_, ?_⟩, ?_⟩
  · simp only []; omega
  · simp only []; omega
  · simp
  · simp
theorem pieceN_le (s : UInt8) : 1 ≤ pieceN s ∧ pieceN s ≤ 5 := by unfold pieceN; omega
theorem endP_le (a : Nat) (l : List UInt8) : a + l.length ≤ endP a l ∧ endP a l ≤ a + 5 * l.length := by
  unfold endP
  induction l with
  | nil => simp
  | cons s l ih =>
    have := pieceN_le s
    rw [List.map_cons, List.sum_cons, List.length_cons]
    omega
theorem endP_cons (a : Nat) (s : UInt8) (l : List UInt8) : endP a (s :: l) = endP (a + pieceN s) l := by
  unfold endP; rw [List.map_cons, List.sum_cons]; omega
theorem endP_snoc (a : Nat) (l : List UInt8) (s : UInt8) : endP a (l ++ [s]) = endP a l + pieceN s := by
  unfold endP; simp; omega
theorem pieces_snoc (a : Nat) (l : List UInt8) (s : UInt8) : pieces a (l ++ [s]) = pieces a l ++ [mkP (endP a l) (pieceN s)] := by
  induction l generalizing a with
  | nil => simp [pieces, endP]
  | cons x l ih =>
    rw [List.cons_append, pieces, pieces, ih, endP_cons]
    rfl
theorem pieces_len (a : Nat) (l : List UInt8) : (pieces a l).length = l.length := by
  induction l generalizing a with
  | nil => rfl
  | cons x l ih => rw [pieces, List.length_cons, ih, List.length_cons]
theorem pieces_mem (a : Nat) (l : List UInt8) (x : List GRec) (hx : x ∈ pieces a l) : ∃ b n, x = mkP b n ∧ a ≤ b ∧ 1 ≤ n ∧ n ≤ 5 ∧ b + n ≤ endP a l := by
  induction l generalizing a with
  | nil => cases hx
  | cons s l ih =>
    have hs := pieceN_le s
    rw [endP_cons]
    have he := endP_le (a + pieceN s) l
    rcases List.mem_cons.1 hx with rfl | hx
    · exact ⟨a, pieceN s, rfl, Nat.le_refl _, hs.1, hs.2, by omega⟩
    · obtain ⟨b, n, h1, h2, h3, h4, h5⟩ := ih (a + pieceN s) hx
      exact ⟨b, n, h1, by omega, h3, h4, h5⟩
theorem pieces_right (a : Nat) (l : List UInt8) (ha : a ≤ 70000) (hl : l.length ≤ 1000) : RightH (pieces a l) := by
  have he := endP_le a l
  refine ⟨?_, fun x hx => ?_⟩
  · clear he ha hl
    induction l generalizing a with
    | nil => exact List.Pairwise.nil
    | cons s l ih =>
      have hs := pieceN_le s
      refine List.pairwise_cons.2 ⟨fun y hy => ?_, ih _⟩
      obtain ⟨b, n, rfl, h2, h3, _, _⟩ := pieces_mem _ _ y hy
      rw [mkP_first a _ (by omega), mkP_first b n (by omega)]
      omega
  · obtain ⟨b, n, rfl, h2, h3, h4, h5⟩ := pieces_mem a l x hx
    exact ⟨mkP_row b n (by omega) h4 (by omega), fun e => by have := mkP_len b n; rw [e] at this; simp at this; omega⟩
theorem pieces_take (a : Nat) (l : List UInt8) : takeH (pieces a l) (a : Int) = ((pieces a l).flatten, []) := by
  induction l generalizing a with
  | nil => rfl
  | cons s l ih =>
    have hs := pieceN_le s
    have hf := mkP_first a (pieceN s) (by omega)
    have hm : max (a : Int) ((a : Int) + (pieceN s : Int)) = ((a + pieceN s : Nat) : Int) := by omega
    rw [pieces, takeH, hf, if_neg (by omega), mkP_len, hm, ih]
    simp
theorem pieces_none (a : Nat) (l : List UInt8) : takeH (pieces (a + 1) l) (a : Int) = ([], pieces (a + 1) l) := by
  cases l with
  | nil => rfl
  | cons s l =>
    have hs := pieceN_le s
    have hf := mkP_first (a + 1) (pieceN s) (by omega)
    rw [pieces, takeH, hf, if_pos (by omega)]
theorem piecesF_len (a : Nat) (l : List UInt8) : ((pieces a l).flatten).length = (l.map pieceN).sum := by
  induction l generalizing a with
  | nil => rfl
  | cons s l ih => rw [pieces, List.flatten_cons, List.length_append, mkP_len, ih, List.map_cons, List.sum_cons]

/-- Rising lists of the same members are the same. -/
theorem up_ext : ∀ {a b : List (List GRec)}, a.Pairwise (fun x y => first x < first y) → b.Pairwise (fun x y => first x < first y) → (∀ x, x ∈ a ↔ x ∈ b) → a = b
  | [], [], _, _, _ => rfl
  | [], y :: b, _, _, h => absurd ((h y).2 (by simp)) (by simp)
  | x :: a, [], _, _, h => absurd ((h x).1 (by simp)) (by simp)
  | x :: a, y :: b, ha, hb, h => by
    rw [List.pairwise_cons] at ha hb
    have hxy : x = y := by
      rcases List.mem_cons.1 ((h x).1 (by simp)) with e | h1
      · exact e
      · rcases List.mem_cons.1 ((h y).2 (by simp)) with e | h2
        · exact e.symm
        · have k1 := hb.1 x h1
          have k2 := ha.1 y h2
          omega
    subst hxy
    congr 1
    refine up_ext ha.2 hb.2 fun z => ⟨fun hz => ?_, fun hz => ?_⟩
    · rcases List.mem_cons.1 ((h z).1 (by simp [hz])) with e | h1
      · subst e; have := ha.1 z hz; omega
      · exact h1
    · rcases List.mem_cons.1 ((h z).2 (by simp [hz])) with e | h1
      · subst e; have := hb.1 z hz; omega
      · exact h1

/-- Held so far, of all; and what is not held yet. -/
structure OrI (W P H : List (List GRec)) : Prop where
  sub : P.Sublist W
  right : RightH H
  len : H.length + P.length = W.length
  old : ∀ x, x ∈ H → x ∈ W ∧ x ∉ P
  all : ∀ x, x ∈ W → x ∈ H ∨ x ∈ P

theorem OrI.zero {W : List (List GRec)} : OrI W W [] := ⟨List.Sublist.refl _, right_nilH, by simp, (fun x hx => by cases hx), fun x hx => .inr hx⟩
theorem OrI.done {W H : List (List GRec)} (hW : RightH W) (hI : OrI W [] H) : H = W :=
  up_ext hI.right.up hW.up fun x => ⟨fun h => (hI.old x h).1, fun h => by rcases hI.all x h with h | h; exact h; cases h⟩

theorem drop_mem {P : List (List GRec)} (k : Nat) (hk : k < P.length) (x : List GRec) (hx : x ∈ P) : x = P[k] ∨ x ∈ P.take k ++ P.drop (k + 1) := by
  rw [← List.take_append_drop k P, List.drop_eq_getElem_cons hk] at hx
  rcases List.mem_append.1 hx with hx | hx
  · exact .inr (List.mem_append.2 (.inl hx))
  · rcases List.mem_cons.1 hx with hx | hx
    · exact .inl hx
    · exact .inr (List.mem_append.2 (.inr hx))
theorem without_sub {P : List (List GRec)} (k : Nat) : (P.take k ++ P.drop (k + 1)).Sublist P := by
  conv => rhs; rw [← List.take_append_drop k P]
  exact List.Sublist.append (List.Sublist.refl _) (by rw [← List.drop_drop]; exact List.drop_sublist _ _)

theorem OrI.step {W P H : List (List GRec)} (hW : RightH W) (hI : OrI W P H) (k : Nat) (hk : k < P.length) (base : Int) (hb : ∀ x, x ∈ W → base < first x ∧ x.length ≤ 5) (hl : W.length ≤ 12) : OrI W (P.take k ++ P.drop (k + 1)) (putH H P[k] base 20 10000) := by
  have hpW : P[k] ∈ W := hI.sub.subset (List.getElem_mem hk)
  have hpr := hW.row _ hpW
  have hpH : P[k] ∉ H := fun h => (hI.old _ h).2 (List.getElem_mem hk)
  have hPup := hW.up.sublist hI.sub
  have hth : thereT H (cH (first P[k])) = false := by
    cases ht : thereT H (cH (first P[k]))
    · rfl
    · exfalso
      have hil := there_lt ht
      unfold thereT at ht
      rw [List.getElem?_eq_getElem hil] at ht
      simp only [cH, beq_iff_eq] at ht
      obtain ⟨y, hy⟩ : ∃ y, H[idxT H (cH (first P[k]))] = y := ⟨_, rfl⟩
      have hyH : y ∈ H := hy ▸ List.getElem_mem hil
      have hyW := (hI.old y hyH).1
      have he : first y = first P[k] := by
        have h2 : first (H[idxT H (cH (first P[k]))]) - first P[k] = 0 := ht
        rw [hy] at h2
        omega
      obtain ⟨i, hi, e1⟩ := List.mem_iff_getElem.1 hyW
      obtain ⟨j, hj, e2⟩ := List.mem_iff_getElem.1 hpW
      have hij : i = j := by
        rcases Nat.lt_trichotomy i j with h1 | h1 | h1
        · have := List.pairwise_iff_getElem.1 hW.up i j hi hj h1
          rw [e1, e2] at this; omega
        · exact h1
        · have := List.pairwise_iff_getElem.1 hW.up j i hj hi h1
          rw [e1, e2] at this; omega
      subst hij
      rw [e1] at e2
      exact hpH (e2 ▸ hyH)
  have hbH : bytesH H ≤ 450 * H.length := by
    have : ∀ (h : List (List GRec)), (∀ l, l ∈ h → l.length ≤ 5) → bytesH h ≤ 450 * h.length := by
      intro h
      induction h with
      | nil => intro _; simp [bytesH]
      | cons l h ih =>
        intro hr
        have h1 := ih fun m hm => hr m (by simp [hm])
        have h2 := bytesL_le l
        have h3 := hr l (by simp)
        rw [bytesH_cons, List.length_cons]
        omega
    exact this H fun l hl => (hb l (hI.old l hl).1).2
  have hbp := bytesL_le P[k]
  have hp5 := hb _ hpW
  have hlen := hI.len
  have he : putH H P[k] base 20 10000 = H.take (idxT H (cH (first P[k]))) ++ [P[k]] ++ H.drop (idxT H (cH (first P[k]))) := by
    refine if_neg ?_
    simp only [not_or]
    exact ⟨hpr.2, by omega, by omega, by rw [hth]; simp, by omega⟩
  have hmem : ∀ x, x ∈ putH H P[k] base 20 10000 ↔ x ∈ H ∨ x = P[k] := fun x => ⟨putH_mem _ _ _ _ _ x, fun hx => by
    rw [he, List.mem_append, List.mem_append, List.mem_singleton]
    rcases hx with hx | hx
    · rw [← List.take_append_drop (idxT H (cH (first P[k]))) H] at hx
      rcases List.mem_append.1 hx with hx | hx
      · exact .inl (.inl hx)
      · exact .inr hx
    · exact .inl (.inr hx)⟩
  have hpout : P[k] ∉ P.take k ++ P.drop (k + 1) := fun h => by
    rcases List.mem_append.1 h with h | h
    · obtain ⟨i, hi, e⟩ := List.mem_iff_getElem.1 h
      rw [List.length_take] at hi
      rw [List.getElem_take] at e
      have := List.pairwise_iff_getElem.1 hPup i k (by omega) hk (by omega)
      rw [e] at this; omega
    · obtain ⟨i, hi, e⟩ := List.mem_iff_getElem.1 h
      rw [List.length_drop] at hi
      rw [List.getElem_drop] at e
      have := List.pairwise_iff_getElem.1 hPup k (k + 1 + i) hk (by omega) (by omega)
      rw [e] at this; omega
  refine ⟨(without_sub k).trans hI.sub, putH_right hI.right hpr.1 _ _ _, ?_, fun x hx => ?_, fun x hx => ?_⟩
  · have := idxT_le H (cH (first P[k]))
    rw [he]
    simp only [List.length_append, List.length_take, List.length_drop, List.length_cons, List.length_nil]
    omega
  · rcases (hmem x).1 hx with h | h
    · exact ⟨(hI.old x h).1, fun h2 => (hI.old x h).2 ((without_sub k).subset h2)⟩
    · rw [h]; exact ⟨hpW, hpout⟩
  · rcases hI.all x hx with h | h
    · exact .inl ((hmem x).2 (.inl h))
    · rcases drop_mem k hk x h with h | h
      · exact .inl ((hmem x).2 (.inr h))
      · exact .inr h

end Go.Proofs.Ytkmlebnkmmkpmaa
