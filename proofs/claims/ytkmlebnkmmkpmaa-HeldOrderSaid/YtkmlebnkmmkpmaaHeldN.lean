/- Held batches: the laws, in plain Lean. -/
import Derived.Test.YtkmlebnkmmkpmaaHeldM
namespace Go.Proofs.Ytkmlebnkmmkpmaa
set_option linter.all false

theorem putH_cases (h : List (List GRec)) (l : List GRec) (next most bytes : Int) : putH h l next most bytes = h ∨
    (l ≠ [] ∧ next < first l ∧ (h.length : Int) < most ∧ thereT h (cH (first l)) = false ∧ (bytesH h : Int) + (bytesL l : Int) ≤ bytes ∧ putH h l next most bytes = h.take (idxT h (cH (first l))) ++ [l] ++ h.drop (idxT h (cH (first l)))) := by
  by_cases hc : l = [] ∨ first l ≤ next ∨ (h.length : Int) ≥ most ∨ thereT h (cH (first l)) = true ∨ (bytesH h : Int) + (bytesL l : Int) > bytes
  · exact .inl (if_pos hc)
  · refine .inr ?_
    have he : putH h l next most bytes = h.take (idxT h (cH (first l))) ++ [l] ++ h.drop (idxT h (cH (first l))) := if_neg hc
    simp only [not_or] at hc
    exact ⟨hc.1, by omega, by omega, by simpa using hc.2.2.2.1, by omega, he⟩

theorem putH_low (h : List (List GRec)) (l : List GRec) (next most bytes : Int) (hl : first l ≤ next) : putH h l next most bytes = h := if_pos (.inr (.inl hl))

theorem putH_len (h : List (List GRec)) (l : List GRec) (next most bytes : Int) : (putH h l next most bytes).length ≤ h.length + 1 := by
  rcases putH_cases h l next most bytes with he | ⟨_, _, _, _, _, he⟩
  · rw [he]; omega
  · rw [he, List.length_append, List.length_append, List.length_take, List.length_drop]; simp; omega
theorem putH_mem (h : List (List GRec)) (l : List GRec) (next most bytes : Int) (x : List GRec) (hx : x ∈ putH h l next most bytes) : x ∈ h ∨ x = l := by
  rcases putH_cases h l next most bytes with he | ⟨_, _, _, _, _, he⟩
  · exact .inl (he ▸ hx)
  · rw [he, List.mem_append, List.mem_append] at hx
    rcases hx with (hx | hx) | hx
    · exact .inl (List.mem_of_mem_take hx)
    · exact .inr (List.mem_singleton.1 hx)
    · exact .inl (List.mem_of_mem_drop hx)

theorem take_tw {α : Type} (p : α → Bool) (l : List α) : l.take (l.takeWhile p).length = l.takeWhile p := by
  induction l with
  | nil => rfl
  | cons x l ih => cases h : p x <;> simp [List.takeWhile_cons, h, ih]
theorem drop_tw {α : Type} (p : α → Bool) (l : List α) : l.drop (l.takeWhile p).length = l.dropWhile p := by
  induction l with
  | nil => rfl
  | cons x l ih => cases h : p x <;> simp [List.takeWhile_cons, List.dropWhile_cons, h, ih]
theorem mem_tw {α : Type} {p : α → Bool} {l : List α} {x : α} (h : x ∈ l.takeWhile p) : p x = true := by
  induction l with
  | nil => simp at h
  | cons y l ih =>
    cases hy : p y
    · rw [List.takeWhile_cons, hy] at h; simp at h
    · rw [List.takeWhile_cons, hy] at h
      rcases List.mem_cons.1 h with rfl | h
      · exact hy
      · exact ih h

theorem idx_take {h : List (List GRec)} (off : Int) (x : List GRec) (hx : x ∈ h.take (idxT h (cH off))) : first x < off := by
  have e : h.take (idxT h (cH off)) = h.takeWhile fun x => decide (cH off x < 0) := by
    unfold idxT
    exact take_tw _ h
  rw [e] at hx
  have h1 := mem_tw hx
  have h2 : cH off x < 0 := of_decide_eq_true h1
  unfold cH at h2
  omega
theorem idx_drop {h : List (List GRec)} (hr : RightH h) (off : Int) (ht : thereT h (cH off) = false) (x : List GRec) (hx : x ∈ h.drop (idxT h (cH off))) : off < first x := by
  obtain ⟨i, hi⟩ : ∃ i, i = idxT h (cH off) := ⟨_, rfl⟩
  rw [← hi] at hx
  obtain ⟨k, hk, rfl⟩ := List.mem_iff_getElem.1 hx
  rw [List.getElem_drop]
  rw [List.length_drop] at hk
  have hil : i < h.length := by omega
  have h0 : off < first h[i] := by
    have hge : ¬ cH off h[i] < 0 := by
      have e : h.drop i = h.dropWhile fun x => decide (cH off x < 0) := by
        rw [hi]; unfold idxT; exact drop_tw _ h
      have := List.head?_dropWhile_not (fun x => decide (cH off x < 0)) h
      rw [← e, List.head?_drop, List.getElem?_eq_getElem hil] at this
      simpa using this
    unfold thereT at ht
    rw [← hi, List.getElem?_eq_getElem hil] at ht
    simp only [beq_eq_false_iff_ne, ne_eq] at ht
    simp only [cH] at hge ht
    omega
  rcases Nat.eq_zero_or_pos k with rfl | hp
  · exact h0
  · have := List.pairwise_iff_getElem.1 hr.up i (i + k) hil (by omega) (by omega)
    omega
theorem putH_right {h : List (List GRec)} (hr : RightH h) {l : List GRec} (hl : rowB l = true) (next most bytes : Int) : RightH (putH h l next most bytes) := by
  rcases putH_cases h l next most bytes with he | ⟨hne, _, _, ht, _, he⟩
  · rw [he]; exact hr
  · refine ⟨?_, fun x hx => ?_⟩
    · rw [he, List.pairwise_append, List.pairwise_append]
      refine ⟨⟨hr.up.sublist (List.take_sublist _ _), by simp, fun a ha b hb => ?_⟩, hr.up.sublist (List.drop_sublist _ _), fun a ha b hb => ?_⟩
      · rw [List.mem_singleton.1 hb]
        exact idx_take _ a ha
      · have h2 := idx_drop hr _ ht b hb
        rcases List.mem_append.1 ha with ha | ha
        · have := idx_take _ a ha
          omega
        · rw [List.mem_singleton.1 ha]
          exact h2
    · rcases putH_mem h l next most bytes x hx with hx | hx
      · exact hr.row x hx
      · rw [hx]; exact ⟨hl, hne⟩
theorem there_mem {h : List (List GRec)} (hr : RightH h) {l : List GRec} (hl : l ∈ h) : thereT h (cH (first l)) = true := by
  obtain ⟨i, hi, rfl⟩ := List.mem_iff_getElem.1 hl
  have hix : idxT h (cH (first h[i])) = i := idxT_eq h _ i (by omega) (fun k hk hki => by
    have := List.pairwise_iff_getElem.1 hr.up k i hk hi hki
    simp only [cH]; omega) (fun k hk hik hc => by
    rcases Nat.lt_or_ge i k with h1 | h1
    · have := List.pairwise_iff_getElem.1 hr.up i k hi hk h1
      simp only [cH] at hc; omega
    · obtain rfl : k = i := by omega
      simp only [cH] at hc; omega)
  unfold thereT
  rw [hix, List.getElem?_eq_getElem hi]
  simp [cH]
theorem putH_again {h : List (List GRec)} (hr : RightH h) {l : List GRec} (hl : rowB l = true) (next most bytes : Int) : putH (putH h l next most bytes) l next most bytes = putH h l next most bytes := by
  rcases putH_cases h l next most bytes with he | ⟨hne, _, _, ht, _, he⟩
  · rw [he, he]
  · have hr2 := putH_right hr hl next most bytes
    have hm : l ∈ putH h l next most bytes := by rw [he]; simp
    exact if_pos (.inr (.inr (.inr (.inl (there_mem hr2 hm)))))
theorem putH_most (h : List (List GRec)) (l : List GRec) (next most bytes : Int) (hm : (h.length : Int) ≤ most) (hb : (bytesH h : Int) ≤ bytes) : ((putH h l next most bytes).length : Int) ≤ most ∧ (bytesH (putH h l next most bytes) : Int) ≤ bytes := by
  rcases putH_cases h l next most bytes with he | ⟨_, _, h1, _, h2, he⟩
  · rw [he]; exact ⟨hm, hb⟩
  · rw [he]
    constructor
    · simp only [List.length_append, List.length_take, List.length_drop, List.length_cons, List.length_nil]; omega
    · have hs : bytesH (h.take (idxT h (cH (first l)))) + bytesH (h.drop (idxT h (cH (first l)))) = bytesH h := by rw [← bytesH_app, List.take_append_drop]
      have h1 : bytesH [l] = bytesL l := by simp [bytesH]
      rw [bytesH_app, bytesH_app, h1]
      omega

theorem takeH_suffix : ∀ (h : List (List GRec)) (n : Int), (takeH h n).2 <:+ h
  | [], n => List.suffix_refl _
  | l :: t, n => by
    rw [takeH]
    split
    · exact List.suffix_refl _
    · exact (takeH_suffix t _).trans (List.suffix_cons l t)

/-- What is taken is in a row; what is held on begins above it. -/
theorem takeH_row : ∀ (h : List (List GRec)) (n : Int), RightH h → (∀ (i : Nat) (hi : i < (takeH h n).1.length), (takeH h n).1[i].at' = n + (i : Int)) ∧ (∀ x, x ∈ (takeH h n).2 → n + ((takeH h n).1.length : Int) < first x) ∧ (takeH h n).1.length ≤ 64 * h.length ∧ (0 < (takeH h n).1.length → n + ((takeH h n).1.length : Int) ≤ 1099511627777)
  | [], n, hr => ⟨fun i hi => by simp [takeH] at hi, fun x hx => by simp [takeH] at hx, by simp [takeH], fun h => by simp [takeH] at h⟩
  | l :: t, n, hr => by
    have hup := List.pairwise_cons.1 hr.up
    have hrt : RightH t := ⟨hup.2, fun x hx => hr.row x (by simp [hx])⟩
    have hlr := hr.row l (by simp)
    have hlf := row_first hlr.1 hlr.2
    have hll := row_len hlr.1
    by_cases hf : first l > n
    · have he : takeH (l :: t) n = ([], l :: t) := by rw [takeH, if_pos hf]
      rw [he]
      refine ⟨fun i hi => by simp at hi, fun x hx => ?_, by simp, fun h => by simp at h⟩
      simp only [List.length_nil, Int.natCast_zero, Int.add_zero]
      rcases List.mem_cons.1 hx with rfl | hx
      · exact hf
      · have := hup.1 x hx
        omega
    · obtain ⟨d, hd⟩ : ∃ d, (n - first l).toNat = d := ⟨_, rfl⟩
      obtain ⟨n2, hn2⟩ : ∃ n2, max n (first l + l.length) = n2 := ⟨_, rfl⟩
      have he : takeH (l :: t) n = (l.drop d ++ (takeH t n2).1, (takeH t n2).2) := by rw [takeH, if_neg hf, hd, hn2]
      have ih := takeH_row t n2 hrt
      have hdl : (l.drop d).length = l.length - d := List.length_drop ..
      have hn2e : n2 = n + ((l.length - d : Nat) : Int) := by omega
      rw [he]
      refine ⟨fun i hi => ?_, fun x hx => ?_, ?_, fun hp => ?_⟩
      · simp only [List.length_append, hdl] at hi
        simp only [List.getElem_append]
        split
        · rename_i h1
          rw [hdl] at h1
          rw [List.getElem_drop, (row_at hlr.1 (d + i) (by omega)).2]
          omega
        · rename_i h1
          rw [hdl] at h1
          have := ih.1 (i - (l.drop d).length) (by omega)
          rw [this]
          omega
      · have := ih.2.1 x hx
        simp only [List.length_append, hdl]
        omega
      · have := ih.2.2.1
        simp only [List.length_append, hdl, List.length_cons]
        omega
      · have h3 := ih.2.2.2
        simp only [List.length_append, hdl] at hp ⊢
        rcases Nat.eq_zero_or_pos (takeH t n2).1.length with h0 | h0
        · rw [h0] at hp ⊢
          omega
        · have := h3 h0
          omega
theorem suffix_right {h k : List (List GRec)} (hr : RightH h) (hs : k <:+ h) : RightH k :=
  ⟨hr.up.sublist hs.sublist, fun l hl => hr.row l (hs.sublist.subset hl)⟩
theorem takeH_rest {h : List (List GRec)} (hr : RightH h) (n : Int) : takeH (takeH h n).2 (n + ((takeH h n).1.length : Int)) = ([], (takeH h n).2) := by
  have h2 := (takeH_row h n hr).2.1
  cases hc : (takeH h n).2 with
  | nil => rfl
  | cons x t =>
    rw [hc] at h2
    have := h2 x (by simp)
    rw [takeH, if_pos this]

end Go.Proofs.Ytkmlebnkmmkpmaa
