/- Frames, in plain Lean. -/
import Derived.Test.YtkmlebnkmmkpmaaVarM
import Derived.Test.YtkmlebnkmmkpmaaCrcS
namespace Go.Proofs.Ytkmlebnkmmkpmaa
set_option linter.all false
-- bundled

def fitsF (n : Int) : Bool := decide (n ≥ 1) && decide (n ≤ 65536)
def frameN (b : List UInt8) : List UInt8 := putN b.length ++ fourM (onT 0#32 (putN b.length ++ b)) ++ b
def putF (b : List UInt8) : List UInt8 × Int := if 1 ≤ b.length ∧ b.length ≤ 65536 then (frameN b, 0) else ([], 5)
def putFD (x : List UInt8 × Int) : D := .tup [.str x.1, .int .i64 x.2]

def openF (l : List UInt8) : Bool := decide (l.length ≤ 8) && l.all fun c => decide (128 ≤ c.toNat)

/-- What stands ahead of bytes: a body and how many bytes its frame has; or why there is none. -/
def nextN (l : List UInt8) : (List UInt8 × Nat) ⊕ Int :=
  if l.length = 0 ∨ openF l = true then .inr 2 else
  match readN l with
  | none => .inr 3
  | some (n, k) =>
    if n < 1 ∨ 65536 < n then .inr 3 else
    if l.length < k + 4 + n then .inr 2 else
    if fourM (onT 0#32 (l.take k ++ (l.drop (k + 4)).take n)) = (l.drop k).take 4 then .inl ((l.drop (k + 4)).take n, k + 4 + n) else .inr 4

def nextF (s : List UInt8) (at' : Int) : List UInt8 × Int × Int :=
  if at' < 0 then ([], 0, 2) else match nextN (s.drop at'.toNat) with
  | .inl (b, k) => (b, at' + k, 0)
  | .inr e => ([], 0, e)
def nextD (x : List UInt8 × Int × Int) : D := .tup [.str x.1, .int .i64 x.2.1, .int .i64 x.2.2]

theorem fourM_len (x : BitVec 32) : (fourM x).length = 4 := rfl

theorem frame_err (b : List UInt8) (h : ¬ (1 ≤ b.length ∧ b.length ≤ 65536)) : putF b = ([], 5) := if_neg h
theorem frame_yes (b : List UInt8) (h : 1 ≤ b.length ∧ b.length ≤ 65536) : putF b = (frameN b, 0) := if_pos h

theorem putM_nat (n : Nat) : putM (n : Int) = putN n := by rw [putM, if_neg (by omega), Int.toNat_natCast]

theorem cut (s : List UInt8) (a x y : Nat) : (s.take (a + x + y)).drop (a + x) = ((s.drop a).drop x).take y := by
  rw [List.drop_take, List.drop_drop]
  congr 1
  omega

theorem rdM_at (s : List UInt8) (a : Nat) : rdM s a = match readN (s.drop a) with | some (n, k) => ((n : Int), (a : Int) + k, true) | none => (0, 0, false) := by
  unfold rdM
  rw [if_neg (by omega), Int.toNat_natCast]
  cases readN (s.drop a) <;> rfl

theorem nextF_at (s : List UInt8) (a : Nat) : nextF s a = match nextN (s.drop a) with | .inl (b, k) => (b, (a : Int) + k, 0) | .inr e => ([], 0, e) := by
  unfold nextF
  rw [if_neg (by omega), Int.toNat_natCast]

theorem frameN_len (b : List UInt8) : (frameN b).length = (putN b.length).length + 4 + b.length := by
  simp only [frameN, List.length_append, fourM_len]

theorem openF_big {l : List UInt8} (i : Nat) (h : i < l.length) (hc : l[i].toNat < 128) : openF l = false := by
  have : l.all (fun c => decide (128 ≤ c.toNat)) = false := by
    rw [List.all_eq_false]
    exact ⟨l[i], List.getElem_mem h, by simp; omega⟩
  simp only [openF, this, Bool.and_false]

/-- The last byte of a number is below 128. -/
theorem put_end (n : Nat) : ∃ w c, putN n = w ++ [c] ∧ c.toNat < 128 ∧ ∀ d, d ∈ w → 128 ≤ d.toNat := by
  obtain ⟨w, c, hw⟩ : ∃ w c, putN n = w ++ [c] := ⟨(putN n).dropLast, (putN n).getLast (putN_ne n), (List.dropLast_concat_getLast (putN_ne n)).symm⟩
  have hg := good_put n
  rw [hw] at hg
  have := good_high w c hg
  exact ⟨w, c, hw, this.2, this.1⟩

theorem put_not_open (n : Nat) (rest : List UInt8) : openF (putN n ++ rest) = false := by
  obtain ⟨w, c, hw, hc, _⟩ := put_end n
  refine openF_big w.length (by rw [hw]; simp) ?_
  have e : putN n ++ rest = w ++ ([c] ++ rest) := by rw [hw, List.append_assoc]
  simp only [e]
  simpa using hc

/-- A frame is read, whatever stands behind. -/
theorem next_frame (b rest : List UInt8) (h : 1 ≤ b.length ∧ b.length ≤ 65536) : nextN (frameN b ++ rest) = .inl (b, (frameN b).length) := by
  have hl := frameN_len b
  have e : frameN b ++ rest = putN b.length ++ (fourM (onT 0#32 (putN b.length ++ b)) ++ (b ++ rest)) := by simp only [frameN, List.append_assoc]
  have hr : readN (frameN b ++ rest) = some (b.length, (putN b.length).length) := by rw [e]; exact read_put _ _ (by omega)
  unfold nextN
  have h0 : ¬ ((frameN b ++ rest).length = 0 ∨ openF (frameN b ++ rest) = true) := fun hh => by
    rcases hh with hh | hh
    · simp only [List.length_append] at hh; omega
    · rw [e, put_not_open] at hh; cases hh
  rw [if_neg h0, hr]
  simp only []
  rw [if_neg (by omega), if_neg (by simp only [List.length_append]; omega)]
  have t1 : (frameN b ++ rest).take (putN b.length).length = putN b.length := by rw [e, List.take_left]
  have d1 : (frameN b ++ rest).drop (putN b.length).length = fourM (onT 0#32 (putN b.length ++ b)) ++ (b ++ rest) := by rw [e, List.drop_left]
  have d2 : (frameN b ++ rest).drop ((putN b.length).length + 4) = b ++ rest := by
    rw [← List.drop_drop, d1]
    exact List.drop_left' (fourM_len _)
  have t2 : ((frameN b ++ rest).drop (putN b.length).length).take 4 = fourM (onT 0#32 (putN b.length ++ b)) := by
    rw [d1]
    exact List.take_left' (fourM_len _)
  rw [d2, List.take_left, t1, t2, if_pos rfl, hl]

/-- What is read is a frame. -/
theorem next_some {l : List UInt8} {b : List UInt8} {k : Nat} (h : nextN l = .inl (b, k)) : (1 ≤ b.length ∧ b.length ≤ 65536) ∧ k ≤ l.length ∧ l.take k = frameN b ∧ k = (frameN b).length := by
  unfold nextN at h
  split at h
  · cases h
  · split at h
    · cases h
    · rename_i n k0 hr
      obtain ⟨q1, q2, q3, q4, q5⟩ := read_some hr
      split at h
      · cases h
      · split at h
        · cases h
        · split at h
          · rename_i h1 h2 h3
            cases h
            have hb : ((l.drop (k0 + 4)).take n).length = n := by simp; omega
            have hk : (putN n).length = k0 := by rw [q4]; simp; omega
            have e : l.take (k0 + 4 + n) = l.take k0 ++ (l.drop k0).take 4 ++ (l.drop (k0 + 4)).take n := by
              rw [Nat.add_assoc, List.take_add, List.append_assoc]
              congr 1
              rw [List.take_add, List.drop_drop]
            refine ⟨by omega, by omega, ?_, ?_⟩
            · rw [e, frameN, hb, q4, h3]
            · rw [frameN_len, hb, hk]
          · cases h

/-- Cut off, a frame is short. -/
theorem next_cut (b : List UInt8) (h : 1 ≤ b.length ∧ b.length ≤ 65536) (c : Nat) (hc : c < (frameN b).length) : nextN ((frameN b).take c) = .inr 2 := by
  have hl := frameN_len b
  obtain ⟨w, x, hw, hx, hw2⟩ := put_end b.length
  have hpl := (put_len b.length 2).2 (by omega)
  have hwl : (putN b.length).length = w.length + 1 := by rw [hw]; simp
  have e : frameN b = putN b.length ++ (fourM (onT 0#32 (putN b.length ++ b)) ++ b) := by simp only [frameN, List.append_assoc]
  by_cases h1 : c < (putN b.length).length
  · have et : (frameN b).take c = w.take c := by
      rw [e, List.take_append_of_le_length (by omega), hw, List.take_append_of_le_length (by omega)]
    unfold nextN
    rw [et, if_pos]
    right
    simp only [openF, Bool.and_eq_true, decide_eq_true_eq, List.all_eq_true]
    exact ⟨by simp; omega, fun d hd => hw2 d (List.mem_of_mem_take hd)⟩
  · have et : (frameN b).take c = putN b.length ++ (fourM (onT 0#32 (putN b.length ++ b)) ++ b).take (c - (putN b.length).length) := by
      rw [e, List.take_append, List.take_of_length_le (by omega)]
    have hr : readN ((frameN b).take c) = some (b.length, (putN b.length).length) := by rw [et]; exact read_put _ _ (by omega)
    unfold nextN
    split
    · rfl
    · rw [hr]
      simp only []
      rw [if_neg (by omega), if_pos (by rw [List.length_take]; omega)]

end Go.Proofs.Ytkmlebnkmmkpmaa
