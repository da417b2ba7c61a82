/- Held batches, in plain Lean. -/
import Derived.Test.YtkmlebnkmmkpmaaFrameM
namespace Go.Proofs.Ytkmlebnkmmkpmaa
set_option linter.all false

def inR (n : Int) : Bool := decide (0 ≤ n) && decide (n ≤ 1099511627776)
def rightR (r : GRec) : Bool := inR r.at' && inR r.time && decide (r.data.length ≤ 64)
def bodyR (r : GRec) : List UInt8 := putM r.at' ++ putM r.time ++ r.data
def sizeR (r : GRec) : Nat := if rightR r = true then (frameN (bodyR r)).length else 0
def bytesL (l : List GRec) : Nat := (l.map sizeR).sum
def bytesH (h : List (List GRec)) : Nat := (h.map bytesL).sum
theorem inR_iff {n : Int} : inR n = true ↔ 0 ≤ n ∧ n ≤ 1099511627776 := by simp [inR]
theorem rightR_iff {r : GRec} : rightR r = true ↔ (0 ≤ r.at' ∧ r.at' ≤ 1099511627776) ∧ (0 ≤ r.time ∧ r.time ≤ 1099511627776) ∧ r.data.length ≤ 64 := by
  simp only [rightR, Bool.and_eq_true, inR_iff, decide_eq_true_eq, and_assoc]
theorem putM_short {n : Int} (h : 0 ≤ n ∧ n ≤ 1099511627776) : 1 ≤ (putM n).length ∧ (putM n).length ≤ 6 := by
  rw [putM, if_neg (by omega)]
  have h1 := (put_len n.toNat 5).2 (by have : (128 : Nat) ^ (5 + 1) = 4398046511104 := by decide
                                       omega)
  have h2 : (putN n.toNat).length ≠ 0 := fun e => putN_ne _ (List.length_eq_zero_iff.1 e)
  omega
theorem body_len {r : GRec} (h : rightR r = true) : 2 ≤ (bodyR r).length ∧ (bodyR r).length ≤ 76 := by
  have hr := rightR_iff.1 h
  have h1 := putM_short hr.1
  have h2 := putM_short hr.2.1
  simp only [bodyR, List.length_append]
  omega
theorem size_le (r : GRec) : sizeR r ≤ 90 := by
  unfold sizeR
  split
  · rename_i h
    have := body_len h
    have h1 := (put_len (bodyR r).length 8).2 (by omega)
    rw [frameN_len]
    omega
  · omega
theorem sum_le {α : Type} (f : α → Nat) (k : Nat) (hf : ∀ x, f x ≤ k) (l : List α) : (l.map f).sum ≤ k * l.length := by
  induction l with
  | nil => simp
  | cons x l ih =>
    have := hf x
    rw [List.map_cons, List.sum_cons, List.length_cons, Nat.mul_succ]
    omega
theorem bytesL_le (l : List GRec) : bytesL l ≤ 90 * l.length := sum_le _ _ size_le l
theorem sum_take1 {α : Type} (f : α → Nat) (l : List α) (i : Nat) (hi : i < l.length) : ((l.take (i + 1)).map f).sum = ((l.take i).map f).sum + f l[i] := by
  rw [List.take_succ_eq_append_getElem hi, List.map_append, List.sum_append]; simp

/-- A batch: records in a row. -/
def first (l : List GRec) : Int := match l with | [] => 0 | r :: _ => r.at'
def rowAt (l : List GRec) (i : Nat) : Bool := match l[i]? with
  | none => true
  | some r => rightR r && (r.at' == first l + (i : Int))
def rowB (l : List GRec) : Bool := (List.range l.length).all (rowAt l) && decide (l.length ≤ 64)
theorem row_at {l : List GRec} (h : rowB l = true) (i : Nat) (hi : i < l.length) : rightR l[i] = true ∧ l[i].at' = first l + (i : Int) := by
  simp only [rowB, Bool.and_eq_true] at h
  have := List.all_eq_true.1 h.1 i (by simpa using hi)
  simp only [rowAt, List.getElem?_eq_getElem hi, Bool.and_eq_true, beq_iff_eq] at this
  exact this
theorem row_len {l : List GRec} (h : rowB l = true) : l.length ≤ 64 := by
  simp only [rowB, Bool.and_eq_true, decide_eq_true_eq] at h
  exact h.2
theorem row_first {l : List GRec} (h : rowB l = true) (hn : l ≠ []) : 0 ≤ first l ∧ first l + l.length ≤ 1099511627777 := by
  have hp : 0 < l.length := Nat.pos_of_ne_zero fun e => hn (List.length_eq_zero_iff.1 e)
  have h0 := row_at h 0 hp
  have h1 := row_at h (l.length - 1) (by omega)
  have r0 := (rightR_iff.1 h0.1).1
  have r1 := (rightR_iff.1 h1.1).1
  rw [h0.2] at r0
  rw [h1.2] at r1
  omega
theorem first_get {l : List GRec} (h : 0 < l.length) : l[0].at' = first l := by
  cases l with
  | nil => simp at h
  | cons r l => rfl
theorem row_mk {l : List GRec} (h : ∀ (i : Nat) (hi : i < l.length), rightR l[i] = true ∧ l[i].at' = first l + (i : Int)) (hl : l.length ≤ 64) : rowB l = true := by
  simp only [rowB, Bool.and_eq_true, decide_eq_true_eq]
  refine ⟨List.all_eq_true.2 fun i hi => ?_, hl⟩
  have hi : i < l.length := by simpa using hi
  simp only [rowAt, List.getElem?_eq_getElem hi, Bool.and_eq_true, beq_iff_eq]
  exact h i hi

/-- Held: batches that begin one above the other. -/
def rhAt (h : List (List GRec)) (i : Nat) : Bool := match h[i]? with
  | none => true
  | some l => rowB l && !(l.length == 0) && (match i with
    | 0 => true
    | j + 1 => match h[j]? with
      | none => true
      | some m => decide (first m < first l))
def rightH (h : List (List GRec)) : Bool := (List.range h.length).all (rhAt h)
structure RightH (h : List (List GRec)) : Prop where
  up : h.Pairwise (fun a b => first a < first b)
  row : ∀ l, l ∈ h → rowB l = true ∧ l ≠ []
theorem rightH_at {h : List (List GRec)} (hr : rightH h = true) (i : Nat) (hi : i < h.length) : rhAt h i = true := List.all_eq_true.1 hr i (by simpa using hi)
theorem rightH_iff (h : List (List GRec)) : rightH h = true ↔ RightH h := by
  constructor
  · intro hr
    have hrow : ∀ l, l ∈ h → rowB l = true ∧ l ≠ [] := fun l hl => by
      obtain ⟨i, hi, rfl⟩ := List.mem_iff_getElem.1 hl
      have := rightH_at hr i hi
      simp only [rhAt, List.getElem?_eq_getElem hi, Bool.and_eq_true, Bool.not_eq_true', beq_eq_false_iff_ne, ne_eq, List.length_eq_zero_iff] at this
      exact this.1
    refine ⟨?_, hrow⟩
    have step : ∀ (i : Nat) (hi : i + 1 < h.length), first h[i] < first h[i + 1] := fun i hi => by
      have := rightH_at hr (i + 1) hi
      simp only [rhAt, List.getElem?_eq_getElem hi, List.getElem?_eq_getElem (show i < h.length by omega), Bool.and_eq_true, decide_eq_true_eq] at this
      exact this.2
    rw [List.pairwise_iff_getElem]
    intro i j hi hj hij
    obtain ⟨d, rfl⟩ : ∃ d, j = i + 1 + d := ⟨j - i - 1, by omega⟩
    clear hij
    induction d with
    | zero => exact step i hj
    | succ d ih => exact Int.lt_trans (ih (by omega)) (step (i + 1 + d) hj)
  · intro hr
    refine List.all_eq_true.2 fun i hi => ?_
    have hi : i < h.length := by simpa using hi
    have h1 := hr.row _ (List.getElem_mem hi)
    simp only [rhAt, List.getElem?_eq_getElem hi, Bool.and_eq_true, Bool.not_eq_true', beq_eq_false_iff_ne, ne_eq, List.length_eq_zero_iff]
    refine ⟨h1, ?_⟩
    cases i with
    | zero => rfl
    | succ j =>
      simp only [List.getElem?_eq_getElem (show j < h.length by omega), decide_eq_true_eq]
      exact List.pairwise_iff_getElem.1 hr.up j (j + 1) (by omega) hi (by omega)
theorem right_nilH : RightH [] := ⟨List.Pairwise.nil, fun l hl => by cases hl⟩

/-- One more. -/
def cH (off : Int) (l : List GRec) : Int := first l - off
def putH (h : List (List GRec)) (l : List GRec) (next most bytes : Int) : List (List GRec) :=
  if l = [] ∨ first l ≤ next ∨ (h.length : Int) ≥ most ∨ thereT h (cH (first l)) = true ∨ (bytesH h : Int) + (bytesL l : Int) > bytes then h
  else h.take (idxT h (cH (first l))) ++ [l] ++ h.drop (idxT h (cH (first l)))

/-- What follows on. -/
def takeH : List (List GRec) → Int → List GRec × List (List GRec)
  | [], _ => ([], [])
  | l :: h, next => if first l > next then ([], l :: h) else (l.drop (next - first l).toNat ++ (takeH h (max next (first l + l.length))).1, (takeH h (max next (first l + l.length))).2)

theorem cH_mono {h : List (List GRec)} (hr : RightH h) (off : Int) (i j : Nat) (hi : i < h.length) (hj : j < h.length) (hij : i ≤ j) (hc : cH off h[j] < 0) : cH off h[i] < 0 := by
  rcases Nat.lt_or_ge i j with h1 | h1
  · have := List.pairwise_iff_getElem.1 hr.up i j hi hj h1
    simp only [cH] at hc ⊢
    omega
  · obtain rfl : i = j := by omega
    exact hc

theorem bytesH_cons (l : List GRec) (h : List (List GRec)) : bytesH (l :: h) = bytesL l + bytesH h := by simp [bytesH]
theorem bytesH_app (a b : List (List GRec)) : bytesH (a ++ b) = bytesH a + bytesH b := by simp [bytesH]
theorem bytesH_le {h : List (List GRec)} (hr : RightH h) : bytesH h ≤ 5760 * h.length := by
  have : ∀ (h : List (List GRec)), (∀ l, l ∈ h → rowB l = true) → bytesH h ≤ 5760 * h.length := by
    intro h
    induction h with
    | nil => intro _; simp [bytesH]
    | cons l h ih =>
      intro hr
      have h1 := ih fun m hm => hr m (by simp [hm])
      have h2 := bytesL_le l
      have h3 := row_len (hr l (by simp))
      rw [bytesH_cons, List.length_cons]
      omega
  exact this h fun l hl => (hr.row l hl).1

end Go.Proofs.Ytkmlebnkmmkpmaa
