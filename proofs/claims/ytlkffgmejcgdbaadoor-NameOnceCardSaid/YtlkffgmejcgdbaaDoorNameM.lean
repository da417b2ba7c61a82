/- Digits and names, in plain Lean. -/
import Derived.Test.YtlkffgmejcgdbaaDoorL4
import Derived.Test.YtlkffgmejcgdbaaDoorV
import Derived.Lib.Atoi
namespace Go.Proofs.YtlkffgmejcgdbaaDoor
set_option linter.all false
-- bundled

/-- The letter of a digit. -/
def dg (n : Nat) : UInt8 := UInt8.ofNat (48 + n % 10)
/-- The last digits of a number. -/
def low : Nat → Nat → List UInt8
  | 0, _ => []
  | j + 1, n => dg (n / 10 ^ j) :: low j n
theorem low_len (j n : Nat) : (low j n).length = j := by
  induction j with
  | zero => rfl
  | succ j ih => simp [low, ih]
theorem dg_nat (n : Nat) : (dg n).toNat = 48 + n % 10 := by
  unfold dg
  rw [UInt8.toNat_ofNat']
  omega
/-- The number that digits spell, behind a number. -/
def val (acc : Nat) (l : List UInt8) : Nat := l.foldl (fun n c => n * 10 + (c.toNat - 48)) acc
def isDig (c : UInt8) : Bool := decide (48 ≤ c.toNat) && decide (c.toNat ≤ 57)
theorem isDig_iff {c : UInt8} : isDig c = true ↔ 48 ≤ c.toNat ∧ c.toNat ≤ 57 := by simp [isDig]
theorem isDig_dg (n : Nat) : isDig (dg n) = true := by
  rw [isDig_iff, dg_nat]
  omega
theorem low_digs (j n : Nat) : ∀ c, c ∈ low j n → isDig c = true := by
  induction j with
  | zero => intro c hc; cases hc
  | succ j ih =>
    intro c hc
    rcases List.mem_cons.1 hc with rfl | hc
    · exact isDig_dg _
    · exact ih c hc
theorem val_low (j : Nat) : ∀ (n acc : Nat), val acc (low j n) = acc * 10 ^ j + n % 10 ^ j := by
  induction j with
  | zero => intro n acc; simp [val, low, Nat.mod_one]
  | succ j ih =>
    intro n acc
    have h1 : val acc (low (j + 1) n) = val (acc * 10 + (n / 10 ^ j) % 10) (low j n) := by
      show val (acc * 10 + ((dg (n / 10 ^ j)).toNat - 48)) (low j n) = _
      rw [dg_nat, Nat.add_sub_cancel_left]
    rw [h1, ih]
    have h2 : n % 10 ^ (j + 1) = (n / 10 ^ j % 10) * 10 ^ j + n % 10 ^ j := by
      rw [Nat.pow_succ, Nat.mod_mul, Nat.mul_comm, Nat.add_comm]
    rw [h2, Nat.add_mul, Nat.pow_succ, Nat.mul_assoc, Nat.mul_comm 10 (10 ^ j), Nat.add_assoc]
theorem val_lt : ∀ (l : List UInt8) (acc : Nat), (∀ c, c ∈ l → isDig c = true) → val acc l < (acc + 1) * 10 ^ l.length
  | [], acc, _ => by simp [val]
  | c :: l, acc, h => by
    have h1 := isDig_iff.1 (h c (by simp))
    have h2 := val_lt l (acc * 10 + (c.toNat - 48)) fun d hd => h d (List.mem_cons_of_mem _ hd)
    show val (acc * 10 + (c.toNat - 48)) l < _
    refine Nat.lt_of_lt_of_le h2 ?_
    rw [List.length_cons, Nat.pow_succ, Nat.mul_comm (10 ^ l.length) 10, ← Nat.mul_assoc]
    exact Nat.mul_le_mul_right _ (by omega)
theorem val_split : ∀ (l : List UInt8) (acc : Nat), val acc l = acc * 10 ^ l.length + val 0 l
  | [], acc => by simp [val]
  | c :: l, acc => by
    have h1 := val_split l (acc * 10 + (c.toNat - 48))
    have h2 := val_split l (0 * 10 + (c.toNat - 48))
    show val (acc * 10 + (c.toNat - 48)) l = acc * 10 ^ (l.length + 1) + val (0 * 10 + (c.toNat - 48)) l
    rw [h1, h2, Nat.pow_succ, Nat.mul_comm (10 ^ l.length) 10, ← Nat.mul_assoc, Nat.add_mul, Nat.zero_mul, Nat.zero_add, Nat.add_assoc]
theorem low_val : ∀ (l : List UInt8) (acc : Nat), (∀ c, c ∈ l → isDig c = true) → low l.length (val acc l) = l
  | [], _, _ => rfl
  | c :: l, acc, h => by
    have h1 := isDig_iff.1 (h c (by simp))
    have hd : ∀ d, d ∈ l → isDig d = true := fun d hd => h d (List.mem_cons_of_mem _ hd)
    have h2 := low_val l (acc * 10 + (c.toNat - 48)) hd
    have h3 := val_split l (acc * 10 + (c.toNat - 48))
    have h4 := val_lt l 0 hd
    rw [Nat.zero_add, Nat.one_mul] at h4
    have h5 : val (acc * 10 + (c.toNat - 48)) l / 10 ^ l.length = acc * 10 + (c.toNat - 48) := by
      rw [h3, Nat.mul_comm, Nat.mul_add_div (Nat.pow_pos (by decide)), Nat.div_eq_of_lt h4, Nat.add_zero]
    show dg (val (acc * 10 + (c.toNat - 48)) l / 10 ^ l.length) :: low l.length (val (acc * 10 + (c.toNat - 48)) l) = c :: l
    rw [h2, h5]
    congr 1
    apply UInt8.toNat_inj.1
    rw [dg_nat]
    omega
/-- Greater numbers have greater digits. -/
theorem low_lt (j : Nat) : ∀ (a b : Nat), a < 10 ^ j → b < 10 ^ j → (Op.bytesLess (low j a) (low j b) = decide (a < b)) := by
  induction j with
  | zero =>
    intro a b ha hb
    have : a = 0 ∧ b = 0 := by simp at ha hb; omega
    obtain ⟨rfl, rfl⟩ := this
    rfl
  | succ j ih =>
    intro a b ha hb
    rw [Nat.pow_succ] at ha hb
    have hp : 0 < 10 ^ j := Nat.pow_pos (by decide)
    have low_mod : ∀ n, low j n = low j (n % 10 ^ j) := fun n => by
      have h1 := low_val (low j n) 0 (low_digs j n)
      rw [low_len, val_low, Nat.zero_mul, Nat.zero_add] at h1
      exact h1.symm
    have ha1 : a / 10 ^ j < 10 := Nat.div_lt_of_lt_mul ha
    have hb1 : b / 10 ^ j < 10 := Nat.div_lt_of_lt_mul hb
    have ea : a = 10 ^ j * (a / 10 ^ j) + a % 10 ^ j := (Nat.div_add_mod a _).symm
    have eb : b = 10 ^ j * (b / 10 ^ j) + b % 10 ^ j := (Nat.div_add_mod b _).symm
    have hra : a % 10 ^ j < 10 ^ j := Nat.mod_lt _ hp
    have hrb : b % 10 ^ j < 10 ^ j := Nat.mod_lt _ hp
    have hi := ih (a % 10 ^ j) (b % 10 ^ j) hra hrb
    obtain ⟨qa, hqa⟩ : ∃ q, a / 10 ^ j = q := ⟨_, rfl⟩
    obtain ⟨qb, hqb⟩ : ∃ q, b / 10 ^ j = q := ⟨_, rfl⟩
    show (decide (dg (a / 10 ^ j) < dg (b / 10 ^ j)) || (dg (a / 10 ^ j) == dg (b / 10 ^ j) && Op.bytesLess (low j a) (low j b))) = decide (a < b)
    rw [low_mod a, low_mod b, hi, hqa, hqb]
    rw [hqa] at ea ha1
    rw [hqb] at eb hb1
    have hd : decide (dg qa < dg qb) = decide (qa < qb) := by
      rw [decide_eq_decide, UInt8.lt_iff_toNat_lt, dg_nat, dg_nat]
      omega
    have hq : (dg qa == dg qb) = decide (qa = qb) := by
      rw [Bool.eq_iff_iff, beq_iff_eq, decide_eq_true_eq, ← UInt8.toNat_inj, dg_nat, dg_nat]
      omega
    rw [hd, hq]
    rcases Nat.lt_trichotomy qa qb with h | h | h
    · have h1 : 10 ^ j * (qa + 1) ≤ 10 ^ j * qb := Nat.mul_le_mul_left _ h
      rw [Nat.mul_add, Nat.mul_one] at h1
      rw [decide_eq_true h, decide_eq_true (show a < b by omega)]
      rfl
    · subst h
      rw [decide_eq_false (Nat.lt_irrefl _), decide_eq_true (rfl : qa = qa), Bool.false_or, Bool.true_and, decide_eq_decide]
      omega
    · have h1 : 10 ^ j * (qb + 1) ≤ 10 ^ j * qa := Nat.mul_le_mul_left _ h
      rw [Nat.mul_add, Nat.mul_one] at h1
      rw [decide_eq_false (show ¬ qa < qb by omega), decide_eq_false (show ¬ qa = qb by omega), decide_eq_false (show ¬ a < b by omega)]
      rfl

/-- A name: a letter, and thirteen digits. -/
def nameM (c : UInt8) (at' : Int) : List UInt8 := if 0 ≤ at' ∧ at' ≤ 1099511627776 then c :: low 13 at'.toNat else []
/-- What a text is the name of. -/
def isNum (s : List UInt8) : Bool := decide (s.length = 14) && ((s.headD 0 == 115 || s.headD 0 == 116) && (s.tail.all isDig && decide (val 0 s.tail ≤ 1099511627776)))
def kindM (s : List UInt8) : UInt8 × Int := if s = [109] ∨ s = [110] then (s.headD 0, 0) else if isNum s = true then (s.headD 0, (val 0 s.tail : Nat)) else (0, 0)

/-- The library's reading of a numeral. -/
theorem dec_val : ∀ (l : List UInt8) (acc : Nat), (∀ c, c ∈ l → isDig c = true) → Lib.decFrom acc l = some (val acc l)
  | [], _, _ => rfl
  | c :: l, acc, h => by
    have h1 := isDig_iff.1 (h c (by simp))
    simp only [Lib.decFrom, Lib.digitVal, if_pos h1]
    exact dec_val l _ fun d hd => h d (List.mem_cons_of_mem _ hd)
theorem dec_none : ∀ (l : List UInt8) (acc : Nat), l.all isDig = false → Lib.decFrom acc l = none
  | [], _, h => by cases h
  | c :: l, acc, h => by
    rw [List.all_cons, Bool.and_eq_false_iff] at h
    cases hc : isDig c
    · have h1 : ¬ (48 ≤ c.toNat ∧ c.toNat ≤ 57) := fun hh => by rw [isDig_iff.2 hh] at hc; cases hc
      simp only [Lib.decFrom, Lib.digitVal, if_neg h1]
    · have h1 := isDig_iff.1 hc
      simp only [Lib.decFrom, Lib.digitVal, if_pos h1]
      exact dec_none l _ (h.resolve_left (by rw [hc]; decide))
theorem atoi_val {l : List UInt8} (h0 : l ≠ []) (h : l.all isDig = true) : Lib.atoi l = some (val 0 l : Nat) := by
  cases l with
  | nil => exact absurd rfl h0
  | cons c l =>
    rw [List.all_eq_true] at h
    have h1 := isDig_iff.1 (h c (by simp))
    have n1 : (c == 45) = false := by
      rw [beq_eq_false_iff_ne]
      intro e; subst e; revert h1; decide
    have n2 : (c == 43) = false := by
      rw [beq_eq_false_iff_ne]
      intro e; subst e; revert h1; decide
    unfold Lib.atoi
    simp only [n1, n2, Bool.false_eq_true, if_false]
    rw [Lib.decNat, if_neg (by simp), dec_val _ 0 h]
    rfl
theorem atoi_none {c : UInt8} {l : List UInt8} (n1 : (c == 45) = false) (n2 : (c == 43) = false) (h : (c :: l).all isDig = false) : Lib.atoi (c :: l) = none := by
  unfold Lib.atoi
  simp only [n1, n2, Bool.false_eq_true, if_false]
  rw [Lib.decNat, if_neg (by simp), dec_none _ 0 h]
  rfl

end Go.Proofs.YtlkffgmejcgdbaaDoor
