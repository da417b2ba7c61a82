/- Sums of texts, in plain Lean: fast is plain, parts are the whole, a burst is seen. -/
import Derived.Test.YtkmlebnkmmkpmaaCrc
namespace Go.Proofs.Ytkmlebnkmmkpmaa
set_option linter.all false
-- bundled

abbrev poly : BitVec 32 := BitVec.ofInt 32 2197175160

theorem and_one (x : BitVec 32) : x &&& BitVec.ofInt 32 1 = if x.getLsbD 0 then 1#32 else 0#32 := by
  apply BitVec.eq_of_toNat_eq
  rw [BitVec.toNat_and, show (BitVec.ofInt 32 1).toNat = 1 from rfl, Nat.and_one_is_mod]
  have h : x.getLsbD 0 = decide (x.toNat % 2 = 1) := by
    rw [BitVec.getLsbD, Nat.testBit_zero]
  rw [h]
  by_cases c : x.toNat % 2 = 1
  · simp [c]
  · have : x.toNat % 2 = 0 := by omega
    simp [this]

theorem step_if (x : BitVec 32) : step1 x = x >>> 1 ^^^ (if x.getLsbD 0 then poly else 0#32) := by
  rw [step1, and_one]
  cases x.getLsbD 0
  · congr 1
  · congr 1

theorem step_xor (x y : BitVec 32) : step1 (x ^^^ y) = step1 x ^^^ step1 y := by
  simp only [step_if, BitVec.getLsbD_xor, BitVec.ushiftRight_xor_distrib]
  generalize x >>> 1 = a
  generalize y >>> 1 = b
  cases x.getLsbD 0 <;> cases y.getLsbD 0
  · show a ^^^ b ^^^ 0#32 = a ^^^ 0#32 ^^^ (b ^^^ 0#32)
    simp only [BitVec.xor_zero]
  · show a ^^^ b ^^^ poly = a ^^^ 0#32 ^^^ (b ^^^ poly)
    rw [BitVec.xor_zero, BitVec.xor_assoc]
  · show a ^^^ b ^^^ poly = a ^^^ poly ^^^ (b ^^^ 0#32)
    rw [BitVec.xor_zero, BitVec.xor_assoc, BitVec.xor_comm b poly, BitVec.xor_assoc]
  · show a ^^^ b ^^^ 0#32 = a ^^^ poly ^^^ (b ^^^ poly)
    rw [BitVec.xor_assoc a poly, BitVec.xor_comm poly (b ^^^ poly), BitVec.xor_assoc b, BitVec.xor_self, BitVec.xor_zero, BitVec.xor_zero]

theorem stepN_xor (n : Nat) (x y : BitVec 32) : stepN n (x ^^^ y) = stepN n x ^^^ stepN n y := by
  induction n with
  | zero => rfl
  | succ n ih => simp only [stepN, ih, step_xor]

theorem stepN_add (m n : Nat) (x : BitVec 32) : stepN m (stepN n x) = stepN (n + m) x := by
  induction m with
  | zero => rfl
  | succ m ih => rw [stepN, ih]; rfl

theorem step_zero : step1 0#32 = 0#32 := by decide
theorem stepN_zero (n : Nat) : stepN n 0#32 = 0#32 := by
  induction n with
  | zero => rfl
  | succ n ih => rw [stepN, ih, step_zero]

theorem step_shift (y : BitVec 32) (h : y.toNat < 2 ^ 31) : step1 (y <<< 1) = y := by
  rw [step_if]
  have : (y <<< 1).getLsbD 0 = false := by simp
  rw [this]
  simp only [Bool.false_eq_true, if_false, BitVec.xor_zero]
  apply BitVec.eq_of_toNat_eq
  simp [BitVec.toNat_shiftLeft, Nat.shiftLeft_eq, Nat.shiftRight_eq_div_pow]
  omega

theorem stepN_shift (k : Nat) (y : BitVec 32) (hk : k ≤ 32) (h : y.toNat < 2 ^ (32 - k)) : stepN k (y <<< k) = y := by
  induction k with
  | zero => simp [stepN]
  | succ k ih =>
    rw [show k + 1 = 1 + k from Nat.add_comm k 1, ← stepN_add k 1, show stepN 1 (y <<< (1 + k)) = step1 (y <<< (1 + k)) from rfl]
    have e : y <<< (1 + k) = (y <<< k) <<< 1 := by rw [Nat.add_comm 1 k, BitVec.shiftLeft_add]
    have hp : 2 ^ (32 - (k + 1)) * 2 ^ k = 2 ^ 31 := by rw [← Nat.pow_add]; congr 1; omega
    have hlt : y.toNat * 2 ^ k < 2 ^ 31 := by rw [← hp]; exact Nat.mul_lt_mul_of_pos_right h (Nat.two_pow_pos k)
    have hs : (y <<< k).toNat < 2 ^ 31 := by
      rw [BitVec.toNat_shiftLeft, Nat.shiftLeft_eq]
      exact Nat.lt_of_le_of_lt (Nat.mod_le _ _) hlt
    rw [e, step_shift _ hs]
    exact ih (by omega) (Nat.lt_of_lt_of_le h (Nat.pow_le_pow_right (by decide) (by omega)))

theorem and_15 (x : BitVec 32) : (x &&& BitVec.ofInt 32 15).toNat = x.toNat % 16 := by
  rw [BitVec.toNat_and, show (BitVec.ofInt 32 15).toNat = 2 ^ 4 - 1 from rfl, Nat.and_two_pow_sub_one_eq_mod]

theorem split4 (x : BitVec 32) : x = (x >>> 4) <<< 4 ^^^ (x &&& BitVec.ofInt 32 15) := by
  apply BitVec.eq_of_getLsbD_eq
  intro i hi
  have h15 : (x &&& BitVec.ofInt 32 15).getLsbD i = (decide (i < 4) && x.getLsbD i) := by
    rw [BitVec.getLsbD, and_15, show 16 = 2 ^ 4 from rfl, Nat.testBit_mod_two_pow]; rfl
  rw [BitVec.getLsbD_xor, h15, BitVec.getLsbD_shiftLeft, BitVec.getLsbD_ushiftRight]
  by_cases c : i < 4
  · simp [c]
  · have : 4 + (i - 4) = i := by omega
    simp [c, hi, this]

theorem four_step (x : BitVec 32) : four x = stepN 4 x := by
  have h := congrArg (stepN 4) (split4 x)
  rw [stepN_xor, stepN_shift 4 (x >>> 4) (by decide) (by
    have := x.isLt
    rw [BitVec.toNat_ushiftRight, Nat.shiftRight_eq_div_pow]; omega)] at h
  rw [h, four, tab]
  congr 2
  exact BitVec.eq_of_toNat_eq (by simp)

theorem half_step (x : BitVec 32) : half x = step1 x := by
  have hs : x >>> 1 = BitVec.ofNat 32 (x.toNat / 2) := by
    apply BitVec.eq_of_toNat_eq
    have := x.isLt
    simp [Nat.shiftRight_eq_div_pow]
    omega
  have h : x.getLsbD 0 = decide (x.toNat % 2 = 1) := by
    rw [BitVec.getLsbD, Nat.testBit_zero]
  rw [step_if, half, hs, h]
  by_cases c : x.toNat % 2 = 1
  · have e : ((x.toNat : Int) % 2 == 1) = true := by rw [beq_iff_eq]; omega
    simp [c, e]
  · have e : ((x.toNat : Int) % 2 == 1) = false := by rw [beq_eq_false_iff_ne]; omega
    simp [c, e]

theorem halfN_step (n : Nat) (x : BitVec 32) : halfN n x = stepN n x := by
  induction n with
  | zero => rfl
  | succ n ih => rw [halfN, stepN, ih, half_step]

theorem onT_eq (sum : BitVec 32) (s : List UInt8) : onT sum s = onR sum s := by
  have e : (fun (x : BitVec 32) (b : UInt8) => four (four (feed x b))) = fun x b => halfN 8 (feed x b) := by
    funext x b
    rw [four_step, four_step, stepN_add, halfN_step]
  rw [onT, onR, e]

theorem onT_nil (x : BitVec 32) : onT x [] = x := by simp [onT]
theorem onT_append (x : BitVec 32) (a b : List UInt8) : onT x (a ++ b) = onT (onT x a) b := by
  simp [onT, List.foldl_append]

def sumM (l : List (List UInt8)) : BitVec 32 := l.foldl onT 0#32

end Go.Proofs.Ytkmlebnkmmkpmaa
