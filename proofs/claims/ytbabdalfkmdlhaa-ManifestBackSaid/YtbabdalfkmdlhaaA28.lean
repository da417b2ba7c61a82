/- Words of bits: what Go's operations on unsigned integers are on bit vectors. Of no program. -/
import Derived.Test.YtbabdalfkmdlhaaA27
namespace Go.Proofs.Ytbabdalfkmdlhaa
set_option linter.all false

theorem ofInt_nat32 (x : BitVec 32) : BitVec.ofInt 32 (x.toNat : Int) = x := by simp
theorem ofInt_nat8 (x : UInt8) : BitVec.ofInt 8 (x.toNat : Int) = x.toBitVec := by
  apply BitVec.eq_of_toNat_eq
  simp
theorem ofInt_nat64 (x : BitVec 64) : BitVec.ofInt 64 (x.toNat : Int) = x := by simp

theorem wrap32 (x : BitVec 32) : IntKind.u32.wrap (x.toNat : Int) = (x.toNat : Int) := by
  have := x.isLt
  exact IntWalk.u32_in _ (by omega)
theorem wrap8 (x : BitVec 8) : IntKind.u8.wrap (x.toNat : Int) = (x.toNat : Int) := by
  have := x.isLt
  exact IntWalk.u8_in _ (by omega)
theorem wrap64 (x : BitVec 64) : IntKind.u64.wrap (x.toNat : Int) = (x.toNat : Int) := by
  have := x.isLt
  exact IntWalk.u64_in _ (by omega)

theorem and8 (a b : Int) (H : AHeap) : aInt .and .u8 a .u8 b H = ⟨True, .int .u8 ((BitVec.ofInt 8 a &&& BitVec.ofInt 8 b).toNat : Nat), H⟩ := by
  simp only [aInt, true_and, R.mk.injEq, D.int.injEq, and_true]
  exact wrap8 _
theorem or8 (a b : Int) (H : AHeap) : aInt .or .u8 a .u8 b H = ⟨True, .int .u8 ((BitVec.ofInt 8 a ||| BitVec.ofInt 8 b).toNat : Nat), H⟩ := by
  simp only [aInt, true_and, R.mk.injEq, D.int.injEq, and_true]
  exact wrap8 _
theorem xor8 (a b : Int) (H : AHeap) : aInt .xor .u8 a .u8 b H = ⟨True, .int .u8 ((BitVec.ofInt 8 a ^^^ BitVec.ofInt 8 b).toNat : Nat), H⟩ := by
  simp only [aInt, true_and, R.mk.injEq, D.int.injEq, and_true]
  exact wrap8 _
theorem and32 (a b : Int) (H : AHeap) : aInt .and .u32 a .u32 b H = ⟨True, .int .u32 ((BitVec.ofInt 32 a &&& BitVec.ofInt 32 b).toNat : Nat), H⟩ := by
  simp only [aInt, true_and, R.mk.injEq, D.int.injEq, and_true]
  exact wrap32 _
theorem or32 (a b : Int) (H : AHeap) : aInt .or .u32 a .u32 b H = ⟨True, .int .u32 ((BitVec.ofInt 32 a ||| BitVec.ofInt 32 b).toNat : Nat), H⟩ := by
  simp only [aInt, true_and, R.mk.injEq, D.int.injEq, and_true]
  exact wrap32 _
theorem xor32 (a b : Int) (H : AHeap) : aInt .xor .u32 a .u32 b H = ⟨True, .int .u32 ((BitVec.ofInt 32 a ^^^ BitVec.ofInt 32 b).toNat : Nat), H⟩ := by
  simp only [aInt, true_and, R.mk.injEq, D.int.injEq, and_true]
  exact wrap32 _
theorem and64 (a b : Int) (H : AHeap) : aInt .and .u64 a .u64 b H = ⟨True, .int .u64 ((BitVec.ofInt 64 a &&& BitVec.ofInt 64 b).toNat : Nat), H⟩ := by
  simp only [aInt, true_and, R.mk.injEq, D.int.injEq, and_true]
  exact wrap64 _
theorem or64 (a b : Int) (H : AHeap) : aInt .or .u64 a .u64 b H = ⟨True, .int .u64 ((BitVec.ofInt 64 a ||| BitVec.ofInt 64 b).toNat : Nat), H⟩ := by
  simp only [aInt, true_and, R.mk.injEq, D.int.injEq, and_true]
  exact wrap64 _
theorem xor64 (a b : Int) (H : AHeap) : aInt .xor .u64 a .u64 b H = ⟨True, .int .u64 ((BitVec.ofInt 64 a ^^^ BitVec.ofInt 64 b).toNat : Nat), H⟩ := by
  simp only [aInt, true_and, R.mk.injEq, D.int.injEq, and_true]
  exact wrap64 _

theorem fdiv_nat (a b : Nat) : (a : Int).fdiv (b : Int) = ((a / b : Nat) : Int) := by
  rw [Int.fdiv_eq_ediv_of_nonneg _ (Int.natCast_nonneg _)]; rfl

theorem shr32 (x : BitVec 32) (n : Nat) : (x.toNat : Int).fdiv (2 ^ min n 32) = ((x >>> n).toNat : Int) := by
  have e : ((2 : Int) ^ min n 32) = ((2 ^ min n 32 : Nat) : Int) := by norm_cast
  rw [e, fdiv_nat, BitVec.toNat_ushiftRight, Nat.shiftRight_eq_div_pow]
  by_cases h : n ≤ 32
  · rw [Nat.min_eq_left h]
  · have hx := x.isLt
    rw [Nat.min_eq_right (by omega), Nat.div_eq_of_lt hx, Nat.div_eq_of_lt (Nat.lt_of_lt_of_le hx (Nat.pow_le_pow_right (by decide) (by omega)))]
theorem shr64 (x : BitVec 64) (n : Nat) : (x.toNat : Int).fdiv (2 ^ min n 64) = ((x >>> n).toNat : Int) := by
  have e : ((2 : Int) ^ min n 64) = ((2 ^ min n 64 : Nat) : Int) := by norm_cast
  rw [e, fdiv_nat, BitVec.toNat_ushiftRight, Nat.shiftRight_eq_div_pow]
  by_cases h : n ≤ 64
  · rw [Nat.min_eq_left h]
  · have hx := x.isLt
    rw [Nat.min_eq_right (by omega), Nat.div_eq_of_lt hx, Nat.div_eq_of_lt (Nat.lt_of_lt_of_le hx (Nat.pow_le_pow_right (by decide) (by omega)))]

theorem neg32 (a : Int) (H : AHeap) : aUn .neg (.int .u32 a) H = ⟨True, .int .u32 ((-BitVec.ofInt 32 a).toNat : Nat), H⟩ := by
  simp only [aUn, R.mk.injEq, D.int.injEq, and_true, true_and]
  rw [BitVec.toNat_neg, BitVec.toNat_ofInt]
  simp only [IntKind.wrap, IntKind.bits, IntKind.signed]
  simp
  omega
theorem not32 (a : Int) (H : AHeap) : aUn .xor (.int .u32 a) H = ⟨True, .int .u32 ((~~~BitVec.ofInt 32 a).toNat : Nat), H⟩ := by
  simp only [aUn, R.mk.injEq, D.int.injEq, and_true, true_and]
  rw [← BitVec.allOnes_xor]
  exact wrap32 _

theorem low32 (a : Int) : IntKind.u32.wrap a = ((BitVec.ofInt 32 a).toNat : Int) := by
  simp only [IntKind.wrap, IntKind.bits, IntKind.signed, BitVec.toNat_ofInt]
  simp
  omega
theorem low8 (a : Int) : IntKind.u8.wrap a = ((UInt8.ofInt a).toNat : Int) := by
  simp only [IntKind.wrap, IntKind.bits, IntKind.signed]
  simp [UInt8.ofInt]
  omega

theorem u8_u32 (b : UInt8) : IntKind.u32.wrap (b.toNat : Int) = (b.toNat : Int) := IntWalk.u32_in _ (by have := b.toNat_lt; omega)
theorem u8_u64 (b : UInt8) : IntKind.u64.wrap (b.toNat : Int) = (b.toNat : Int) := IntWalk.u64_in _ (by have := b.toNat_lt; omega)
theorem u8_i64 (b : UInt8) : IntKind.i64.wrap (b.toNat : Int) = (b.toNat : Int) := IntWalk.i64_in _ (by have := b.toNat_lt; omega)
theorem u8_u8 (b : UInt8) : IntKind.u8.wrap (b.toNat : Int) = (b.toNat : Int) := IntWalk.u8_in _ (by have := b.toNat_lt; omega)

theorem u32_of {n : Int} (h : okInt .u32 n) : ∃ x : BitVec 32, n = (x.toNat : Int) := by
  obtain ⟨h1, h2⟩ := h
  rw [min_u32] at h1
  rw [max_u32] at h2
  refine ⟨BitVec.ofNat 32 n.toNat, ?_⟩
  rw [BitVec.toNat_ofNat, Nat.mod_eq_of_lt (by omega)]
  omega
theorem u64_of {n : Int} (h : okInt .u64 n) : ∃ x : BitVec 64, n = (x.toNat : Int) := by
  obtain ⟨h1, h2⟩ := h
  rw [min_u64] at h1
  rw [max_u64] at h2
  refine ⟨BitVec.ofNat 64 n.toNat, ?_⟩
  rw [BitVec.toNat_ofNat, Nat.mod_eq_of_lt (by omega)]
  omega

theorem quo_i64 {a b : Int} (h : 0 ≤ a) (h2 : a ≤ 9223372036854775807) (hb : 0 < b) : IntKind.i64.wrap (a.tdiv b) = a / b := by
  rw [Int.tdiv_eq_ediv_of_nonneg h]
  exact IntWalk.i64_in _ ⟨by have := Int.ediv_nonneg h (Int.le_of_lt hb); omega, by have := Int.ediv_le_self b h; omega⟩
theorem quo_u64 {a b : Int} (h : 0 ≤ a) (h2 : a ≤ 18446744073709551615) (hb : 0 < b) : IntKind.u64.wrap (a.tdiv b) = a / b := by
  rw [Int.tdiv_eq_ediv_of_nonneg h]
  exact IntWalk.u64_in _ ⟨by have := Int.ediv_nonneg h (Int.le_of_lt hb); omega, by have := Int.ediv_le_self b h; omega⟩

theorem toNat32_inj {x y : BitVec 32} : ((x.toNat : Int) == (y.toNat : Int)) = (x == y) := by
  rw [Bool.eq_iff_iff, beq_iff_eq, beq_iff_eq, Int.ofNat_inj]
  exact ⟨BitVec.eq_of_toNat_eq, fun h => h ▸ rfl⟩
theorem toNat32_ne {x y : BitVec 32} : ((x.toNat : Int) != (y.toNat : Int)) = (x != y) := by
  simp only [bne, toNat32_inj]

end Go.Proofs.Ytbabdalfkmdlhaa
