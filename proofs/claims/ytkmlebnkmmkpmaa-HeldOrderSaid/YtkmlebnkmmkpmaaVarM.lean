/- Numbers in bytes, in plain Lean: what is put, what is read. -/
import Derived.Test.YtkmlebnkmmkpmaaV
namespace Go.Proofs.Ytkmlebnkmmkpmaa
set_option linter.all false

def putN (n : Nat) : List UInt8 := if h : n < 128 then [UInt8.ofNat n] else UInt8.ofNat (128 + n % 128) :: putN (n / 128)
termination_by n
decreasing_by omega

theorem putN_small {n : Nat} (h : n < 128) : putN n = [UInt8.ofNat n] := by rw [putN, dif_pos h]
theorem putN_big {n : Nat} (h : ¬ n < 128) : putN n = UInt8.ofNat (128 + n % 128) :: putN (n / 128) := by rw [putN, dif_neg h]

def valN : List UInt8 → Nat
  | [] => 0
  | c :: r => c.toNat % 128 + 128 * valN r

/-- Bytes that a number has. -/
def goodN : List UInt8 → Prop
  | [] => False
  | [c] => c.toNat < 128
  | c :: d :: r => 128 ≤ c.toNat ∧ goodN (d :: r) ∧ (r = [] → d ≠ 0)

theorem putN_ne (n : Nat) : putN n ≠ [] := by
  by_cases h : n < 128
  · rw [putN_small h]; simp
  · rw [putN_big h]; simp

theorem putN_pos (n : Nat) : 0 < (putN n).length := List.length_pos_iff.2 (putN_ne n)

theorem val_put (n : Nat) : valN (putN n) = n := by
  induction n using Nat.strongRecOn with
  | _ n ih =>
    by_cases h : n < 128
    · rw [putN_small h]
      simp only [valN, UInt8.toNat_ofNat']
      omega
    · rw [putN_big h]
      simp only [valN, UInt8.toNat_ofNat', ih (n / 128) (by omega)]
      omega

theorem good_put (n : Nat) : goodN (putN n) := by
  induction n using Nat.strongRecOn with
  | _ n ih =>
    by_cases h : n < 128
    · rw [putN_small h]
      simp only [goodN, UInt8.toNat_ofNat']
      omega
    · have hi := ih (n / 128) (by omega)
      rw [putN_big h]
      cases hp : putN (n / 128) with
      | nil => exact absurd hp (putN_ne _)
      | cons d r =>
        rw [hp] at hi
        refine ⟨by rw [UInt8.toNat_ofNat']; omega, hi, fun hr hd => ?_⟩
        subst hr
        have := val_put (n / 128)
        rw [hp, hd] at this
        simp [valN] at this
        omega

theorem put_val : ∀ (w : List UInt8), goodN w → putN (valN w) = w ∧ ((∃ c, w = [c]) ∨ 1 ≤ valN w)
  | [], h => h.elim
  | [c], h => by
    have h : c.toNat < 128 := h
    refine ⟨?_, .inl ⟨c, rfl⟩⟩
    have e : valN [c] = c.toNat := by simp [valN]; omega
    rw [e, putN_small h]
    simp
  | c :: d :: r, h => by
    obtain ⟨h1, h2, h3⟩ := h
    obtain ⟨h4, h5⟩ := put_val (d :: r) h2
    have hpos : 1 ≤ valN (d :: r) := by
      rcases h5 with ⟨x, hx⟩ | h5
      · obtain ⟨rfl, rfl⟩ : d = x ∧ r = [] := by simpa using hx
        have hd : d.toNat < 128 := h2
        have hne := h3 rfl
        have : d.toNat ≠ 0 := fun h0 => hne (UInt8.toNat_inj.1 (by simpa using h0))
        simp [valN]; omega
      · exact h5
    have hc := c.toNat_lt
    refine ⟨?_, .inr (by simp only [valN] at hpos ⊢; omega)⟩
    have e : valN (c :: d :: r) = c.toNat % 128 + 128 * valN (d :: r) := rfl
    rw [e, putN_big (by omega), show (c.toNat % 128 + 128 * valN (d :: r)) / 128 = valN (d :: r) by omega, h4]
    congr 1
    have : 128 + (c.toNat % 128 + 128 * valN (d :: r)) % 128 = c.toNat := by omega
    rw [this]
    simp

theorem val_lt (w : List UInt8) : valN w < 128 ^ w.length := by
  induction w with
  | nil => simp [valN]
  | cons c r ih =>
    simp only [valN, List.length_cons, Nat.pow_succ]
    omega

theorem put_len (n k : Nat) : (putN n).length ≤ k + 1 ↔ n < 128 ^ (k + 1) := by
  induction k generalizing n with
  | zero =>
    by_cases h : n < 128
    · rw [putN_small h]; simpa using h
    · rw [putN_big h]
      have := putN_pos (n / 128)
      simp only [List.length_cons, Nat.zero_add, Nat.pow_one]
      omega
  | succ k ih =>
    by_cases h : n < 128
    · rw [putN_small h]
      have : 128 ^ 1 ≤ 128 ^ (k + 1 + 1) := Nat.pow_le_pow_right (by decide) (by omega)
      simp
      omega
    · rw [putN_big h]
      have := ih (n / 128)
      have e : 128 ^ (k + 1 + 1) = 128 ^ (k + 1) * 128 := Nat.pow_succ _ _
      simp only [List.length_cons]
      omega

theorem put_mono {a b : Nat} (h : a ≤ b) : (putN a).length ≤ (putN b).length := by
  have hb := putN_pos b
  obtain ⟨k, hk⟩ : ∃ k, (putN b).length = k + 1 := ⟨(putN b).length - 1, by omega⟩
  have h1 := (put_len b k).1 (by omega)
  have h2 := (put_len a k).2 (by omega)
  omega

/-- One byte more. -/
theorem val_snoc (w : List UInt8) (c : UInt8) : valN (w ++ [c]) = valN w + c.toNat % 128 * 128 ^ w.length := by
  induction w with
  | nil => simp [valN]
  | cons d r ih =>
    simp only [List.cons_append, valN, ih, List.length_cons, Nat.pow_succ, Nat.mul_add]
    have : 128 * (c.toNat % 128 * 128 ^ r.length) = c.toNat % 128 * (128 ^ r.length * 128) := by
      rw [Nat.mul_comm 128, Nat.mul_assoc]
    omega

theorem or_ne {w : List UInt8} {c : UInt8} (h : w = [] ∨ c ≠ 0) (hw : w ≠ []) : c ≠ 0 := h.resolve_left hw

theorem good_snoc : ∀ (w : List UInt8) (c : UInt8), (∀ d, d ∈ w → 128 ≤ d.toNat) → c.toNat < 128 → (w = [] ∨ c ≠ 0) → goodN (w ++ [c])
  | [], c, _, hc, _ => hc
  | [d], c, hw, hc, h0 => ⟨hw d (by simp), hc, fun _ => or_ne h0 (by simp)⟩
  | d :: e :: r, c, hw, hc, h0 => by
    have h1 := good_snoc (e :: r) c (fun x hx => hw x (by simp [hx])) hc (.inr (or_ne h0 (by simp)))
    exact ⟨hw d (by simp), h1, fun h => by simp at h⟩

theorem good_bad : ∀ (w : List UInt8), w ≠ [] → ¬ goodN (w ++ [0])
  | [], h, _ => h rfl
  | [d], _, h => h.2.2 rfl rfl
  | d :: e :: r, _, h => good_bad (e :: r) (by simp) h.2.1

theorem good_high : ∀ (w : List UInt8) (c : UInt8), goodN (w ++ [c]) → (∀ d, d ∈ w → 128 ≤ d.toNat) ∧ c.toNat < 128
  | [], c, h => ⟨fun d hd => (List.not_mem_nil hd).elim, h⟩
  | [d], c, h => by
    refine ⟨fun x hx => ?_, h.2.1⟩
    have : x = d := by simpa using hx
    subst this
    exact h.1
  | d :: e :: r, c, h => by
    have := good_high (e :: r) c h.2.1
    refine ⟨fun x hx => ?_, this.2⟩
    rcases List.mem_cons.1 hx with hx | hx
    · subst hx; exact h.1
    · exact this.1 x hx

theorem val_take (l : List UInt8) (i : Nat) (h : i < l.length) : valN (l.take (i + 1)) = valN (l.take i) + l[i].toNat % 128 * 128 ^ i := by
  rw [List.take_succ_eq_append_getElem h, val_snoc, List.length_take, Nat.min_eq_left (by omega)]

/-- What is read of bytes: nothing, or a number and how many bytes it has. -/
def scanN (l : List UInt8) : Nat → Nat → Option (Nat × Nat)
  | 0, _ => none
  | f + 1, i => match l[i]? with
    | none => none
    | some c => if 128 ≤ c.toNat then scanN l f (i + 1) else if c = 0 ∧ 0 < i then none else some (valN (l.take (i + 1)), i + 1)

def readN (l : List UInt8) : Option (Nat × Nat) := scanN l 9 0

theorem scan_high (l : List UInt8) (f i : Nat) (h : i < l.length) (hc : 128 ≤ l[i].toNat) : scanN l (f + 1) i = scanN l f (i + 1) := by
  rw [scanN, List.getElem?_eq_getElem h]
  simp only [if_pos hc]
theorem scan_bad (l : List UInt8) (f i : Nat) (h : i < l.length) (hc : l[i] = 0) (hi : 0 < i) : scanN l (f + 1) i = none := by
  rw [scanN, List.getElem?_eq_getElem h]
  simp [hc, hi]
theorem scan_good (l : List UInt8) (f i : Nat) (h : i < l.length) (hc : l[i].toNat < 128) (hi : i = 0 ∨ l[i] ≠ 0) : scanN l (f + 1) i = some (valN (l.take (i + 1)), i + 1) := by
  rw [scanN, List.getElem?_eq_getElem h]
  have h1 : ¬ 128 ≤ l[i].toNat := by omega
  have h2 : ¬ (l[i] = 0 ∧ 0 < i) := fun ⟨a, b⟩ => by
    rcases hi with hi | hi
    · omega
    · exact hi a
  simp only [if_neg h1, if_neg h2]
theorem scan_end (l : List UInt8) (f i : Nat) (h : l.length ≤ i) : scanN l f i = none := by
  cases f with
  | zero => rfl
  | succ f => rw [scanN, List.getElem?_eq_none h]

/-- What is found. -/
theorem scan_some : ∀ (f i : Nat) (l : List UInt8) (n k : Nat), (∀ j (h : j < l.length), j < i → 128 ≤ l[j].toNat) → scanN l f i = some (n, k) → i < k ∧ k ≤ l.length ∧ k ≤ i + f ∧ goodN (l.take k) ∧ n = valN (l.take k)
  | 0, _, _, _, _, _, h => by simp [scanN] at h
  | f + 1, i, l, n, k, hj, h => by
    by_cases hi : i < l.length
    · by_cases hc : 128 ≤ l[i].toNat
      · rw [scan_high l f i hi hc] at h
        have := scan_some f (i + 1) l n k (fun j hl hlt => by
          by_cases c : j = i
          · subst c; exact hc
          · exact hj j hl (by omega)) h
        obtain ⟨a, b, c, d⟩ := this
        exact ⟨by omega, b, by omega, d⟩
      · by_cases h0 : l[i] = 0 ∧ 0 < i
        · rw [scan_bad l f i hi h0.1 h0.2] at h; cases h
        · rw [scan_good l f i hi (by omega) (by
            by_cases c : i = 0
            · exact .inl c
            · exact .inr fun e => h0 ⟨e, by omega⟩)] at h
          cases h
          refine ⟨by omega, by omega, by omega, ?_, rfl⟩
          rw [List.take_succ_eq_append_getElem hi]
          refine good_snoc _ _ (fun d hd => ?_) (by omega) ?_
          · obtain ⟨j, hjl, rfl⟩ := List.mem_iff_getElem.1 hd
            rw [List.getElem_take]
            exact hj j (by simp at hjl; omega) (by simp at hjl; omega)
          · by_cases c : i = 0
            · subst c; exact .inl rfl
            · exact .inr fun e => h0 ⟨e, by omega⟩
    · rw [scan_end l _ i (by omega)] at h; cases h

/-- Bytes that a number has are read, whatever stands behind. -/
theorem scan_put : ∀ (w : List UInt8) (pre rest : List UInt8) (f : Nat), goodN w → w.length ≤ f → (pre = [] ∨ w ≠ [0]) → scanN (pre ++ (w ++ rest)) f pre.length = some (valN (pre ++ w), pre.length + w.length)
  | [], _, _, _, h, _, _ => h.elim
  | [c], pre, rest, f, h, hf, h0 => by
    obtain ⟨f, rfl⟩ : ∃ g, f = g + 1 := ⟨f - 1, by simp at hf; omega⟩
    have hc : c.toNat < 128 := h
    rw [scan_good _ f pre.length (by simp) (by simpa using hc) (by
      rcases h0 with h0 | h0
      · exact .inl (by simp [h0])
      · exact .inr (by simpa using h0))]
    have e : (pre ++ ([c] ++ rest)).take (pre.length + 1) = pre ++ [c] := by
      rw [← List.append_assoc, List.take_append_of_le_length (by simp), List.take_of_length_le (by simp)]
    rw [e]; rfl
  | c :: d :: r, pre, rest, f, h, hf, h0 => by
    obtain ⟨f, rfl⟩ : ∃ g, f = g + 1 := ⟨f - 1, by simp at hf; omega⟩
    rw [scan_high _ f pre.length (by simp) (by simpa using h.1)]
    have := scan_put (d :: r) (pre ++ [c]) rest f h.2.1 (by simp at hf ⊢; omega) (.inr (fun e => by
      obtain ⟨rfl, rfl⟩ : d = 0 ∧ r = [] := by simpa using e
      exact h.2.2 rfl rfl))
    have e1 : (pre ++ [c]) ++ ((d :: r) ++ rest) = pre ++ ((c :: d :: r) ++ rest) := by simp
    have e2 : (pre ++ [c]) ++ (d :: r) = pre ++ (c :: d :: r) := by simp
    rw [e1, e2] at this
    simp only [List.length_append, List.length_cons, List.length_nil] at this ⊢
    rw [this]
    congr 2
    omega

theorem read_put (n : Nat) (rest : List UInt8) (h : n < 128 ^ 9) : readN (putN n ++ rest) = some (n, (putN n).length) := by
  have hl : (putN n).length ≤ 9 := (put_len n 8).2 h
  have := scan_put (putN n) [] rest 9 (good_put n) hl (.inl rfl)
  simp only [List.nil_append, List.length_nil, val_put, Nat.zero_add] at this
  exact this

theorem read_some {l : List UInt8} {n k : Nat} (h : readN l = some (n, k)) : 0 < k ∧ k ≤ l.length ∧ k ≤ 9 ∧ putN n = l.take k ∧ n < 128 ^ 9 := by
  obtain ⟨h1, h2, h3, h4, h5⟩ := scan_some 9 0 l n k (fun j _ h => absurd h (Nat.not_lt_zero j)) h
  subst h5
  refine ⟨h1, h2, by omega, (put_val _ h4).1, ?_⟩
  have h6 := val_lt (l.take k)
  have h7 : 128 ^ (l.take k).length ≤ 128 ^ 9 := Nat.pow_le_pow_right (by decide) (by simp; omega)
  omega

/-- How many bits a number has. -/
def bl (n : Nat) : Nat := if n = 0 then 0 else Nat.log2 n + 1

theorem bl_shift (n k : Nat) (h : 2 ^ k ≤ n) : bl n = k + bl (n / 2 ^ k) := by
  have hp : 0 < 2 ^ k := Nat.two_pow_pos k
  have h1 : 1 ≤ n / 2 ^ k := (Nat.le_div_iff_mul_le hp).2 (by omega)
  have hn : n ≠ 0 := by omega
  have hq : n / 2 ^ k ≠ 0 := by omega
  have e : Nat.log2 n = k + Nat.log2 (n / 2 ^ k) := by
    rw [Nat.log2_eq_iff hn]
    have a := Nat.log2_self_le hq
    have b := Nat.lt_log2_self (n := n / 2 ^ k)
    have e1 : 2 ^ (k + Nat.log2 (n / 2 ^ k)) = 2 ^ Nat.log2 (n / 2 ^ k) * 2 ^ k := by rw [Nat.add_comm, Nat.pow_add]
    have e2 : 2 ^ (k + Nat.log2 (n / 2 ^ k) + 1) = 2 ^ (Nat.log2 (n / 2 ^ k) + 1) * 2 ^ k := by rw [Nat.add_assoc, Nat.add_comm, Nat.pow_add]
    rw [e1, e2]
    have d := Nat.div_add_mod n (2 ^ k)
    have m := Nat.mod_lt n hp
    have c := Nat.mul_comm (2 ^ k) (n / 2 ^ k)
    refine ⟨?_, ?_⟩
    · have := Nat.mul_le_mul_right (2 ^ k) a
      omega
    · have := Nat.mul_le_mul_right (2 ^ k) (Nat.succ_le_of_lt b)
      rw [Nat.succ_mul] at this
      omega
  simp only [bl, if_neg hn, if_neg hq, e]
  omega

theorem bl_small {n k : Nat} (h : n < 2 ^ k) : bl n ≤ k := by
  unfold bl
  split
  · omega
  · rename_i hn
    have a := Nat.log2_self_le hn
    by_cases c : Nat.log2 n + 1 ≤ k
    · exact c
    · have := Nat.pow_le_pow_right (n := 2) (by decide) (show k ≤ Nat.log2 n by omega)
      omega

theorem bl_pos {n : Nat} (h : n ≠ 0) : 1 ≤ bl n := by simp [bl, h]

theorem len_bits (n : Nat) : max 1 ((bl n + 6) / 7) = (putN n).length := by
  induction n using Nat.strongRecOn with
  | _ n ih =>
    by_cases h : n < 128
    · have := bl_small (k := 7) h
      rw [putN_small h]
      simp only [List.length_cons, List.length_nil]
      omega
    · have h1 := bl_shift n 7 (by omega)
      have h2 := ih (n / 128) (by omega)
      have h3 := bl_pos (n := n / 128) (by omega)
      rw [putN_big h]
      simp only [List.length_cons]
      rw [show (2 : Nat) ^ 7 = 128 from rfl] at h1
      omega

def lenM (n : Int) : Nat := if n < 0 then 0 else (putN n.toNat).length
def putM (n : Int) : List UInt8 := if n < 0 then [] else putN n.toNat
theorem lenM_eq (n : Int) : lenM n = (putM n).length := by
  unfold lenM putM
  split <;> rfl

/-- The bytes, one by one. -/
theorem put_get (n i : Nat) (h : i < (putN n).length) : (putN n)[i] = if i + 1 < (putN n).length then UInt8.ofNat (128 + n / 128 ^ i % 128) else UInt8.ofNat (n / 128 ^ i) := by
  induction i generalizing n with
  | zero =>
    by_cases c : n < 128
    · simp [putN_small c]
    · have := putN_pos (n / 128)
      simp [putN_big c, this]
  | succ i ih =>
    by_cases c : n < 128
    · rw [putN_small c] at h; simp at h
    · have e : (putN n) = UInt8.ofNat (128 + n % 128) :: putN (n / 128) := putN_big c
      have hl : (putN n).length = (putN (n / 128)).length + 1 := by rw [e]; rfl
      have hi : i < (putN (n / 128)).length := by omega
      have hd : n / 128 / 128 ^ i = n / 128 ^ (i + 1) := by rw [Nat.div_div_eq_div_mul, Nat.pow_succ, Nat.mul_comm]
      have e2 : (putN n)[i + 1] = (putN (n / 128))[i]'hi := by simp [e]
      rw [e2, ih (n / 128) hi, hd, hl]
      simp only [Nat.add_lt_add_iff_right]

theorem put_last (n : Nat) : n / 128 ^ ((putN n).length - 1) < 128 := by
  have hp := putN_pos n
  have := (put_len n ((putN n).length - 1)).1 (by omega)
  rw [Nat.pow_succ] at this
  exact (Nat.div_lt_iff_lt_mul (Nat.pow_pos (by decide))).2 (by rw [Nat.mul_comm]; exact this)

/-- What has been written of the bytes. -/
def wroteN (n L i : Nat) : List UInt8 := (List.range L).map fun j => if j < i then UInt8.ofNat (128 + n / 128 ^ j % 128) else 0
theorem wrote_len (n L i : Nat) : (wroteN n L i).length = L := by simp [wroteN]
theorem wrote_zero (n L : Nat) : wroteN n L 0 = List.replicate L 0 := by
  apply List.ext_getElem
  · simp [wroteN]
  · intro i h1 h2
    simp [wroteN]
theorem wrote_set (n L i : Nat) (h : i < L) : (wroteN n L i).set i (UInt8.ofNat (128 + n / 128 ^ i % 128)) = wroteN n L (i + 1) := by
  apply List.ext_getElem
  · simp [wroteN]
  · intro j h1 h2
    simp only [List.getElem_set, wroteN, List.getElem_map, List.getElem_range]
    by_cases c : i = j
    · subst c; simp
    · have e : (j < i + 1) = (j < i) := by rw [eq_iff_iff]; omega
      simp only [if_neg c, e]
theorem wrote_put (n : Nat) : (wroteN n (putN n).length (putN n).length).set ((putN n).length - 1) (UInt8.ofNat (n / 128 ^ ((putN n).length - 1))) = putN n := by
  have hp := putN_pos n
  apply List.ext_getElem
  · simp [wroteN]
  · intro j h1 h2
    simp only [List.getElem_set, wroteN, List.getElem_map, List.getElem_range]
    rw [put_get n j h2]
    by_cases c : (putN n).length - 1 = j
    · subst c
      rw [if_pos rfl, if_neg (by omega)]
    · rw [if_neg c, if_pos h2, if_pos (by omega)]

theorem set_map (l : List UInt8) (i : Nat) (c : UInt8) (h : i < l.length) : (l.take i).map byteD ++ [.int .u8 c.toNat] ++ (l.drop (i + 1)).map byteD = (l.set i c).map byteD := by
  rw [List.set_eq_take_append_cons_drop, if_pos h, List.map_append, List.map_cons, List.append_assoc]
  rfl

theorem and127 (c : UInt8) : (c.toBitVec &&& BitVec.ofInt 8 127).toNat = c.toNat % 128 := by
  rw [BitVec.toNat_and, show (BitVec.ofInt 8 127).toNat = 2 ^ 7 - 1 from rfl, Nat.and_two_pow_sub_one_eq_mod]; rfl
theorem or128 (x : Nat) : (BitVec.ofInt 8 ((UInt8.ofNat x).toNat : Int) ||| BitVec.ofInt 8 128).toNat = 128 + x % 128 := by
  have gen : ∀ c : Fin 256, (BitVec.ofNat 8 c.val ||| BitVec.ofInt 8 128).toNat = 128 + c.val % 128 := by decide +kernel
  have := gen ⟨x % 256, by omega⟩
  simp only [] at this
  have e : BitVec.ofInt 8 ((UInt8.ofNat x).toNat : Int) = BitVec.ofNat 8 (x % 256) := by
    apply BitVec.eq_of_toNat_eq
    simp
    omega
  rw [e, this]
  omega

def rdM (s : List UInt8) (at' : Int) : Int × Int × Bool := if at' < 0 then (0, 0, false) else match readN (s.drop at'.toNat) with
  | some (n, k) => (n, at' + k, true)
  | none => (0, 0, false)

theorem or_i64 (a b : Nat) (H : AHeap) (ha : a < 9223372036854775808) (hb : b < 9223372036854775808) : aInt .or .i64 (a : Int) .i64 (b : Int) H = ⟨True, .int .i64 ((a ||| b : Nat) : Int), H⟩ := by
  have hx : a ||| b < 2 ^ 63 := Nat.or_lt_two_pow ha hb
  have e : (BitVec.ofInt 64 (a : Int) ||| BitVec.ofInt 64 (b : Int)).toNat = a ||| b := by
    rw [BitVec.toNat_or]
    simp only [BitVec.toNat_ofInt]
    congr 1 <;> omega
  simp only [aInt, R.mk.injEq, D.int.injEq, and_true, true_and]
  rw [show (BitVec.ofInt IntKind.i64.bits (a : Int) ||| BitVec.ofInt IntKind.i64.bits (b : Int)).toNat = a ||| b from e]
  exact IntWalk.i64_in _ (by omega)

theorem or_add (n c i : Nat) (h : n < 128 ^ i) : n ||| c * 128 ^ i = n + c * 128 ^ i := by
  have e : 128 ^ i = 2 ^ (7 * i) := by rw [Nat.pow_mul]
  rw [e] at h ⊢
  rw [Nat.or_comm, Nat.mul_comm, ← Nat.two_pow_add_eq_or_of_lt h, Nat.add_comm]

theorem u8_wrap_nat (q : Nat) : IntKind.u8.wrap (q : Int) = ((UInt8.ofNat q).toNat : Int) := by
  simp only [IntKind.wrap, IntKind.bits, IntKind.signed]
  simp

theorem shr_7 (m i : Nat) (hi : i ≤ 8) : (m : Int).fdiv (2 ^ min (7 * i) 64) = ((m / 128 ^ i : Nat) : Int) := by
  rw [Nat.min_eq_left (by omega)]
  have e : ((2 : Int) ^ (7 * i)) = ((128 ^ i : Nat) : Int) := by
    rw [Int.natCast_pow, Int.pow_mul]; rfl
  rw [e, fdiv_nat]

theorem byte_at (m i : Nat) (hi : i ≤ 8) : ((BitVec.ofInt 8 (IntKind.u8.wrap ((m : Int).fdiv (2 ^ min (7 * i) 64))) ||| BitVec.ofInt 8 128).toNat) = (UInt8.ofNat (128 + m / 128 ^ i % 128)).toNat := by
  rw [shr_7 m i hi, u8_wrap_nat, or128, UInt8.toNat_ofNat']
  generalize m / 128 ^ i = q
  omega

theorem wrote_last (m : Nat) (h : (putN m).length - 1 < (wroteN m (putN m).length (putN m).length).length) : ((wroteN m (putN m).length (putN m).length)[(putN m).length - 1].toBitVec &&& BitVec.ofInt 8 127).toNat = (UInt8.ofNat (m / 128 ^ ((putN m).length - 1))).toNat := by
  have hp := putN_pos m
  have hl := put_last m
  have hlt : (putN m).length - 1 < (putN m).length := by omega
  rw [and127]
  simp only [wroteN, List.getElem_map, List.getElem_range, if_pos hlt, UInt8.toNat_ofNat']
  generalize m / 128 ^ ((putN m).length - 1) = q at hl
  omega

end Go.Proofs.Ytkmlebnkmmkpmaa
