/- Manifests, in plain Lean. -/
import Derived.Test.YtbabdalfkmdlhaaFrameM
namespace Go.Proofs.Ytbabdalfkmdlhaa
set_option linter.all false
-- bundled

/-- So many numbers off the beginning. -/
def takeNs : Nat → List UInt8 → Option (List Nat × List UInt8)
  | 0, l => some ([], l)
  | n + 1, l => match readN l with
    | none => none
    | some (v, k) => match takeNs n (l.drop k) with
      | none => none
      | some (vs, r) => some (v :: vs, r)

def putsN (l : List Nat) : List UInt8 := l.flatMap putN

theorem takeNs_put (l : List Nat) (rest : List UInt8) (h : ∀ x, x ∈ l → x < 128 ^ 9) : takeNs l.length (putsN l ++ rest) = some (l, rest) := by
  induction l with
  | nil => rfl
  | cons x l ih =>
    have e : putsN (x :: l) ++ rest = putN x ++ (putsN l ++ rest) := by simp [putsN]
    simp only [List.length_cons, takeNs]
    rw [e, read_put _ _ (h x (by simp))]
    simp only [List.drop_left]
    rw [ih fun y hy => h y (by simp [hy])]

theorem takeNs_some : ∀ (n : Nat) (b : List UInt8) (l : List Nat) (r : List UInt8), takeNs n b = some (l, r) → l.length = n ∧ b = putsN l ++ r ∧ ∀ x, x ∈ l → x < 128 ^ 9
  | 0, b, l, r, h => by
    simp only [takeNs, Option.some.injEq, Prod.mk.injEq] at h
    obtain ⟨rfl, rfl⟩ := h
    exact ⟨rfl, rfl, fun x hx => (List.not_mem_nil hx).elim⟩
  | n + 1, b, l, r, h => by
    simp only [takeNs] at h
    split at h
    · cases h
    · rename_i v k hr
      split at h
      · cases h
      · rename_i vs r' ht
        cases h
        obtain ⟨h1, h2, h3⟩ := takeNs_some n _ _ _ ht
        obtain ⟨q1, q2, q3, q4, q5⟩ := read_some hr
        refine ⟨by simp [h1], ?_, fun x hx => ?_⟩
        · have e : putsN (v :: vs) = putN v ++ putsN vs := by simp [putsN]
          rw [e, List.append_assoc, ← h2, q4, List.take_append_drop]
        · rcases List.mem_cons.1 hx with hx | hx
          · rw [hx]; exact q5
          · exact h3 x hx

theorem takeNs_len : ∀ (n : Nat) (b : List UInt8) (l : List Nat) (r : List UInt8), takeNs n b = some (l, r) → n + r.length ≤ b.length
  | 0, b, l, r, h => by
    simp only [takeNs, Option.some.injEq, Prod.mk.injEq] at h
    obtain ⟨rfl, rfl⟩ := h
    omega
  | n + 1, b, l, r, h => by
    simp only [takeNs] at h
    split at h
    · cases h
    · rename_i v k hr
      split at h
      · cases h
      · rename_i vs r' ht
        cases h
        have := takeNs_len n _ _ _ ht
        obtain ⟨q1, q2, q3, q4, q5⟩ := read_some hr
        rw [List.length_drop] at this
        omega

/-- A word of four bytes. -/
def sum4 (l : List UInt8) : BitVec 32 := BitVec.ofNat 32 ((l.getD 0 0).toNat + 256 * (l.getD 1 0).toNat + 65536 * (l.getD 2 0).toNat + 16777216 * (l.getD 3 0).toNat)

theorem low_nat (q : Nat) : UInt8.ofNat (IntKind.u8.wrap (q : Int)).toNat = UInt8.ofNat q := by
  rw [u8_wrap_nat]
  apply UInt8.toNat_inj.1
  simp
  omega

theorem fourM_eq (x : BitVec 32) : fourM x = [UInt8.ofNat x.toNat, UInt8.ofNat (x.toNat / 256), UInt8.ofNat (x.toNat / 65536), UInt8.ofNat (x.toNat / 16777216)] := by
  simp only [fourM, low_nat, BitVec.toNat_ushiftRight, Nat.shiftRight_eq_div_pow]

theorem sum4_four (x : BitVec 32) : sum4 (fourM x) = x := by
  rw [fourM_eq]
  apply BitVec.eq_of_toNat_eq
  have := x.isLt
  simp only [sum4, List.getD_cons_zero, List.getD_cons_succ, UInt8.toNat_ofNat', BitVec.toNat_ofNat]
  omega

theorem four_sum4 (l : List UInt8) (h : l.length = 4) : fourM (sum4 l) = l := by
  match l, h with
  | [a, b, c, d], _ =>
    have ha := a.toNat_lt
    have hb := b.toNat_lt
    have hc := c.toNat_lt
    have hd := d.toNat_lt
    have e : (sum4 [a, b, c, d]).toNat = a.toNat + 256 * b.toNat + 65536 * c.toNat + 16777216 * d.toNat := by
      simp only [sum4, List.getD_cons_zero, List.getD_cons_succ, BitVec.toNat_ofNat]
      omega
    rw [fourM_eq, e]
    have h1 : UInt8.ofNat (a.toNat + 256 * b.toNat + 65536 * c.toNat + 16777216 * d.toNat) = a := UInt8.toNat_inj.1 (by rw [UInt8.toNat_ofNat']; omega)
    have h2 : UInt8.ofNat ((a.toNat + 256 * b.toNat + 65536 * c.toNat + 16777216 * d.toNat) / 256) = b := UInt8.toNat_inj.1 (by rw [UInt8.toNat_ofNat']; omega)
    have h3 : UInt8.ofNat ((a.toNat + 256 * b.toNat + 65536 * c.toNat + 16777216 * d.toNat) / 65536) = c := UInt8.toNat_inj.1 (by rw [UInt8.toNat_ofNat']; omega)
    have h4 : UInt8.ofNat ((a.toNat + 256 * b.toNat + 65536 * c.toNat + 16777216 * d.toNat) / 16777216) = d := UInt8.toNat_inj.1 (by rw [UInt8.toNat_ofNat']; omega)
    rw [h1, h2, h3, h4]

/-- A manifest. -/
structure MM where
  ver : Int
  segs : List Int
  size : Int
  sum : BitVec 32
def MM.d (m : MM) : D := .agg [.int .i64 m.ver, dl 1 (D.int .i64) m.segs, .int .i64 m.size, .int .u32 m.sum.toNat]
def MM.cells (m : MM) : List D := [.int .i64 m.ver, dl 1 (D.int .i64) m.segs, .int .i64 m.size, .int .u32 m.sum.toNat]
def zeroMM : MM := ⟨0, [], 0, 0#32⟩

def upI (last : Int) : List Int → Bool
  | [] => true
  | n :: r => decide (last < n) && (decide (n ≤ 1099511627776) && upI n r)

def rightMM (m : MM) : Bool :=
  (decide (1 ≤ m.ver) && decide (m.ver ≤ 1099511627776)) && ((decide (1 ≤ m.segs.length) && decide (m.segs.length ≤ 64)) && (upI (-1) m.segs &&
    (bif m.segs.getD 0 0 == 0 then (m.size == 0) && (m.sum == 0#32) else decide (0 < m.size) && decide (m.size ≤ 65536))))

def bodyMM (m : MM) : List UInt8 := putM m.ver ++ putN m.segs.length ++ m.segs.flatMap putM ++ putM m.size ++ fourM m.sum
def putMM (m : MM) : List UInt8 × Int := bif rightMM m then (frameN (bodyMM m), 0) else ([], 1)

def parseMM (b : List UInt8) : Option MM := match takeNs 2 b with
  | some ([v, c], r1) => if 64 < c then none else match takeNs c r1 with
    | some (l, r2) => match takeNs 1 r2 with
      | some ([z], r3) => if r3.length = 4 then some ⟨(v : Int), l.map Int.ofNat, (z : Int), sum4 r3⟩ else none
      | _ => none
    | none => none
  | _ => none

def getMM (s : List UInt8) : MM × Int := match nextN s with
  | .inr e => (zeroMM, e)
  | .inl (b, k) => if k ≠ s.length then (zeroMM, 3) else match parseMM b with
    | none => (zeroMM, 3)
    | some m => bif rightMM m then (m, 0) else (zeroMM, 3)

theorem upI_range : ∀ (l : List Int) (last : Int), -1 ≤ last → upI last l = true → ∀ x, x ∈ l → 0 ≤ x ∧ x ≤ 1099511627776
  | [], _, _, _, x, hx => (List.not_mem_nil hx).elim
  | n :: r, last, hl, h, x, hx => by
    simp only [upI, Bool.and_eq_true, decide_eq_true_eq] at h
    rcases List.mem_cons.1 hx with hx | hx
    · subst hx; omega
    · exact upI_range r n (by omega) h.2.2 x hx

/-- What may be is of numbers that have bytes. -/
theorem right_nums {m : MM} (h : rightMM m = true) : (1 ≤ m.ver ∧ m.ver ≤ 1099511627776) ∧ (1 ≤ m.segs.length ∧ m.segs.length ≤ 64) ∧ (∀ x, x ∈ m.segs → 0 ≤ x ∧ x ≤ 1099511627776) ∧ 0 ≤ m.size ∧ m.size ≤ 65536 := by
  simp only [rightMM, Bool.and_eq_true, decide_eq_true_eq] at h
  obtain ⟨h1, h2, h3, h4⟩ := h
  refine ⟨h1, h2, upI_range _ _ (by omega) h3, ?_⟩
  cases hz : (m.segs.getD 0 0 == 0) <;> rw [hz] at h4
  · simp only [cond_false, Bool.and_eq_true, decide_eq_true_eq] at h4
    omega
  · simp only [cond_true, Bool.and_eq_true, beq_iff_eq] at h4
    omega

theorem flat_putM (l : List Int) (h : ∀ x, x ∈ l → 0 ≤ x) : l.flatMap putM = putsN (l.map Int.toNat) := by
  induction l with
  | nil => rfl
  | cons x l ih =>
    have hx := h x (by simp)
    simp only [List.flatMap_cons, putsN, List.map_cons] at ih ⊢
    rw [ih fun y hy => h y (by simp [hy])]
    congr 1
    rw [putM, if_neg (by omega)]

theorem puts_len (l : List Nat) (h : ∀ x, x ∈ l → x < 128 ^ 9) : (putsN l).length ≤ 9 * l.length := by
  induction l with
  | nil => simp [putsN]
  | cons x l ih =>
    have h1 := (put_len x 8).2 (h x (by simp))
    have h2 := ih fun y hy => h y (by simp [hy])
    simp only [putsN, List.flatMap_cons, List.length_append, List.length_cons] at h2 ⊢
    omega

theorem right_body {m : MM} (h : rightMM m = true) : bodyMM m = putsN [m.ver.toNat, m.segs.length] ++ (putsN (m.segs.map Int.toNat) ++ (putsN [m.size.toNat] ++ fourM m.sum)) := by
  obtain ⟨h1, h2, h3, h4⟩ := right_nums h
  have e1 : putM m.ver = putN m.ver.toNat := by rw [putM, if_neg (by omega)]
  have e2 : putM m.size = putN m.size.toNat := by rw [putM, if_neg (by omega)]
  rw [bodyMM, e1, e2, flat_putM _ fun x hx => (h3 x hx).1]
  simp [putsN]

theorem right_len {m : MM} (h : rightMM m = true) : 1 ≤ (bodyMM m).length ∧ (bodyMM m).length ≤ 65536 := by
  obtain ⟨h1, h2, h3, h4⟩ := right_nums h
  have a1 := puts_len (m.segs.map Int.toNat) (fun x hx => by
    obtain ⟨y, hy, rfl⟩ := List.mem_map.1 hx
    have := h3 y hy
    omega)
  have a2 := puts_len [m.ver.toNat, m.segs.length] (fun x hx => by
    have hx : x = m.ver.toNat ∨ x = m.segs.length := by simpa using hx
    omega)
  have a3 := puts_len [m.size.toNat] (fun x hx => by
    have hx : x = m.size.toNat := by simpa using hx
    omega)
  rw [right_body h]
  simp only [List.length_append, fourM_len, List.length_map, List.length_cons, List.length_nil] at *
  omega

theorem map_nat (l : List Int) (h : ∀ x, x ∈ l → 0 ≤ x) : (l.map Int.toNat).map Int.ofNat = l := by
  induction l with
  | nil => rfl
  | cons x l ih =>
    have hx := h x (by simp)
    rw [List.map_cons, List.map_cons, ih fun y hy => h y (by simp [hy])]
    congr 1
    exact Int.toNat_of_nonneg hx

/-- A manifest that may be comes back. -/
theorem parse_body {m : MM} (h : rightMM m = true) : parseMM (bodyMM m) = some m := by
  obtain ⟨h1, h2, h3, h4⟩ := right_nums h
  rw [right_body h]
  have t1 := takeNs_put [m.ver.toNat, m.segs.length] (putsN (m.segs.map Int.toNat) ++ (putsN [m.size.toNat] ++ fourM m.sum)) (fun x hx => by
    have hx : x = m.ver.toNat ∨ x = m.segs.length := by simpa using hx
    omega)
  have t2 := takeNs_put (m.segs.map Int.toNat) (putsN [m.size.toNat] ++ fourM m.sum) (fun x hx => by
    obtain ⟨y, hy, rfl⟩ := List.mem_map.1 hx
    have := h3 y hy
    omega)
  have t3 := takeNs_put [m.size.toNat] (fourM m.sum) (fun x hx => by
    have hx : x = m.size.toNat := by simpa using hx
    omega)
  simp only [List.length_cons, List.length_nil, List.length_map] at t1 t2 t3
  unfold parseMM
  rw [t1]
  simp only []
  rw [if_neg (by omega), t2]
  simp only []
  rw [t3]
  simp only []
  rw [if_pos (fourM_len _), sum4_four, map_nat _ fun x hx => (h3 x hx).1]
  have e1 : ((m.ver.toNat : Nat) : Int) = m.ver := by omega
  have e2 : ((m.size.toNat : Nat) : Int) = m.size := by omega
  rw [e1, e2]

/-- What is parsed has just these bytes. -/
theorem parse_some {b : List UInt8} {m : MM} (h : parseMM b = some m) : bodyMM m = b := by
  unfold parseMM at h
  split at h
  · rename_i v c r1 t1
    split at h
    · cases h
    · split at h
      · rename_i l r2 t2
        split at h
        · rename_i z r3 t3
          split at h
          · rename_i h4
            cases h
            obtain ⟨a1, a2, a3⟩ := takeNs_some _ _ _ _ t1
            obtain ⟨b1, b2, b3⟩ := takeNs_some _ _ _ _ t2
            obtain ⟨c1, c2, c3⟩ := takeNs_some _ _ _ _ t3
            have e3 : (l.map Int.ofNat).flatMap putM = putsN l := by
              rw [flat_putM _ fun x hx => by
                obtain ⟨y, _, rfl⟩ := List.mem_map.1 hx
                exact Int.natCast_nonneg y]
              congr 1
              clear b1 b2 b3 t2
              induction l with
              | nil => rfl
              | cons x l ih => simp only [List.map_cons, ih]; rfl
            simp only [bodyMM, List.length_map, putM_nat, e3, four_sum4 r3 h4, b1]
            rw [a2, b2, c2]
            simp [putsN]
          · cases h
        · cases h
      · cases h
  · cases h

/-- A manifest that may be comes back of its bytes. -/
theorem get_put {m : MM} (h : rightMM m = true) : getMM (frameN (bodyMM m)) = (m, 0) := by
  have := next_frame (bodyMM m) [] (right_len h)
  rw [List.append_nil] at this
  simp only [getMM, this, ne_eq, not_true_eq_false, if_false, parse_body h, h, cond_true]

theorem get_cut {m : MM} (h : rightMM m = true) (c : Nat) (hc : c < (frameN (bodyMM m)).length) : getMM ((frameN (bodyMM m)).take c) = (zeroMM, 2) := by
  simp only [getMM, next_cut (bodyMM m) (right_len h) c hc]

/-- What is got has just these bytes. -/
theorem get_some {s b : List UInt8} {k : Nat} {m : MM} (hn : nextN s = .inl (b, k)) (hp : parseMM b = some m) (hr : rightMM m = true) : (frameN (bodyMM m) = s) = (k = s.length) := by
  obtain ⟨h1, h2, h3, h4⟩ := next_some hn
  rw [parse_some hp, eq_iff_iff]
  constructor
  · intro h; rw [h4, h]
  · intro h
    rw [← h3, h, List.take_length]

theorem takeNs_add : ∀ (m n : Nat) (l : List UInt8), takeNs (m + n) l = match takeNs m l with
    | none => none
    | some (vs, r) => match takeNs n r with
      | none => none
      | some (ws, r') => some (vs ++ ws, r')
  | 0, n, l => by
    simp only [Nat.zero_add, takeNs, List.nil_append]
    cases takeNs n l <;> rfl
  | m + 1, n, l => by
    rw [show m + 1 + n = (m + n) + 1 by omega]
    simp only [takeNs]
    cases readN l with
    | none => rfl
    | some x =>
      simp only []
      rw [takeNs_add m n (l.drop x.2)]
      cases takeNs m (l.drop x.2) with
      | none => rfl
      | some y =>
        simp only []
        cases takeNs n y.2 <;> rfl

theorem takeNs_one (l : List UInt8) : takeNs 1 l = match readN l with
    | none => none
    | some (v, k) => some ([v], l.drop k) := by
  simp only [takeNs]

theorem takeNs_mono {m n : Nat} {l : List UInt8} (h : takeNs m l = none) (hn : m ≤ n) : takeNs n l = none := by
  obtain ⟨k, rfl⟩ : ∃ k, n = m + k := ⟨n - m, by omega⟩
  rw [takeNs_add, h]

theorem parse_none2 {b : List UInt8} (h : takeNs 2 b = none) : parseMM b = none := by simp only [parseMM, h]

theorem parse_big {b : List UInt8} {v c : Nat} {r : List UInt8} (h : takeNs 2 b = some ([v, c], r)) (hc : 64 < c) : parseMM b = none := by simp only [parseMM, h, if_pos hc]

theorem parse_noneN {b : List UInt8} {v c : Nat} {r : List UInt8} (h : takeNs 2 b = some ([v, c], r)) (hn : takeNs (c + 3) b = none) : parseMM b = none := by
  have e : c + 3 = 2 + (c + 1) := by omega
  rw [e, takeNs_add, h] at hn
  simp only [takeNs_add] at hn
  simp only [parseMM, h]
  split
  · rfl
  · cases h2 : takeNs c r with
    | none => rfl
    | some y =>
      rw [h2] at hn
      simp only [] at hn
      cases h3 : takeNs 1 y.2 with
      | none => simp only [h3]
      | some z => rw [h3] at hn; cases hn

theorem parse_all {b : List UInt8} {v c z : Nat} {l : List Nat} {r : List UInt8} (hc : c ≤ 64) (hl : l.length = c) (h : takeNs (c + 3) b = some (v :: c :: (l ++ [z]), r)) :
    parseMM b = if r.length = 4 then some ⟨(v : Int), l.map Int.ofNat, (z : Int), sum4 r⟩ else none := by
  have e : c + 3 = 2 + (c + 1) := by omega
  rw [e, takeNs_add] at h
  cases h2 : takeNs 2 b with
  | none => rw [h2] at h; cases h
  | some x =>
    obtain ⟨vs, r1⟩ := x
    rw [h2] at h
    simp only [takeNs_add] at h
    obtain ⟨l2, _, _⟩ := takeNs_some _ _ _ _ h2
    cases h3 : takeNs c r1 with
    | none => rw [h3] at h; cases h
    | some y =>
      obtain ⟨ws, r2⟩ := y
      rw [h3] at h
      simp only [] at h
      obtain ⟨l3, _, _⟩ := takeNs_some _ _ _ _ h3
      cases h4 : takeNs 1 r2 with
      | none => rw [h4] at h; cases h
      | some u =>
        obtain ⟨zs, r3⟩ := u
        rw [h4] at h
        simp only [Option.some.injEq, Prod.mk.injEq] at h
        obtain ⟨l4, _, _⟩ := takeNs_some _ _ _ _ h4
        obtain ⟨h5, rfl⟩ := h
        match vs, l2, h5, h2 with
        | [v', c'], _, h5, h2 =>
          simp only [List.cons_append, List.nil_append, List.cons.injEq] at h5
          obtain ⟨rfl, rfl, h6⟩ := h5
          obtain ⟨rfl, rfl⟩ := List.append_inj h6 (by omega)
          simp only [parseMM, h2, h3, h4]
          rw [if_neg (by omega)]

theorem get_no {s b : List UInt8} {k : Nat} (hn : nextN s = .inl (b, k)) (h : k ≠ s.length ∨ parseMM b = none ∨ ∃ m, parseMM b = some m ∧ rightMM m = false) : getMM s = (zeroMM, 3) := by
  simp only [getMM, hn]
  by_cases hk : k ≠ s.length
  · rw [if_pos hk]
  · rw [if_neg hk]
    rcases h with h | h | ⟨m, h1, h2⟩
    · exact absurd h hk
    · rw [h]
    · rw [h1]
      simp only [h2, cond_false]

theorem get_yes {s b : List UInt8} {k : Nat} {m : MM} (hn : nextN s = .inl (b, k)) (hk : k = s.length) (hp : parseMM b = some m) (hr : rightMM m = true) : getMM s = (m, 0) := by
  simp only [getMM, hn, hp, hr, cond_true, if_neg (fun h : k ≠ s.length => h hk)]

end Go.Proofs.Ytbabdalfkmdlhaa
