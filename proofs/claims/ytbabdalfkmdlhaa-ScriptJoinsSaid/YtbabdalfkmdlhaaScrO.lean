/- The operation of a body: what script.one returns. -/
import Derived.Test.YtbabdalfkmdlhaaScrR
namespace Go.Proofs.Ytbabdalfkmdlhaa
set_option linter.all false
-- bundled

set_option maxRecDepth 100000
set_option pp.deepTerms.threshold 50

/-- The next number: it, where it ends, whether all was well. -/
def nxt (b : List UInt8) (a : Nat) (g : Bool) : Nat × Nat × Bool := match readN (b.drop a) with
  | some (n, k) => (n, a + k, g)
  | none => (0, a, false)

structure NS (b : List UInt8) (vs : List Nat) (a : Nat) (g : Bool) : Prop where
  le : a ≤ b.length
  yes : g = true → takeNs vs.length b = some (vs, b.drop a)
  no : g = false → takeNs vs.length b = none
  lt : ∀ x, x ∈ vs → x < 9223372036854775808

theorem NS.start (b : List UInt8) : NS b [] 0 true := ⟨Nat.zero_le _, fun _ => rfl, (fun h => by cases h), (fun x hx => by cases hx)⟩

theorem NS.step {b : List UInt8} {vs : List Nat} {a : Nat} {g : Bool} (h : NS b vs a g) : NS b (vs ++ [(nxt b a g).1]) (nxt b a g).2.1 (nxt b a g).2.2 := by
  have hl : ∀ x : Nat, (vs ++ [x]).length = vs.length + 1 := fun x => by simp
  have hmem : ∀ (x : Nat), x < 9223372036854775808 → ∀ y, y ∈ vs ++ [x] → y < 9223372036854775808 := fun x hx y hy => by
    rcases List.mem_append.1 hy with hy | hy
    · exact h.lt y hy
    · have : y = x := by simpa using hy
      omega
  unfold nxt
  cases hr : readN (b.drop a) with
  | none =>
    refine ⟨h.le, fun hf => (by cases hf), fun _ => ?_, hmem 0 (by omega)⟩
    simp only [hl]
    rw [takeNs_add]
    cases g with
    | true => rw [h.yes rfl]; simp only [takeNs, hr]
    | false => rw [h.no rfl]
  | some y =>
    obtain ⟨n, k⟩ := y
    obtain ⟨q1, q2, q3, q4, q5⟩ := read_some hr
    rw [List.length_drop] at q2
    have hle := h.le
    refine ⟨by simp only []; omega, fun hg => ?_, fun hg => ?_, hmem n (by omega)⟩
    · simp only [hl]
      rw [takeNs_add, h.yes hg]
      simp only [takeNs, hr, List.drop_drop]
    · simp only [hl]
      rw [takeNs_add, h.no hg]

/-- What is kept: so many numbers at most, 65 at most. -/
def keepR (b : List UInt8) : Nat → List Nat → Nat → Bool → List Nat × Nat × Bool
  | 0, l, a, g => (l, a, g)
  | n + 1, l, a, g => if g = true ∧ l.length ≤ 64 then keepR b n (l ++ [(nxt b a g).1]) (nxt b a g).2.1 (nxt b a g).2.2 else (l, a, g)

theorem keepR_stop {b : List UInt8} {n : Nat} {l : List Nat} {a : Nat} {g : Bool} (h : n = 0 ∨ g = false ∨ 64 < l.length) : keepR b n l a g = (l, a, g) := by
  cases n with
  | zero => rfl
  | succ n =>
    simp only [keepR]
    rw [if_neg]
    intro ⟨h1, h2⟩
    rcases h with h | h | h
    · omega
    · rw [h1] at h; cases h
    · omega
theorem keepR_go {b : List UInt8} {n : Nat} {l : List Nat} {a : Nat} (h : l.length ≤ 64) : keepR b (n + 1) l a true = keepR b n (l ++ [(nxt b a true).1]) (nxt b a true).2.1 (nxt b a true).2.2 := by
  simp only [keepR, h, true_and, if_true, and_true]

theorem keepR_ok (b : List UInt8) (pre : List Nat) : ∀ (n : Nat) (l : List Nat) (a : Nat) (g : Bool), NS b (pre ++ l) a g → l.length ≤ 65 →
    NS b (pre ++ (keepR b n l a g).1) (keepR b n l a g).2.1 (keepR b n l a g).2.2 ∧ (keepR b n l a g).1.length ≤ min (l.length + n) 65 ∧ ((keepR b n l a g).2.2 = true → (keepR b n l a g).1.length = min (l.length + n) 65)
  | 0, l, a, g, h, hl => ⟨h, by simp only [keepR]; omega, fun _ => by simp only [keepR]; omega⟩
  | n + 1, l, a, g, h, hl => by
    simp only [keepR]
    by_cases c : g = true ∧ l.length ≤ 64
    · rw [if_pos c]
      have h1 := h.step
      rw [List.append_assoc] at h1
      have h2 := keepR_ok b pre n (l ++ [(nxt b a g).1]) (nxt b a g).2.1 (nxt b a g).2.2 h1 (by simp; omega)
      rw [List.length_append, List.length_singleton, show l.length + 1 + n = l.length + (n + 1) by omega] at h2
      exact h2
    · rw [if_neg c]
      refine ⟨h, by simp only []; omega, fun hg => ?_⟩
      have : ¬ l.length ≤ 64 := fun hh => c ⟨hg, hh⟩
      simp only []
      omega

theorem oneP_gen (b : List UInt8) (x1 x2 x3 x4 c a5 : Nat) (g5 : Bool) (h5 : NS b [x1, x2, x3, x4, c] a5 g5) (l : List Nat) (a : Nat) (g : Bool) (hr : keepR b c [] a5 g5 = (l, a, g)) :
    (g && rightO ⟨x1, x2, x3, x4, b.drop a, l.map Int.ofNat⟩) = (oneQ b).2 ∧ ((oneQ b).2 = true → (⟨x1, x2, x3, x4, b.drop a, l.map Int.ofNat⟩ : GOp) = (oneQ b).1) := by
  obtain ⟨k1, k2, k3⟩ := keepR_ok b [x1, x2, x3, x4, c] c [] a5 g5 h5 (Nat.zero_le _)
  rw [hr] at k1 k2 k3
  simp only [List.length_nil, Nat.zero_add] at k2 k3
  have hlen : ([x1, x2, x3, x4, c] ++ l).length = 5 + l.length := by simp; omega
  cases g with
  | true =>
    have t := k1.yes rfl
    rw [hlen, takeNs_add] at t
    cases t5 : takeNs 5 b with
    | none => rw [t5] at t; cases t
    | some y =>
      obtain ⟨vs, r5⟩ := y
      rw [t5] at t
      simp only [] at t
      cases t6 : takeNs l.length r5 with
      | none => rw [t6] at t; cases t
      | some z =>
        obtain ⟨ws, r6⟩ := z
        rw [t6] at t
        simp only [Option.some.injEq, Prod.mk.injEq] at t
        obtain ⟨p1, p2, p3⟩ := takeNs_some _ _ _ _ t5
        have hv := List.append_inj t.1 (by rw [p1]; rfl)
        have e : oneO b = some ⟨x1, x2, x3, x4, b.drop a, l.map Int.ofNat⟩ := by
          unfold oneO
          rw [t5, hv.1]
          simp only []
          rw [← k3 rfl, t6, hv.2, t.2]
        have e2 : oneQ b = (⟨x1, x2, x3, x4, b.drop a, l.map Int.ofNat⟩, rightO ⟨x1, x2, x3, x4, b.drop a, l.map Int.ofNat⟩) := by unfold oneQ; rw [e]
        rw [e2, Bool.true_and]
        exact ⟨rfl, fun _ => rfl⟩
  | false =>
    have t := k1.no rfl
    rw [hlen] at t
    have e : oneO b = none := by
      unfold oneO
      split
      · rename_i a1 a2 a3 a4 cc rr t5
        have hg5 : g5 = true := by
          cases h : g5 with
          | true => rfl
          | false =>
            have this : takeNs 5 b = none := h5.no h
            rw [this] at t5; cases t5
        have t5' : takeNs 5 b = some ([x1, x2, x3, x4, c], b.drop a5) := h5.yes hg5
        rw [t5] at t5'
        simp only [Option.some.injEq, Prod.mk.injEq, List.cons.injEq, and_true] at t5'
        have hc : cc = c := t5'.1.2.2.2.2
        have tm := takeNs_mono t (show 5 + l.length ≤ 5 + min cc 65 by omega)
        rw [takeNs_add, t5] at tm
        simp only [] at tm
        cases h : takeNs (min cc 65) rr with
        | none => rfl
        | some z => rw [h] at tm; cases tm
      · rfl
    have e2 : oneQ b = (zeroO, false) := by unfold oneQ; rw [e]
    rw [e2, Bool.false_and]
    exact ⟨rfl, fun h => by cases h⟩

theorem nxt_ok (b : List UInt8) (a : Nat) (g : Bool) (hb : b.length ≤ reach) (ha : a ≤ b.length) :
    EffN Try.prog 59 [.ptr 0 0, .ptr 1 0, .ptr 2 0] [.live [.str b], .live [.int .i64 a], .live [.bool g]] (.int .i64 (nxt b a g).1) [.live [.str b], .live [.int .i64 (nxt b a g).2.1], .live [.bool (nxt b a g).2.2]] := by
  unfold EffN
  have hb' := hb
  rw [reach_lit] at hb'
  refine callsD (rs := [.tmp 3]) tyOk mixed Try.func59 (by decide) rfl rfl (Nat.le_of_ble_eq_true rfl) (by decide) ?_
  have hrd := rdM_at b a
  simp (disch := (first | omega | (simp only [List.length_take, List.length_drop, List.length_append, List.length_map, List.length_cons, List.length_nil]; done) | (simp only [List.length_take, List.length_drop, List.length_append, List.length_map, List.length_cons, List.length_nil]; omega))) only [W1, ↓W2, unbyte, implies_true, ← List.map_take, ← List.map_drop, bne_self_eq_false, eqCells, flatTD, Nat.reducePow, ayield, eq_self, exists_eq_left', exists_eq_left, Int.reduceLE, Int.reduceLT, Nat.reduceLeDiff, Int.reduceToNat, Int.reduceAdd, Int.reduceSub, Int.reduceMul, Int.reduceNeg, Int.reduceEq, argEnv, aeval, get, put, ofVal, ofVals, List.map, cond_true, cond_false, Nat.reduceBEq, nexts, allocs, countAllocs, pad, Nat.reduceAdd, Nat.reduceMul, Nat.reduceSub, Nat.reduceLT, isVoid, aNilCheck, aExtract, aInt, aStr, aConv, aSlice, asNat?, cutTight, aIndexAddr, aFieldAddr, aField, aIndex, aLoad, aStore, aAlloc, aBox, aBuild, aBuildSlice, aMakeSlice, aLen, aMax, aMin, aAppend, aCopy, aBuiltin, TD.isSlice, TD.isAgg, TD.known, TD.isSeq, partD, partOb, cellsAt, Blk.cells, if_true, if_false, splice, fillD, dl, byteD, Int.reduceBEq, Int.reduceBNe, beq_self_eq_true, retQ, retK, resD, resL, andR, elemCells, isByte, chunk, reduceCtorEq, okVal, okCell, List.replicate, ne_eq, Nat.reduceEqDiff, IntWalk.toNatUp]
  refine callP (vread_ok b a hb (by simp only [okInt, min_i64, max_i64]; omega)) rfl ?_
  cases hr : readN (b.drop a) with
  | none =>
    rw [hr] at hrd
    have e : nxt b a g = (0, a, false) := by simp only [nxt, hr]
    simp (disch := (first | omega | (simp only [List.length_take, List.length_drop, List.length_append, List.length_map, List.length_cons, List.length_nil]; done) | (simp only [List.length_take, List.length_drop, List.length_append, List.length_map, List.length_cons, List.length_nil]; omega))) only [rdD, hrd, e, W1, ↓W2, unbyte, implies_true, ← List.map_take, ← List.map_drop, bne_self_eq_false, eqCells, flatTD, Nat.reducePow, ayield, eq_self, exists_eq_left', exists_eq_left, Int.reduceLE, Int.reduceLT, Nat.reduceLeDiff, Int.reduceToNat, Int.reduceAdd, Int.reduceSub, Int.reduceMul, Int.reduceNeg, Int.reduceEq, argEnv, aeval, get, put, ofVal, ofVals, List.map, cond_true, cond_false, Nat.reduceBEq, nexts, allocs, countAllocs, pad, Nat.reduceAdd, Nat.reduceMul, Nat.reduceSub, Nat.reduceLT, isVoid, aNilCheck, aExtract, aInt, aStr, aConv, aSlice, asNat?, cutTight, aIndexAddr, aFieldAddr, aField, aIndex, aLoad, aStore, aAlloc, aBox, aBuild, aBuildSlice, aMakeSlice, aLen, aMax, aMin, aAppend, aCopy, aBuiltin, TD.isSlice, TD.isAgg, TD.known, TD.isSeq, partD, partOb, cellsAt, Blk.cells, if_true, if_false, splice, fillD, dl, byteD, Int.reduceBEq, Int.reduceBNe, beq_self_eq_true, retQ, retK, resD, resL, andR, elemCells, isByte, chunk, reduceCtorEq, okVal, okCell, List.replicate, ne_eq, Nat.reduceEqDiff, IntWalk.toNatUp]
  | some y =>
    obtain ⟨n, k⟩ := y
    rw [hr] at hrd
    have e : nxt b a g = (n, a + k, g) := by simp only [nxt, hr]
    simp (disch := (first | omega | (simp only [List.length_take, List.length_drop, List.length_append, List.length_map, List.length_cons, List.length_nil]; done) | (simp only [List.length_take, List.length_drop, List.length_append, List.length_map, List.length_cons, List.length_nil]; omega))) only [rdD, hrd, e, Int.natCast_add, W1, ↓W2, unbyte, implies_true, ← List.map_take, ← List.map_drop, bne_self_eq_false, eqCells, flatTD, Nat.reducePow, ayield, eq_self, exists_eq_left', exists_eq_left, Int.reduceLE, Int.reduceLT, Nat.reduceLeDiff, Int.reduceToNat, Int.reduceAdd, Int.reduceSub, Int.reduceMul, Int.reduceNeg, Int.reduceEq, argEnv, aeval, get, put, ofVal, ofVals, List.map, cond_true, cond_false, Nat.reduceBEq, nexts, allocs, countAllocs, pad, Nat.reduceAdd, Nat.reduceMul, Nat.reduceSub, Nat.reduceLT, isVoid, aNilCheck, aExtract, aInt, aStr, aConv, aSlice, asNat?, cutTight, aIndexAddr, aFieldAddr, aField, aIndex, aLoad, aStore, aAlloc, aBox, aBuild, aBuildSlice, aMakeSlice, aLen, aMax, aMin, aAppend, aCopy, aBuiltin, TD.isSlice, TD.isAgg, TD.known, TD.isSeq, partD, partOb, cellsAt, Blk.cells, if_true, if_false, splice, fillD, dl, byteD, Int.reduceBEq, Int.reduceBNe, beq_self_eq_true, retQ, retK, resD, resL, andR, elemCells, isByte, chunk, reduceCtorEq, okVal, okCell, List.replicate, ne_eq, Nat.reduceEqDiff, IntWalk.toNatUp]

end Go.Proofs.Ytbabdalfkmdlhaa
