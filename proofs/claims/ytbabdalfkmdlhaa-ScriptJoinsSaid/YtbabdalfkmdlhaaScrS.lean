/- The operation of a body, by the document: what wagonerref26.one returns. -/
import Derived.Test.YtbabdalfkmdlhaaScrQ
namespace Go.Proofs.Ytbabdalfkmdlhaa
set_option linter.all false
-- bundled

set_option maxRecDepth 100000
set_option pp.deepTerms.threshold 50

theorem five {l : List Nat} (h : 5 ≤ l.length) : ∃ x1 x2 x3 x4 c k, l = x1 :: x2 :: x3 :: x4 :: c :: k := by
  match l, h with
  | x1 :: x2 :: x3 :: x4 :: c :: k, _ => exact ⟨x1, x2, x3, x4, c, k, rfl⟩

theorem ns_no {b : List UInt8} {l : List Nat} {a : Nat} (h : NS b l a true) (hr : readN (b.drop a) = none) : takeNs (l.length + 1) b = none := by
  have h1 := h.step
  simp only [nxt, hr] at h1
  have := h1.no rfl
  rwa [List.length_append] at this

theorem ref_no {b : List UInt8} {l : List Nat} {a : Nat} (h : NS b l a true) (hr : readN (b.drop a) = none) (hl : l.length < 5) : oneO b = none := by
  have t := takeNs_mono (ns_no h hr) (show l.length + 1 ≤ 5 by omega)
  unfold oneO
  rw [t]

theorem ref_no5 {b : List UInt8} {x1 x2 x3 x4 c : Nat} {k : List Nat} {a : Nat} (h : NS b (x1 :: x2 :: x3 :: x4 :: c :: k) a true) (hr : readN (b.drop a) = none) (hl : k.length < min c 65) : oneO b = none := by
  have t := ns_no h hr
  have hy := h.yes rfl
  have e1 : (x1 :: x2 :: x3 :: x4 :: c :: k).length = 5 + k.length := by simp; omega
  rw [e1] at t hy
  rw [takeNs_add] at hy
  rw [Nat.add_assoc, takeNs_add] at t
  unfold oneO
  cases t5 : takeNs 5 b with
  | none => rfl
  | some y =>
    obtain ⟨vs, r5⟩ := y
    rw [t5] at hy t
    simp only [] at hy t
    cases t6 : takeNs k.length r5 with
    | none => rw [t6] at hy; cases hy
    | some z =>
      obtain ⟨ws, r6⟩ := z
      rw [t6] at hy
      simp only [Option.some.injEq, Prod.mk.injEq] at hy
      obtain ⟨p1, p2, p3⟩ := takeNs_some _ _ _ _ t5
      have hv := List.append_inj (s₂ := [x1, x2, x3, x4, c]) (t₂ := k) hy.1 (by rw [p1]; rfl)
      rw [hv.1]
      simp only []
      cases t7 : takeNs (k.length + 1) r5 with
      | none =>
        rw [takeNs_mono t7 (show k.length + 1 ≤ min c 65 by omega)]
      | some z => rw [t7] at t; cases t

theorem ref_yes {b : List UInt8} {x1 x2 x3 x4 c : Nat} {k : List Nat} {a : Nat} (h : NS b (x1 :: x2 :: x3 :: x4 :: c :: k) a true) (hl : k.length = min c 65) : oneO b = some ⟨x1, x2, x3, x4, b.drop a, k.map Int.ofNat⟩ := by
  have hy := h.yes rfl
  have e1 : (x1 :: x2 :: x3 :: x4 :: c :: k).length = 5 + k.length := by simp; omega
  rw [e1] at hy
  rw [takeNs_add] at hy
  unfold oneO
  cases t5 : takeNs 5 b with
  | none => rw [t5] at hy; cases hy
  | some y =>
    obtain ⟨vs, r5⟩ := y
    rw [t5] at hy
    simp only [] at hy
    cases t6 : takeNs k.length r5 with
    | none => rw [t6] at hy; cases hy
    | some z =>
      obtain ⟨ws, r6⟩ := z
      rw [t6] at hy
      simp only [Option.some.injEq, Prod.mk.injEq] at hy
      obtain ⟨p1, p2, p3⟩ := takeNs_some _ _ _ _ t5
      have hv := List.append_inj (s₂ := [x1, x2, x3, x4, c]) (t₂ := k) hy.1 (by rw [p1]; rfl)
      rw [hv.1]
      simp only []
      rw [← hl, t6, hv.2, hy.2]

theorem oneQ_no {b : List UInt8} (h : oneO b = none) : oneQ b = (zeroO, false) := by unfold oneQ; rw [h]
theorem oneQ_yes {b : List UInt8} {o : GOp} (h : oneO b = some o) : oneQ b = (o, rightO o) := by unfold oneQ; rw [h]

set_option maxHeartbeats 4000000 in
theorem oneRef_ok (b : List UInt8) (hb : b.length ≤ reach) : PureF Try.prog 51 [.str b] (.tup [(oneQ b).1.d, .bool (oneQ b).2]) := by
  refine pureD (rs := [.cell 2 73, .tmp 3]) tyOk mixed Try.func51 (by decide) rfl rfl (Nat.le_of_ble_eq_true rfl) (by decide) ?_
  have hb' := hb
  rw [reach_lit] at hb'
  simp (disch := (first | omega | (simp only [List.length_take, List.length_drop, List.length_append, List.length_map, List.length_cons, List.length_nil]; done) | (simp only [List.length_take, List.length_drop, List.length_append, List.length_map, List.length_cons, List.length_nil]; omega))) only [W1, ↓W2, unbyte, implies_true, ← List.map_take, ← List.map_drop, bne_self_eq_false, eqCells, flatTD, Nat.reducePow, ayield, eq_self, exists_eq_left', exists_eq_left, Int.reduceLE, Int.reduceLT, Nat.reduceLeDiff, Int.reduceToNat, Int.reduceAdd, Int.reduceSub, Int.reduceMul, Int.reduceNeg, Int.reduceEq, argEnv, aeval, get, put, ofVal, ofVals, List.map, cond_true, cond_false, Nat.reduceBEq, nexts, allocs, countAllocs, pad, Nat.reduceAdd, Nat.reduceMul, Nat.reduceSub, Nat.reduceLT, isVoid, aNilCheck, aExtract, aInt, aStr, aConv, aSlice, asNat?, cutTight, aIndexAddr, aFieldAddr, aField, aIndex, aLoad, aStore, aAlloc, aBox, aBuild, aBuildSlice, aMakeSlice, aLen, aMax, aMin, aAppend, aCopy, aBuiltin, TD.isSlice, TD.isAgg, TD.known, TD.isSeq, partD, partOb, cellsAt, Blk.cells, if_true, if_false, splice, fillD, dl, byteD, Int.reduceBEq, Int.reduceBNe, beq_self_eq_true, retQ, retK, resD, resL, andR, elemCells, isByte, chunk, reduceCtorEq, okVal, okCell, List.replicate, ne_eq, Nat.reduceEqDiff, IntWalk.toNatUp]
  refine loopR (fun st : List Nat × Nat => [(0, .str b), (2, .ptr 0 0), (4, .ref 1 0 st.1.length 1), (5, .int .i64 st.2)]) (fun st => [.live [.int .i64 0, .int .i64 0, .int .i64 0, .int .i64 0, .str [], .nil], .live ((st.1.map Int.ofNat).map (D.int .i64))])
    (fun st => NS b st.1 st.2 true ∧ (5 ≤ st.1.length → st.1.length ≤ 5 + min (st.1.getD 4 0) 65)) (fun st => 71 - st.1.length) ([], 0) ⟨NS.start b, fun h => by simp at h⟩ ?_ ?_
  · refine fitsNew 1 (fitsL ?_ ?_)
    · simp only [leEnv_nil', leEnv_cons', leD_self, leD_nilref, leD_nilsl, leD_loose, le1_self, le1_nilref, le1_nilsl, leC_nil', leC_cons', leB_self, leB_live', leH_nil', leH_cons', get, cond_true, cond_false, Nat.reduceBEq, List.replicate, List.cons_append, List.nil_append, and_self, List.map_nil, List.length_nil, List.take_zero, List.flatMap_nil, Int.natCast_zero]
    · simp only [leEnv_nil', leEnv_cons', leD_self, leD_nilref, leD_nilsl, leD_loose, le1_self, le1_nilref, le1_nilsl, leC_nil', leC_cons', leB_self, leB_live', leH_nil', leH_cons', get, cond_true, cond_false, Nat.reduceBEq, List.replicate, List.cons_append, List.nil_append, and_self, List.map_nil, List.length_nil, List.take_zero, List.flatMap_nil]
  intro ⟨l, a⟩ ⟨hN, hl⟩
  dsimp only at hN hl
  have hale := hN.le
  have oka : okInt .i64 (a : Int) := by simp only [okInt, min_i64, max_i64]; omega
  have hrd := rdM_at b a
  have hml : (l.map Int.ofNat).length = l.length := List.length_map _
  by_cases h5 : 5 ≤ l.length
  · obtain ⟨x1, x2, x3, x4, c, k, rfl⟩ := five h5
    have hl := hl h5
    have e4 : (x1 :: x2 :: x3 :: x4 :: c :: k).getD 4 0 = c := rfl
    have e5 : (x1 :: x2 :: x3 :: x4 :: c :: k).length = 5 + k.length := by simp; omega
    rw [e4, e5] at hl
    have hmin : (if (65 : Int) < Int.ofNat c then (65 : Int) else Int.ofNat c) = ((min c 65 : Nat) : Int) := by simp only [Int.ofNat_eq_natCast]; split <;> omega
    have hk1 : (k.map Int.ofNat).length = k.length := List.length_map _
    have d5 : decide (((5 + k.length : Nat) : Int) < 5) = false := decide_eq_false (by omega)
    cases d6 : decide (((5 + k.length : Nat) : Int) < 5 + ((min c 65 : Nat) : Int))
    · have d6' := of_decide_eq_false d6
      have hkl : k.length = min c 65 := by omega
      have ho := oneQ_yes (ref_yes hN hkl)
      simp (disch := (first | omega | (simp only [List.length_take, List.length_drop, List.length_append, List.length_map, List.length_cons, List.length_nil]; done) | (simp only [List.length_take, List.length_drop, List.length_append, List.length_map, List.length_cons, List.length_nil]; omega))) only [e5, d5, hmin, d6, W1, ↓W2, unbyte, implies_true, ← List.map_take, ← List.map_drop, bne_self_eq_false, eqCells, flatTD, Nat.reducePow, ayield, eq_self, exists_eq_left', exists_eq_left, Int.reduceLE, Int.reduceLT, Nat.reduceLeDiff, Int.reduceToNat, Int.reduceAdd, Int.reduceSub, Int.reduceMul, Int.reduceNeg, Int.reduceEq, argEnv, aeval, get, put, ofVal, ofVals, List.map, cond_true, cond_false, Nat.reduceBEq, nexts, allocs, countAllocs, pad, Nat.reduceAdd, Nat.reduceMul, Nat.reduceSub, Nat.reduceLT, isVoid, aNilCheck, aExtract, aInt, aStr, aConv, aSlice, asNat?, cutTight, aIndexAddr, aFieldAddr, aField, aIndex, aLoad, aStore, aAlloc, aBox, aBuild, aBuildSlice, aMakeSlice, aLen, aMax, aMin, aAppend, aCopy, aBuiltin, TD.isSlice, TD.isAgg, TD.known, TD.isSeq, partD, partOb, cellsAt, Blk.cells, if_true, if_false, splice, fillD, dl, byteD, Int.reduceBEq, Int.reduceBNe, beq_self_eq_true, retQ, retK, resD, resL, andR, elemCells, isByte, chunk, reduceCtorEq, okVal, okCell, List.replicate, ne_eq, Nat.reduceEqDiff, IntWalk.toNatUp]
      have e55 : 5 + k.length - 5 = k.length := by omega
      have hsub : ∀ H' : AHeap, H'[1]? = some (.froz (((x1 :: x2 :: x3 :: x4 :: c :: k).map Int.ofNat).map (D.int .i64))) → Sub H' (.agg [.int .i64 x1, .int .i64 x2, .int .i64 x3, .int .i64 x4, .str (b.drop a), .ref 1 5 k.length 1]) (GOp.d ⟨x1, x2, x3, x4, b.drop a, k.map Int.ofNat⟩) := fun H' h5 =>
        Sub.agg ⟨Sub.refl rfl, Sub.refl rfl, Sub.refl rfl, Sub.refl rfl, Sub.refl rfl, Sub.sl1 h5 (by simp) (fun e he => by obtain ⟨z, _, rfl⟩ := List.mem_map.1 he; rfl) (by simp; omega) (by simp only [List.map_cons, List.drop_succ_cons, List.drop_zero]; exact List.take_of_length_le (by simp)) (noL _ (ni_int _) _), trivial⟩
      refine draw_fast 0 ?_ ?_
      · decide +kernel
      simp (disch := (first | omega | (simp only [List.length_take, List.length_drop, List.length_append, List.length_map, List.length_cons, List.length_nil]; done) | (simp only [List.length_take, List.length_drop, List.length_append, List.length_map, List.length_cons, List.length_nil]; omega))) only [e5, e55, W1, ↓W2, unbyte, implies_true, ← List.map_take, ← List.map_drop, bne_self_eq_false, eqCells, flatTD, Nat.reducePow, ayield, eq_self, exists_eq_left', exists_eq_left, Int.reduceLE, Int.reduceLT, Nat.reduceLeDiff, Int.reduceToNat, Int.reduceAdd, Int.reduceSub, Int.reduceMul, Int.reduceNeg, Int.reduceEq, argEnv, aeval, get, put, ofVal, ofVals, List.map, cond_true, cond_false, Nat.reduceBEq, nexts, allocs, countAllocs, pad, Nat.reduceAdd, Nat.reduceMul, Nat.reduceSub, Nat.reduceLT, isVoid, aNilCheck, aExtract, aInt, aStr, aConv, aSlice, asNat?, cutTight, aIndexAddr, aFieldAddr, aField, aIndex, aLoad, aStore, aAlloc, aBox, aBuild, aBuildSlice, aMakeSlice, aLen, aMax, aMin, aAppend, aCopy, aBuiltin, TD.isSlice, TD.isAgg, TD.known, TD.isSeq, partD, partOb, cellsAt, Blk.cells, if_true, if_false, splice, fillD, dl, byteD, Int.reduceBEq, Int.reduceBNe, beq_self_eq_true, retQ, retK, resD, resL, andR, elemCells, isByte, chunk, reduceCtorEq, okVal, okCell, List.replicate, ne_eq, Nat.reduceEqDiff, IntWalk.toNatUp]
      refine tend_fast ?_ ?_
      · decide +kernel
      simp (disch := (first | omega | (simp only [List.length_take, List.length_drop, List.length_append, List.length_map, List.length_cons, List.length_nil]; done) | (simp only [List.length_take, List.length_drop, List.length_append, List.length_map, List.length_cons, List.length_nil]; omega))) only [W1, ↓W2, unbyte, implies_true, ← List.map_take, ← List.map_drop, bne_self_eq_false, eqCells, flatTD, Nat.reducePow, ayield, eq_self, exists_eq_left', exists_eq_left, Int.reduceLE, Int.reduceLT, Nat.reduceLeDiff, Int.reduceToNat, Int.reduceAdd, Int.reduceSub, Int.reduceMul, Int.reduceNeg, Int.reduceEq, argEnv, aeval, get, put, ofVal, ofVals, List.map, cond_true, cond_false, Nat.reduceBEq, nexts, allocs, countAllocs, pad, Nat.reduceAdd, Nat.reduceMul, Nat.reduceSub, Nat.reduceLT, isVoid, aNilCheck, aExtract, aInt, aStr, aConv, aSlice, asNat?, cutTight, aIndexAddr, aFieldAddr, aField, aIndex, aLoad, aStore, aAlloc, aBox, aBuild, aBuildSlice, aMakeSlice, aLen, aMax, aMin, aAppend, aCopy, aBuiltin, TD.isSlice, TD.isAgg, TD.known, TD.isSeq, partD, partOb, cellsAt, Blk.cells, if_true, if_false, splice, fillD, dl, byteD, Int.reduceBEq, Int.reduceBNe, beq_self_eq_true, retQ, retK, resD, resL, andR, elemCells, isByte, chunk, reduceCtorEq, okVal, okCell, List.replicate, ne_eq, Nat.reduceEqDiff, IntWalk.toNatUp]
      refine draw_fast 0 ?_ ?_
      · decide +kernel
      simp (disch := (first | omega | (simp only [List.length_take, List.length_drop, List.length_append, List.length_map, List.length_cons, List.length_nil]; done) | (simp only [List.length_take, List.length_drop, List.length_append, List.length_map, List.length_cons, List.length_nil]; omega))) only [W1, ↓W2, unbyte, implies_true, ← List.map_take, ← List.map_drop, bne_self_eq_false, eqCells, flatTD, Nat.reducePow, ayield, eq_self, exists_eq_left', exists_eq_left, Int.reduceLE, Int.reduceLT, Nat.reduceLeDiff, Int.reduceToNat, Int.reduceAdd, Int.reduceSub, Int.reduceMul, Int.reduceNeg, Int.reduceEq, argEnv, aeval, get, put, ofVal, ofVals, List.map, cond_true, cond_false, Nat.reduceBEq, nexts, allocs, countAllocs, pad, Nat.reduceAdd, Nat.reduceMul, Nat.reduceSub, Nat.reduceLT, isVoid, aNilCheck, aExtract, aInt, aStr, aConv, aSlice, asNat?, cutTight, aIndexAddr, aFieldAddr, aField, aIndex, aLoad, aStore, aAlloc, aBox, aBuild, aBuildSlice, aMakeSlice, aLen, aMax, aMin, aAppend, aCopy, aBuiltin, TD.isSlice, TD.isAgg, TD.known, TD.isSeq, partD, partOb, cellsAt, Blk.cells, if_true, if_false, splice, fillD, dl, byteD, Int.reduceBEq, Int.reduceBNe, beq_self_eq_true, retQ, retK, resD, resL, andR, elemCells, isByte, chunk, reduceCtorEq, okVal, okCell, List.replicate, ne_eq, Nat.reduceEqDiff, IntWalk.toNatUp]
      refine tcPeek [1] (right26_ok ⟨x1, x2, x3, x4, b.drop a, k.map Int.ofNat⟩ (by rw [reach_lit]; simp only [hk1]; omega)) rfl (fun H' h' => ⟨hsub _ (by rw [List.getElem?_map, h' 1 (by simp)]; rfl), trivial⟩) ?_
      simp (disch := (first | omega | (simp only [List.length_take, List.length_drop, List.length_append, List.length_map, List.length_cons, List.length_nil]; done) | (simp only [List.length_take, List.length_drop, List.length_append, List.length_map, List.length_cons, List.length_nil]; omega))) only [W1, ↓W2, unbyte, implies_true, ← List.map_take, ← List.map_drop, bne_self_eq_false, eqCells, flatTD, Nat.reducePow, ayield, eq_self, exists_eq_left', exists_eq_left, Int.reduceLE, Int.reduceLT, Nat.reduceLeDiff, Int.reduceToNat, Int.reduceAdd, Int.reduceSub, Int.reduceMul, Int.reduceNeg, Int.reduceEq, argEnv, aeval, get, put, ofVal, ofVals, List.map, cond_true, cond_false, Nat.reduceBEq, nexts, allocs, countAllocs, pad, Nat.reduceAdd, Nat.reduceMul, Nat.reduceSub, Nat.reduceLT, isVoid, aNilCheck, aExtract, aInt, aStr, aConv, aSlice, asNat?, cutTight, aIndexAddr, aFieldAddr, aField, aIndex, aLoad, aStore, aAlloc, aBox, aBuild, aBuildSlice, aMakeSlice, aLen, aMax, aMin, aAppend, aCopy, aBuiltin, TD.isSlice, TD.isAgg, TD.known, TD.isSeq, partD, partOb, cellsAt, Blk.cells, if_true, if_false, splice, fillD, dl, byteD, Int.reduceBEq, Int.reduceBNe, beq_self_eq_true, retQ, retK, resD, resL, andR, elemCells, isByte, chunk, reduceCtorEq, okVal, okCell, List.replicate, ne_eq, Nat.reduceEqDiff, IntWalk.toNatUp]
      refine tend_fast ?_ ?_
      · decide +kernel
      simp (disch := (first | omega | (simp only [List.length_take, List.length_drop, List.length_append, List.length_map, List.length_cons, List.length_nil]; done) | (simp only [List.length_take, List.length_drop, List.length_append, List.length_map, List.length_cons, List.length_nil]; omega))) only [ho, W1, ↓W2, unbyte, implies_true, ← List.map_take, ← List.map_drop, bne_self_eq_false, eqCells, flatTD, Nat.reducePow, ayield, eq_self, exists_eq_left', exists_eq_left, Int.reduceLE, Int.reduceLT, Nat.reduceLeDiff, Int.reduceToNat, Int.reduceAdd, Int.reduceSub, Int.reduceMul, Int.reduceNeg, Int.reduceEq, argEnv, aeval, get, put, ofVal, ofVals, List.map, cond_true, cond_false, Nat.reduceBEq, nexts, allocs, countAllocs, pad, Nat.reduceAdd, Nat.reduceMul, Nat.reduceSub, Nat.reduceLT, isVoid, aNilCheck, aExtract, aInt, aStr, aConv, aSlice, asNat?, cutTight, aIndexAddr, aFieldAddr, aField, aIndex, aLoad, aStore, aAlloc, aBox, aBuild, aBuildSlice, aMakeSlice, aLen, aMax, aMin, aAppend, aCopy, aBuiltin, TD.isSlice, TD.isAgg, TD.known, TD.isSeq, partD, partOb, cellsAt, Blk.cells, if_true, if_false, splice, fillD, dl, byteD, Int.reduceBEq, Int.reduceBNe, beq_self_eq_true, retQ, retK, resD, resL, andR, elemCells, isByte, chunk, reduceCtorEq, okVal, okCell, List.replicate, ne_eq, Nat.reduceEqDiff, IntWalk.toNatUp]
      exact Sub.tup ⟨hsub _ rfl, Sub.refl rfl, trivial⟩
    · have d6' := of_decide_eq_true d6
      simp (disch := (first | omega | (simp only [List.length_take, List.length_drop, List.length_append, List.length_map, List.length_cons, List.length_nil]; done) | (simp only [List.length_take, List.length_drop, List.length_append, List.length_map, List.length_cons, List.length_nil]; omega))) only [e5, d5, hmin, d6, W1, ↓W2, unbyte, implies_true, ← List.map_take, ← List.map_drop, bne_self_eq_false, eqCells, flatTD, Nat.reducePow, ayield, eq_self, exists_eq_left', exists_eq_left, Int.reduceLE, Int.reduceLT, Nat.reduceLeDiff, Int.reduceToNat, Int.reduceAdd, Int.reduceSub, Int.reduceMul, Int.reduceNeg, Int.reduceEq, argEnv, aeval, get, put, ofVal, ofVals, List.map, cond_true, cond_false, Nat.reduceBEq, nexts, allocs, countAllocs, pad, Nat.reduceAdd, Nat.reduceMul, Nat.reduceSub, Nat.reduceLT, isVoid, aNilCheck, aExtract, aInt, aStr, aConv, aSlice, asNat?, cutTight, aIndexAddr, aFieldAddr, aField, aIndex, aLoad, aStore, aAlloc, aBox, aBuild, aBuildSlice, aMakeSlice, aLen, aMax, aMin, aAppend, aCopy, aBuiltin, TD.isSlice, TD.isAgg, TD.known, TD.isSeq, partD, partOb, cellsAt, Blk.cells, if_true, if_false, splice, fillD, dl, byteD, Int.reduceBEq, Int.reduceBNe, beq_self_eq_true, retQ, retK, resD, resL, andR, elemCells, isByte, chunk, reduceCtorEq, okVal, okCell, List.replicate, ne_eq, Nat.reduceEqDiff, IntWalk.toNatUp]
      refine callP (readRef_ok b a hb oka) rfl ?_
      cases hr : readN (b.drop a) with
      | none =>
        rw [hr] at hrd
        have ho := oneQ_no (ref_no5 hN hr (by omega))
        simp (disch := (first | omega | (simp only [List.length_take, List.length_drop, List.length_append, List.length_map, List.length_cons, List.length_nil]; done) | (simp only [List.length_take, List.length_drop, List.length_append, List.length_map, List.length_cons, List.length_nil]; omega))) only [rdD, hrd, ho, zeroO, GOp.d, W1, ↓W2, unbyte, implies_true, ← List.map_take, ← List.map_drop, bne_self_eq_false, eqCells, flatTD, Nat.reducePow, ayield, eq_self, exists_eq_left', exists_eq_left, Int.reduceLE, Int.reduceLT, Nat.reduceLeDiff, Int.reduceToNat, Int.reduceAdd, Int.reduceSub, Int.reduceMul, Int.reduceNeg, Int.reduceEq, argEnv, aeval, get, put, ofVal, ofVals, List.map, cond_true, cond_false, Nat.reduceBEq, nexts, allocs, countAllocs, pad, Nat.reduceAdd, Nat.reduceMul, Nat.reduceSub, Nat.reduceLT, isVoid, aNilCheck, aExtract, aInt, aStr, aConv, aSlice, asNat?, cutTight, aIndexAddr, aFieldAddr, aField, aIndex, aLoad, aStore, aAlloc, aBox, aBuild, aBuildSlice, aMakeSlice, aLen, aMax, aMin, aAppend, aCopy, aBuiltin, TD.isSlice, TD.isAgg, TD.known, TD.isSeq, partD, partOb, cellsAt, Blk.cells, if_true, if_false, splice, fillD, dl, byteD, Int.reduceBEq, Int.reduceBNe, beq_self_eq_true, retQ, retK, resD, resL, andR, elemCells, isByte, chunk, reduceCtorEq, okVal, okCell, List.replicate, ne_eq, Nat.reduceEqDiff, IntWalk.toNatUp]
        exact Sub.tup ⟨Sub.agg ⟨Sub.refl rfl, Sub.refl rfl, Sub.refl rfl, Sub.refl rfl, Sub.refl rfl, Sub.nil _ _, trivial⟩, Sub.refl rfl, trivial⟩
      | some y =>
        obtain ⟨n, j⟩ := y
        rw [hr] at hrd
        have hN2 := hN.step
        have hl1 : (x1 :: x2 :: x3 :: x4 :: c :: k ++ [n]).length = 5 + k.length + 1 := by simp; omega
        simp only [nxt, hr] at hN2
        simp (disch := (first | omega | (simp only [List.length_take, List.length_drop, List.length_append, List.length_map, List.length_cons, List.length_nil]; done) | (simp only [List.length_take, List.length_drop, List.length_append, List.length_map, List.length_cons, List.length_nil]; omega))) only [rdD, hrd, W1, ↓W2, unbyte, implies_true, ← List.map_take, ← List.map_drop, bne_self_eq_false, eqCells, flatTD, Nat.reducePow, ayield, eq_self, exists_eq_left', exists_eq_left, Int.reduceLE, Int.reduceLT, Nat.reduceLeDiff, Int.reduceToNat, Int.reduceAdd, Int.reduceSub, Int.reduceMul, Int.reduceNeg, Int.reduceEq, argEnv, aeval, get, put, ofVal, ofVals, List.map, cond_true, cond_false, Nat.reduceBEq, nexts, allocs, countAllocs, pad, Nat.reduceAdd, Nat.reduceMul, Nat.reduceSub, Nat.reduceLT, isVoid, aNilCheck, aExtract, aInt, aStr, aConv, aSlice, asNat?, cutTight, aIndexAddr, aFieldAddr, aField, aIndex, aLoad, aStore, aAlloc, aBox, aBuild, aBuildSlice, aMakeSlice, aLen, aMax, aMin, aAppend, aCopy, aBuiltin, TD.isSlice, TD.isAgg, TD.known, TD.isSeq, partD, partOb, cellsAt, Blk.cells, if_true, if_false, splice, fillD, dl, byteD, Int.reduceBEq, Int.reduceBNe, beq_self_eq_true, retQ, retK, resD, resL, andR, elemCells, isByte, chunk, reduceCtorEq, okVal, okCell, List.replicate, ne_eq, Nat.reduceEqDiff, IntWalk.toNatUp]
        refine ⟨(x1 :: x2 :: x3 :: x4 :: c :: k ++ [n], a + j), ⟨hN2, fun _ => ?_⟩, by simp; omega, fitsR [0, 3] ?_ ?_ (by simp [liveIds]) rfl⟩
        · have e6 : (x1 :: x2 :: x3 :: x4 :: c :: k ++ [n]).getD 4 0 = c := rfl; dsimp only; rw [e6, hl1]; omega
        · exact ⟨⟨rfl, rfl⟩, ⟨rfl, rfl⟩, ⟨rfl, by simp only [hl1]; rfl⟩, ⟨rfl, by simp only [Int.natCast_add]; rfl⟩, trivial⟩
        · refine ⟨⟨rfl, rfl⟩, ⟨bnd_nats _ _ _, ?_⟩, trivial⟩
          simp only [renBlk, ren_nats, List.getElem?_cons_succ, List.getElem?_cons_zero, List.map_append, List.map]
          rfl
  · have d5 : decide ((l.length : Int) < 5) = true := decide_eq_true (by omega)
    simp (disch := (first | omega | (simp only [List.length_take, List.length_drop, List.length_append, List.length_map, List.length_cons, List.length_nil]; done) | (simp only [List.length_take, List.length_drop, List.length_append, List.length_map, List.length_cons, List.length_nil]; omega))) only [d5, W1, ↓W2, unbyte, implies_true, ← List.map_take, ← List.map_drop, bne_self_eq_false, eqCells, flatTD, Nat.reducePow, ayield, eq_self, exists_eq_left', exists_eq_left, Int.reduceLE, Int.reduceLT, Nat.reduceLeDiff, Int.reduceToNat, Int.reduceAdd, Int.reduceSub, Int.reduceMul, Int.reduceNeg, Int.reduceEq, argEnv, aeval, get, put, ofVal, ofVals, List.map, cond_true, cond_false, Nat.reduceBEq, nexts, allocs, countAllocs, pad, Nat.reduceAdd, Nat.reduceMul, Nat.reduceSub, Nat.reduceLT, isVoid, aNilCheck, aExtract, aInt, aStr, aConv, aSlice, asNat?, cutTight, aIndexAddr, aFieldAddr, aField, aIndex, aLoad, aStore, aAlloc, aBox, aBuild, aBuildSlice, aMakeSlice, aLen, aMax, aMin, aAppend, aCopy, aBuiltin, TD.isSlice, TD.isAgg, TD.known, TD.isSeq, partD, partOb, cellsAt, Blk.cells, if_true, if_false, splice, fillD, dl, byteD, Int.reduceBEq, Int.reduceBNe, beq_self_eq_true, retQ, retK, resD, resL, andR, elemCells, isByte, chunk, reduceCtorEq, okVal, okCell, List.replicate, ne_eq, Nat.reduceEqDiff, IntWalk.toNatUp]
    refine callP (readRef_ok b a hb oka) rfl ?_
    cases hr : readN (b.drop a) with
    | none =>
      rw [hr] at hrd
      have ho := oneQ_no (ref_no hN hr (by omega))
      simp (disch := (first | omega | (simp only [List.length_take, List.length_drop, List.length_append, List.length_map, List.length_cons, List.length_nil]; done) | (simp only [List.length_take, List.length_drop, List.length_append, List.length_map, List.length_cons, List.length_nil]; omega))) only [rdD, hrd, ho, zeroO, GOp.d, W1, ↓W2, unbyte, implies_true, ← List.map_take, ← List.map_drop, bne_self_eq_false, eqCells, flatTD, Nat.reducePow, ayield, eq_self, exists_eq_left', exists_eq_left, Int.reduceLE, Int.reduceLT, Nat.reduceLeDiff, Int.reduceToNat, Int.reduceAdd, Int.reduceSub, Int.reduceMul, Int.reduceNeg, Int.reduceEq, argEnv, aeval, get, put, ofVal, ofVals, List.map, cond_true, cond_false, Nat.reduceBEq, nexts, allocs, countAllocs, pad, Nat.reduceAdd, Nat.reduceMul, Nat.reduceSub, Nat.reduceLT, isVoid, aNilCheck, aExtract, aInt, aStr, aConv, aSlice, asNat?, cutTight, aIndexAddr, aFieldAddr, aField, aIndex, aLoad, aStore, aAlloc, aBox, aBuild, aBuildSlice, aMakeSlice, aLen, aMax, aMin, aAppend, aCopy, aBuiltin, TD.isSlice, TD.isAgg, TD.known, TD.isSeq, partD, partOb, cellsAt, Blk.cells, if_true, if_false, splice, fillD, dl, byteD, Int.reduceBEq, Int.reduceBNe, beq_self_eq_true, retQ, retK, resD, resL, andR, elemCells, isByte, chunk, reduceCtorEq, okVal, okCell, List.replicate, ne_eq, Nat.reduceEqDiff, IntWalk.toNatUp]
      exact Sub.tup ⟨Sub.agg ⟨Sub.refl rfl, Sub.refl rfl, Sub.refl rfl, Sub.refl rfl, Sub.refl rfl, Sub.nil _ _, trivial⟩, Sub.refl rfl, trivial⟩
    | some y =>
      obtain ⟨n, j⟩ := y
      rw [hr] at hrd
      have hN2 := hN.step
      have hl1 : (l ++ [n]).length = l.length + 1 := by simp
      simp only [nxt, hr] at hN2
      simp (disch := (first | omega | (simp only [List.length_take, List.length_drop, List.length_append, List.length_map, List.length_cons, List.length_nil]; done) | (simp only [List.length_take, List.length_drop, List.length_append, List.length_map, List.length_cons, List.length_nil]; omega))) only [rdD, hrd, W1, ↓W2, unbyte, implies_true, ← List.map_take, ← List.map_drop, bne_self_eq_false, eqCells, flatTD, Nat.reducePow, ayield, eq_self, exists_eq_left', exists_eq_left, Int.reduceLE, Int.reduceLT, Nat.reduceLeDiff, Int.reduceToNat, Int.reduceAdd, Int.reduceSub, Int.reduceMul, Int.reduceNeg, Int.reduceEq, argEnv, aeval, get, put, ofVal, ofVals, List.map, cond_true, cond_false, Nat.reduceBEq, nexts, allocs, countAllocs, pad, Nat.reduceAdd, Nat.reduceMul, Nat.reduceSub, Nat.reduceLT, isVoid, aNilCheck, aExtract, aInt, aStr, aConv, aSlice, asNat?, cutTight, aIndexAddr, aFieldAddr, aField, aIndex, aLoad, aStore, aAlloc, aBox, aBuild, aBuildSlice, aMakeSlice, aLen, aMax, aMin, aAppend, aCopy, aBuiltin, TD.isSlice, TD.isAgg, TD.known, TD.isSeq, partD, partOb, cellsAt, Blk.cells, if_true, if_false, splice, fillD, dl, byteD, Int.reduceBEq, Int.reduceBNe, beq_self_eq_true, retQ, retK, resD, resL, andR, elemCells, isByte, chunk, reduceCtorEq, okVal, okCell, List.replicate, ne_eq, Nat.reduceEqDiff, IntWalk.toNatUp]
      refine ⟨(l ++ [n], a + j), ⟨hN2, fun _ => ?_⟩, by simp; omega, fitsR [0, 3] ?_ ?_ (by simp [liveIds]) rfl⟩
      · dsimp only; rw [hl1]; omega
      · exact ⟨⟨rfl, rfl⟩, ⟨rfl, rfl⟩, ⟨rfl, by simp only [hl1]; rfl⟩, ⟨rfl, by simp only [Int.natCast_add]; rfl⟩, trivial⟩
      · refine ⟨⟨rfl, rfl⟩, ⟨bnd_nats _ _ _, ?_⟩, trivial⟩
        simp only [renBlk, ren_nats, List.getElem?_cons_succ, List.getElem?_cons_zero, List.map_append, List.map]
        rfl

end Go.Proofs.Ytbabdalfkmdlhaa
