/- Names: the document's reading, and the laws. -/
import Derived.Test.YtlkffgmejcgdbaaDoorNameA
namespace Go.Proofs.YtlkffgmejcgdbaaDoor
set_option linter.all false
-- bundled
open Go.RowKit

set_option maxRecDepth 100000
set_option pp.deepTerms.threshold 50

theorem val_snoc (l : List UInt8) (c : UInt8) (acc : Nat) : val acc (l ++ [c]) = val acc l * 10 + (c.toNat - 48) := by simp [val]
theorem name_eq (k c0 : UInt8) (t : List UInt8) (ht : t.length = 13) (hd : t.all isDig = true) : ((c0 :: t) == nameM k ((val 0 t : Nat) : Int)) = (c0 == k && decide (val 0 t ≤ 1099511627776)) := by
  rw [List.all_eq_true] at hd
  have hl := low_val t 0 hd
  rw [ht] at hl
  unfold nameM
  cases h : decide (val 0 t ≤ 1099511627776)
  · have h' := of_decide_eq_false h
    rw [if_neg (by omega), Bool.and_false]
    rfl
  · have h' := of_decide_eq_true h
    rw [if_pos (by omega), Int.toNat_natCast, hl, Bool.and_true]
    simp

theorem kindRef_ok (s : List UInt8) (hs : s.length ≤ 100) : PureF Tryd.prog 8 [.str s] (.tup [byteD (kindM s).1, .int .i64 (kindM s).2]) := by
  refine pureD (rs := [.tmp 2, .tmp 3]) tyOk mixed Tryd.func8 (by decide) rfl rfl (Nat.le_of_ble_eq_true rfl) (by decide) ?_
  cases h1 : (s == [109])
  case true =>
    have h1' : s = [109] := by simpa using h1
    subst h1'
    have e : kindM [109] = (109, 0) := rfl
    simp (disch := (first | omega | (simp only [W0]; done) | (simp only [W0]; omega))) only [h1, e, W1, ↓W2, unbyte, implies_true, ← List.map_take, ← List.map_drop, bne_self_eq_false, eqCells, flatTD, Nat.reducePow, ayield, eq_self, exists_eq_left', exists_eq_left, exists_eq', Int.reduceLE, Int.reduceLT, Nat.reduceLeDiff, Int.reduceToNat, Int.reduceAdd, Int.reduceSub, Int.reduceMul, Int.reduceNeg, Int.reduceEq, argEnv, aeval, get, put, ofVal, ofVals, List.map, cond_true, cond_false, Nat.reduceBEq, nexts, allocs, countAllocs, pad, Nat.reduceAdd, Nat.reduceMul, Nat.reduceSub, Nat.reduceLT, isVoid, aNilCheck, aExtract, constOp, TD.conc, aNilB, isNilD, notD, aCap, aClear, aAppendZ, aInt, aStr, aConv, aSlice, asNat?, cutTight, aIndexAddr, aFieldAddr, aField, aIndex, aLoad, aStore, aAlloc, aBox, aBuild, aBuildSlice, aMakeSlice, aLen, aMax, aMin, aAppend, aCopy, aBuiltin, TD.isSlice, TD.isAgg, TD.known, TD.isSeq, partD, partOb, cellsAt, Blk.cells, if_true, if_false, splice, fillD, dl, byteD, Int.reduceBEq, Int.reduceBNe, beq_self_eq_true, retQ, retK, resD, resL, andR, elemCells, isByte, chunk, reduceCtorEq, okVal, okCell, List.replicate, ne_eq, Nat.reduceEqDiff, headIds_cons, IntWalk.toNatUp]
    exact Sub.refl rfl
  cases h2 : (s == [110])
  case true =>
    have h2' : s = [110] := by simpa using h2
    subst h2'
    have e : kindM [110] = (110, 0) := rfl
    simp (disch := (first | omega | (simp only [W0]; done) | (simp only [W0]; omega))) only [h1, h2, e, W1, ↓W2, unbyte, implies_true, ← List.map_take, ← List.map_drop, bne_self_eq_false, eqCells, flatTD, Nat.reducePow, ayield, eq_self, exists_eq_left', exists_eq_left, exists_eq', Int.reduceLE, Int.reduceLT, Nat.reduceLeDiff, Int.reduceToNat, Int.reduceAdd, Int.reduceSub, Int.reduceMul, Int.reduceNeg, Int.reduceEq, argEnv, aeval, get, put, ofVal, ofVals, List.map, cond_true, cond_false, Nat.reduceBEq, nexts, allocs, countAllocs, pad, Nat.reduceAdd, Nat.reduceMul, Nat.reduceSub, Nat.reduceLT, isVoid, aNilCheck, aExtract, constOp, TD.conc, aNilB, isNilD, notD, aCap, aClear, aAppendZ, aInt, aStr, aConv, aSlice, asNat?, cutTight, aIndexAddr, aFieldAddr, aField, aIndex, aLoad, aStore, aAlloc, aBox, aBuild, aBuildSlice, aMakeSlice, aLen, aMax, aMin, aAppend, aCopy, aBuiltin, TD.isSlice, TD.isAgg, TD.known, TD.isSeq, partD, partOb, cellsAt, Blk.cells, if_true, if_false, splice, fillD, dl, byteD, Int.reduceBEq, Int.reduceBNe, beq_self_eq_true, retQ, retK, resD, resL, andR, elemCells, isByte, chunk, reduceCtorEq, okVal, okCell, List.replicate, ne_eq, Nat.reduceEqDiff, headIds_cons, IntWalk.toNatUp]
    exact Sub.refl rfl
  cases h3 : ((s.length : Int) != 14)
  case true =>
    have e := kind_short h1 h2 (by have := h3; simp at this; omega)
    simp (disch := (first | omega | (simp only [W0]; done) | (simp only [W0]; omega))) only [h1, h2, h3, e, byteD, W1, ↓W2, unbyte, implies_true, ← List.map_take, ← List.map_drop, bne_self_eq_false, eqCells, flatTD, Nat.reducePow, ayield, eq_self, exists_eq_left', exists_eq_left, exists_eq', Int.reduceLE, Int.reduceLT, Nat.reduceLeDiff, Int.reduceToNat, Int.reduceAdd, Int.reduceSub, Int.reduceMul, Int.reduceNeg, Int.reduceEq, argEnv, aeval, get, put, ofVal, ofVals, List.map, cond_true, cond_false, Nat.reduceBEq, nexts, allocs, countAllocs, pad, Nat.reduceAdd, Nat.reduceMul, Nat.reduceSub, Nat.reduceLT, isVoid, aNilCheck, aExtract, constOp, TD.conc, aNilB, isNilD, notD, aCap, aClear, aAppendZ, aInt, aStr, aConv, aSlice, asNat?, cutTight, aIndexAddr, aFieldAddr, aField, aIndex, aLoad, aStore, aAlloc, aBox, aBuild, aBuildSlice, aMakeSlice, aLen, aMax, aMin, aAppend, aCopy, aBuiltin, TD.isSlice, TD.isAgg, TD.known, TD.isSeq, partD, partOb, cellsAt, Blk.cells, if_true, if_false, splice, fillD, dl, byteD, Int.reduceBEq, Int.reduceBNe, beq_self_eq_true, retQ, retK, resD, resL, andR, elemCells, isByte, chunk, reduceCtorEq, okVal, okCell, List.replicate, ne_eq, Nat.reduceEqDiff, headIds_cons, IntWalk.toNatUp]
    exact Sub.refl rfl
  have h3' : s.length = 14 := by have := h3; simp at this; omega
  obtain ⟨c0, t, rfl⟩ : ∃ c0 t, s = c0 :: t := by
    match s, h3' with
    | c0 :: t, _ => exact ⟨c0, t, rfl⟩
  have ht : t.length = 13 := by simpa using h3'
  have ek : kindM (c0 :: t) = if ((c0 == 115 || c0 == 116) && (t.all isDig && decide (val 0 t ≤ 1099511627776))) = true then (c0, ((val 0 t : Nat) : Int)) else (0, 0) := by
    match t, ht with
    | c1 :: r, ht => exact kind_long (by simpa using ht)
  have hno : ((c0 == 115 || c0 == 116) && (t.all isDig && decide (val 0 t ≤ 1099511627776))) = false → kindM (c0 :: t) = (0, 0) := fun h => by rw [ek, h]; rfl
  simp (disch := (first | omega | (simp only [W0]; done) | (simp only [W0]; omega))) only [h1, h2, h3, ht, W1, ↓W2, unbyte, implies_true, ← List.map_take, ← List.map_drop, bne_self_eq_false, eqCells, flatTD, Nat.reducePow, ayield, eq_self, exists_eq_left', exists_eq_left, exists_eq', Int.reduceLE, Int.reduceLT, Nat.reduceLeDiff, Int.reduceToNat, Int.reduceAdd, Int.reduceSub, Int.reduceMul, Int.reduceNeg, Int.reduceEq, argEnv, aeval, get, put, ofVal, ofVals, List.map, cond_true, cond_false, Nat.reduceBEq, nexts, allocs, countAllocs, pad, Nat.reduceAdd, Nat.reduceMul, Nat.reduceSub, Nat.reduceLT, isVoid, aNilCheck, aExtract, constOp, TD.conc, aNilB, isNilD, notD, aCap, aClear, aAppendZ, aInt, aStr, aConv, aSlice, asNat?, cutTight, aIndexAddr, aFieldAddr, aField, aIndex, aLoad, aStore, aAlloc, aBox, aBuild, aBuildSlice, aMakeSlice, aLen, aMax, aMin, aAppend, aCopy, aBuiltin, TD.isSlice, TD.isAgg, TD.known, TD.isSeq, partD, partOb, cellsAt, Blk.cells, if_true, if_false, splice, fillD, dl, byteD, Int.reduceBEq, Int.reduceBNe, beq_self_eq_true, retQ, retK, resD, resL, andR, elemCells, isByte, chunk, reduceCtorEq, okVal, okCell, List.replicate, ne_eq, Nat.reduceEqDiff, headIds_cons, IntWalk.toNatUp]
  refine loopR (fun j : Nat => [(0, .str (c0 :: t)), (4, .int .i64 ((val 0 (t.take j) : Nat) : Int)), (5, .int .i64 ((j + 1 : Nat) : Int))]) (fun _ => []) (fun j => j ≤ 13 ∧ (t.take j).all isDig = true) (fun j => 13 - j) 0 ⟨Nat.zero_le _, rfl⟩ ?_ ?_
  · refine fitsR [] ?_ ?_ (by simp [liveIds]) rfl
    · simp only [Int.natCast_add, Int.cast_ofNat_Int, fe_nil, fe_data, fe_ref, fe_refc, fe_ptr, fh_nil, fh_dead, fh_live, fh_froz, liveIds, ni_int, ni_bool, ni_str, ni_agg, ni_nil, ni_sl, ni_cp, ni_nilp, ni_fn, ni_nilf, ni_tup, ni_niface, ni_iface, ni_nilL, ni_consL, Bool.and_self, List.length_cons, List.length_nil, get, cond_true, cond_false, Nat.reduceBEq, List.getElem?_cons_zero, List.getElem?_cons_succ, true_and, and_true, eq_self, List.getD_cons_zero, List.getD_cons_succ, Nat.reduceAdd, Nat.reduceLT, List.take_zero, val, List.foldl_nil, Int.natCast_zero, Nat.zero_add]
    · simp only [Int.natCast_add, Int.cast_ofNat_Int, fe_nil, fe_data, fe_ref, fe_refc, fe_ptr, fh_nil, fh_dead, fh_live, fh_froz, liveIds, ni_int, ni_bool, ni_str, ni_agg, ni_nil, ni_sl, ni_cp, ni_nilp, ni_fn, ni_nilf, ni_tup, ni_niface, ni_iface, ni_nilL, ni_consL, Bool.and_self, List.length_cons, List.length_nil, get, cond_true, cond_false, Nat.reduceBEq, List.getElem?_cons_zero, List.getElem?_cons_succ, true_and, and_true, eq_self, List.getD_cons_zero, List.getD_cons_succ, Nat.reduceAdd, Nat.reduceLT]
  intro j ⟨hj, hdj⟩
  have hvj := val_lt (t.take j) 0 (by rw [List.all_eq_true] at hdj; exact hdj)
  have hp : (0 + 1) * 10 ^ (t.take j).length ≤ 10 ^ 13 := by
    rw [Nat.zero_add, Nat.one_mul]
    exact Nat.pow_le_pow_right (by decide) (by rw [List.length_take]; omega)
  obtain ⟨n, hn⟩ : ∃ n, val 0 (t.take j) = n := ⟨_, rfl⟩
  rw [hn] at hvj
  have hnb : n < 10000000000000 := Nat.lt_of_lt_of_le hvj hp
  have ej : ((j + 1 : Nat) : Int) = (j : Int) + 1 := by omega
  cases c1 : decide ((j : Int) + 1 < 14)
  · have c1' := of_decide_eq_false c1
    obtain rfl : j = 13 := by omega
    rw [List.take_of_length_le (by omega)] at hn hdj
    have q1 := name_eq 115 c0 t ht hdj
    have q2 := name_eq 116 c0 t ht hdj
    rw [hn] at q1 q2 ek
    have f1 := segRef_ok (n : Int) (by simp only [okInt, min_i64, max_i64]; omega)
    have f2 := snapRef_ok (n : Int) (by simp only [okInt, min_i64, max_i64]; omega)
    have e14 : decide (((13 : Nat) : Int) + 1 < 14) = false := rfl
    have e14' : decide ((14 : Int) < 14) = false := rfl
    rw [hdj, Bool.true_and] at ek
    have htk : t.take 13 = t := List.take_of_length_le (by omega)
    simp (disch := (first | omega | (simp only [W0]; done) | (simp only [W0]; omega))) only [hn, ej, e14, e14', htk, W1, ↓W2, unbyte, implies_true, ← List.map_take, ← List.map_drop, bne_self_eq_false, eqCells, flatTD, Nat.reducePow, ayield, eq_self, exists_eq_left', exists_eq_left, exists_eq', Int.reduceLE, Int.reduceLT, Nat.reduceLeDiff, Int.reduceToNat, Int.reduceAdd, Int.reduceSub, Int.reduceMul, Int.reduceNeg, Int.reduceEq, argEnv, aeval, get, put, ofVal, ofVals, List.map, cond_true, cond_false, Nat.reduceBEq, nexts, allocs, countAllocs, pad, Nat.reduceAdd, Nat.reduceMul, Nat.reduceSub, Nat.reduceLT, isVoid, aNilCheck, aExtract, constOp, TD.conc, aNilB, isNilD, notD, aCap, aClear, aAppendZ, aInt, aStr, aConv, aSlice, asNat?, cutTight, aIndexAddr, aFieldAddr, aField, aIndex, aLoad, aStore, aAlloc, aBox, aBuild, aBuildSlice, aMakeSlice, aLen, aMax, aMin, aAppend, aCopy, aBuiltin, TD.isSlice, TD.isAgg, TD.known, TD.isSeq, partD, partOb, cellsAt, Blk.cells, if_true, if_false, splice, fillD, dl, byteD, Int.reduceBEq, Int.reduceBNe, beq_self_eq_true, retQ, retK, resD, resL, andR, elemCells, isByte, chunk, reduceCtorEq, okVal, okCell, List.replicate, ne_eq, Nat.reduceEqDiff, headIds_cons, IntWalk.toNatUp]
    refine callP f1 rfl ?_
    cases c2 : (c0 == 115 && decide (n ≤ 1099511627776))
    · rw [c2] at q1
      simp (disch := (first | omega | (simp only [W0]; done) | (simp only [W0]; omega))) only [q1, W1, ↓W2, unbyte, implies_true, ← List.map_take, ← List.map_drop, bne_self_eq_false, eqCells, flatTD, Nat.reducePow, ayield, eq_self, exists_eq_left', exists_eq_left, exists_eq', Int.reduceLE, Int.reduceLT, Nat.reduceLeDiff, Int.reduceToNat, Int.reduceAdd, Int.reduceSub, Int.reduceMul, Int.reduceNeg, Int.reduceEq, argEnv, aeval, get, put, ofVal, ofVals, List.map, cond_true, cond_false, Nat.reduceBEq, nexts, allocs, countAllocs, pad, Nat.reduceAdd, Nat.reduceMul, Nat.reduceSub, Nat.reduceLT, isVoid, aNilCheck, aExtract, constOp, TD.conc, aNilB, isNilD, notD, aCap, aClear, aAppendZ, aInt, aStr, aConv, aSlice, asNat?, cutTight, aIndexAddr, aFieldAddr, aField, aIndex, aLoad, aStore, aAlloc, aBox, aBuild, aBuildSlice, aMakeSlice, aLen, aMax, aMin, aAppend, aCopy, aBuiltin, TD.isSlice, TD.isAgg, TD.known, TD.isSeq, partD, partOb, cellsAt, Blk.cells, if_true, if_false, splice, fillD, dl, byteD, Int.reduceBEq, Int.reduceBNe, beq_self_eq_true, retQ, retK, resD, resL, andR, elemCells, isByte, chunk, reduceCtorEq, okVal, okCell, List.replicate, ne_eq, Nat.reduceEqDiff, headIds_cons, IntWalk.toNatUp]
      refine callP f2 rfl ?_
      cases c3 : (c0 == 116 && decide (n ≤ 1099511627776))
      · rw [c3] at q2
        have e : kindM (c0 :: t) = (0, 0) := by
          rw [ek, if_neg]
          intro h
          simp only [Bool.and_eq_true, Bool.or_eq_true] at h
          rcases h.1 with h' | h' <;> simp [h', h.2] at c2 c3
        simp (disch := (first | omega | (simp only [W0]; done) | (simp only [W0]; omega))) only [q2, e, byteD, W1, ↓W2, unbyte, implies_true, ← List.map_take, ← List.map_drop, bne_self_eq_false, eqCells, flatTD, Nat.reducePow, ayield, eq_self, exists_eq_left', exists_eq_left, exists_eq', Int.reduceLE, Int.reduceLT, Nat.reduceLeDiff, Int.reduceToNat, Int.reduceAdd, Int.reduceSub, Int.reduceMul, Int.reduceNeg, Int.reduceEq, argEnv, aeval, get, put, ofVal, ofVals, List.map, cond_true, cond_false, Nat.reduceBEq, nexts, allocs, countAllocs, pad, Nat.reduceAdd, Nat.reduceMul, Nat.reduceSub, Nat.reduceLT, isVoid, aNilCheck, aExtract, constOp, TD.conc, aNilB, isNilD, notD, aCap, aClear, aAppendZ, aInt, aStr, aConv, aSlice, asNat?, cutTight, aIndexAddr, aFieldAddr, aField, aIndex, aLoad, aStore, aAlloc, aBox, aBuild, aBuildSlice, aMakeSlice, aLen, aMax, aMin, aAppend, aCopy, aBuiltin, TD.isSlice, TD.isAgg, TD.known, TD.isSeq, partD, partOb, cellsAt, Blk.cells, if_true, if_false, splice, fillD, dl, byteD, Int.reduceBEq, Int.reduceBNe, beq_self_eq_true, retQ, retK, resD, resL, andR, elemCells, isByte, chunk, reduceCtorEq, okVal, okCell, List.replicate, ne_eq, Nat.reduceEqDiff, headIds_cons, IntWalk.toNatUp]
        exact Sub.refl rfl
      · rw [c3] at q2
        have e : kindM (c0 :: t) = (c0, (n : Int)) := by
          rw [ek, if_pos]
          simp only [Bool.and_eq_true] at c3
          rw [c3.1, c3.2, Bool.or_true]
          rfl
        simp (disch := (first | omega | (simp only [W0]; done) | (simp only [W0]; omega))) only [q2, e, byteD, W1, ↓W2, unbyte, implies_true, ← List.map_take, ← List.map_drop, bne_self_eq_false, eqCells, flatTD, Nat.reducePow, ayield, eq_self, exists_eq_left', exists_eq_left, exists_eq', Int.reduceLE, Int.reduceLT, Nat.reduceLeDiff, Int.reduceToNat, Int.reduceAdd, Int.reduceSub, Int.reduceMul, Int.reduceNeg, Int.reduceEq, argEnv, aeval, get, put, ofVal, ofVals, List.map, cond_true, cond_false, Nat.reduceBEq, nexts, allocs, countAllocs, pad, Nat.reduceAdd, Nat.reduceMul, Nat.reduceSub, Nat.reduceLT, isVoid, aNilCheck, aExtract, constOp, TD.conc, aNilB, isNilD, notD, aCap, aClear, aAppendZ, aInt, aStr, aConv, aSlice, asNat?, cutTight, aIndexAddr, aFieldAddr, aField, aIndex, aLoad, aStore, aAlloc, aBox, aBuild, aBuildSlice, aMakeSlice, aLen, aMax, aMin, aAppend, aCopy, aBuiltin, TD.isSlice, TD.isAgg, TD.known, TD.isSeq, partD, partOb, cellsAt, Blk.cells, if_true, if_false, splice, fillD, dl, byteD, Int.reduceBEq, Int.reduceBNe, beq_self_eq_true, retQ, retK, resD, resL, andR, elemCells, isByte, chunk, reduceCtorEq, okVal, okCell, List.replicate, ne_eq, Nat.reduceEqDiff, headIds_cons, IntWalk.toNatUp]
        exact Sub.refl rfl
    · rw [c2] at q1
      have e : kindM (c0 :: t) = (c0, (n : Int)) := by
        rw [ek, if_pos]
        simp only [Bool.and_eq_true] at c2
        rw [c2.1, c2.2]
        rfl
      simp (disch := (first | omega | (simp only [W0]; done) | (simp only [W0]; omega))) only [q1, e, byteD, W1, ↓W2, unbyte, implies_true, ← List.map_take, ← List.map_drop, bne_self_eq_false, eqCells, flatTD, Nat.reducePow, ayield, eq_self, exists_eq_left', exists_eq_left, exists_eq', Int.reduceLE, Int.reduceLT, Nat.reduceLeDiff, Int.reduceToNat, Int.reduceAdd, Int.reduceSub, Int.reduceMul, Int.reduceNeg, Int.reduceEq, argEnv, aeval, get, put, ofVal, ofVals, List.map, cond_true, cond_false, Nat.reduceBEq, nexts, allocs, countAllocs, pad, Nat.reduceAdd, Nat.reduceMul, Nat.reduceSub, Nat.reduceLT, isVoid, aNilCheck, aExtract, constOp, TD.conc, aNilB, isNilD, notD, aCap, aClear, aAppendZ, aInt, aStr, aConv, aSlice, asNat?, cutTight, aIndexAddr, aFieldAddr, aField, aIndex, aLoad, aStore, aAlloc, aBox, aBuild, aBuildSlice, aMakeSlice, aLen, aMax, aMin, aAppend, aCopy, aBuiltin, TD.isSlice, TD.isAgg, TD.known, TD.isSeq, partD, partOb, cellsAt, Blk.cells, if_true, if_false, splice, fillD, dl, byteD, Int.reduceBEq, Int.reduceBNe, beq_self_eq_true, retQ, retK, resD, resL, andR, elemCells, isByte, chunk, reduceCtorEq, okVal, okCell, List.replicate, ne_eq, Nat.reduceEqDiff, headIds_cons, IntWalk.toNatUp]
      exact Sub.refl rfl
  have c1' := of_decide_eq_true c1
  have hjl : j < t.length := by omega
  obtain ⟨c, hc⟩ : ∃ c, t[j] = c := ⟨_, rfl⟩
  have hgc : (c0 :: t).getD (j + 1) 0 = c := by
    rw [List.getD_cons_succ, List.getD_eq_getElem?_getD, List.getElem?_eq_getElem hjl, hc]; rfl
  have hsn : t.take (j + 1) = t.take j ++ [c] := by rw [List.take_succ_eq_append_getElem hjl, hc]
  have hmem : c ∈ t := hc ▸ List.getElem_mem hjl
  have bad : isDig c = false → kindM (c0 :: t) = (0, 0) := fun h => hno (by
    have : t.all isDig = false := by
      rw [List.all_eq_false]
      exact ⟨c, hmem, by rw [h]; decide⟩
    rw [this, Bool.false_and, Bool.and_false])
  have hjn : ((j : Int) + 1).toNat = j + 1 := by omega
  cases c2 : decide ((c.toNat : Int) < 48)
  case true =>
    have e := bad (by
      cases h : isDig c
      · rfl
      · have := (isDig_iff.1 h).1; have := of_decide_eq_true c2; omega)
    simp (disch := (first | omega | (simp only [W0]; done) | (simp only [W0]; omega))) only [ej, c1, hjn, hgc, byteD, c2, e, ht, W1, ↓W2, unbyte, implies_true, ← List.map_take, ← List.map_drop, bne_self_eq_false, eqCells, flatTD, Nat.reducePow, ayield, eq_self, exists_eq_left', exists_eq_left, exists_eq', Int.reduceLE, Int.reduceLT, Nat.reduceLeDiff, Int.reduceToNat, Int.reduceAdd, Int.reduceSub, Int.reduceMul, Int.reduceNeg, Int.reduceEq, argEnv, aeval, get, put, ofVal, ofVals, List.map, cond_true, cond_false, Nat.reduceBEq, nexts, allocs, countAllocs, pad, Nat.reduceAdd, Nat.reduceMul, Nat.reduceSub, Nat.reduceLT, isVoid, aNilCheck, aExtract, constOp, TD.conc, aNilB, isNilD, notD, aCap, aClear, aAppendZ, aInt, aStr, aConv, aSlice, asNat?, cutTight, aIndexAddr, aFieldAddr, aField, aIndex, aLoad, aStore, aAlloc, aBox, aBuild, aBuildSlice, aMakeSlice, aLen, aMax, aMin, aAppend, aCopy, aBuiltin, TD.isSlice, TD.isAgg, TD.known, TD.isSeq, partD, partOb, cellsAt, Blk.cells, if_true, if_false, splice, fillD, dl, byteD, Int.reduceBEq, Int.reduceBNe, beq_self_eq_true, retQ, retK, resD, resL, andR, elemCells, isByte, chunk, reduceCtorEq, okVal, okCell, List.replicate, ne_eq, Nat.reduceEqDiff, headIds_cons, IntWalk.toNatUp]
    exact Sub.refl rfl
  cases c3 : decide ((c.toNat : Int) > 57)
  case true =>
    have e := bad (by
      cases h : isDig c
      · rfl
      · have := (isDig_iff.1 h).2; have := of_decide_eq_true c3; omega)
    simp (disch := (first | omega | (simp only [W0]; done) | (simp only [W0]; omega))) only [ej, c1, hjn, hgc, byteD, c2, c3, e, ht, W1, ↓W2, unbyte, implies_true, ← List.map_take, ← List.map_drop, bne_self_eq_false, eqCells, flatTD, Nat.reducePow, ayield, eq_self, exists_eq_left', exists_eq_left, exists_eq', Int.reduceLE, Int.reduceLT, Nat.reduceLeDiff, Int.reduceToNat, Int.reduceAdd, Int.reduceSub, Int.reduceMul, Int.reduceNeg, Int.reduceEq, argEnv, aeval, get, put, ofVal, ofVals, List.map, cond_true, cond_false, Nat.reduceBEq, nexts, allocs, countAllocs, pad, Nat.reduceAdd, Nat.reduceMul, Nat.reduceSub, Nat.reduceLT, isVoid, aNilCheck, aExtract, constOp, TD.conc, aNilB, isNilD, notD, aCap, aClear, aAppendZ, aInt, aStr, aConv, aSlice, asNat?, cutTight, aIndexAddr, aFieldAddr, aField, aIndex, aLoad, aStore, aAlloc, aBox, aBuild, aBuildSlice, aMakeSlice, aLen, aMax, aMin, aAppend, aCopy, aBuiltin, TD.isSlice, TD.isAgg, TD.known, TD.isSeq, partD, partOb, cellsAt, Blk.cells, if_true, if_false, splice, fillD, dl, byteD, Int.reduceBEq, Int.reduceBNe, beq_self_eq_true, retQ, retK, resD, resL, andR, elemCells, isByte, chunk, reduceCtorEq, okVal, okCell, List.replicate, ne_eq, Nat.reduceEqDiff, headIds_cons, IntWalk.toNatUp]
    exact Sub.refl rfl
  have hcd : 48 ≤ c.toNat ∧ c.toNat ≤ 57 := by have := of_decide_eq_false c2; have := of_decide_eq_false c3; omega
  have hv : ((val 0 (t.take (j + 1)) : Nat) : Int) = (n : Int) * 10 + ((c.toNat : Int) - 48) := by
    rw [hsn, val_snoc, hn]
    omega
  simp (disch := (first | omega | (simp only [W0]; done) | (simp only [W0]; omega))) only [ej, c1, hjn, hgc, byteD, c2, c3, ht, hn, W1, ↓W2, unbyte, implies_true, ← List.map_take, ← List.map_drop, bne_self_eq_false, eqCells, flatTD, Nat.reducePow, ayield, eq_self, exists_eq_left', exists_eq_left, exists_eq', Int.reduceLE, Int.reduceLT, Nat.reduceLeDiff, Int.reduceToNat, Int.reduceAdd, Int.reduceSub, Int.reduceMul, Int.reduceNeg, Int.reduceEq, argEnv, aeval, get, put, ofVal, ofVals, List.map, cond_true, cond_false, Nat.reduceBEq, nexts, allocs, countAllocs, pad, Nat.reduceAdd, Nat.reduceMul, Nat.reduceSub, Nat.reduceLT, isVoid, aNilCheck, aExtract, constOp, TD.conc, aNilB, isNilD, notD, aCap, aClear, aAppendZ, aInt, aStr, aConv, aSlice, asNat?, cutTight, aIndexAddr, aFieldAddr, aField, aIndex, aLoad, aStore, aAlloc, aBox, aBuild, aBuildSlice, aMakeSlice, aLen, aMax, aMin, aAppend, aCopy, aBuiltin, TD.isSlice, TD.isAgg, TD.known, TD.isSeq, partD, partOb, cellsAt, Blk.cells, if_true, if_false, splice, fillD, dl, byteD, Int.reduceBEq, Int.reduceBNe, beq_self_eq_true, retQ, retK, resD, resL, andR, elemCells, isByte, chunk, reduceCtorEq, okVal, okCell, List.replicate, ne_eq, Nat.reduceEqDiff, headIds_cons, IntWalk.toNatUp]
  refine ⟨j + 1, ⟨by omega, ?_⟩, by omega, fitsR [] ?_ ?_ (by simp [liveIds]) rfl⟩
  · rw [hsn, List.all_append, hdj, List.all_cons, List.all_nil, isDig_iff.2 hcd]
    rfl
  · simp only [Int.natCast_add, Int.cast_ofNat_Int, fe_nil, fe_data, fe_ref, fe_refc, fe_ptr, fh_nil, fh_dead, fh_live, fh_froz, liveIds, ni_int, ni_bool, ni_str, ni_agg, ni_nil, ni_sl, ni_cp, ni_nilp, ni_fn, ni_nilf, ni_tup, ni_niface, ni_iface, ni_nilL, ni_consL, Bool.and_self, List.length_cons, List.length_nil, get, cond_true, cond_false, Nat.reduceBEq, List.getElem?_cons_zero, List.getElem?_cons_succ, true_and, and_true, eq_self, List.getD_cons_zero, List.getD_cons_succ, Nat.reduceAdd, Nat.reduceLT, hv]
  · simp only [Int.natCast_add, Int.cast_ofNat_Int, fe_nil, fe_data, fe_ref, fe_refc, fe_ptr, fh_nil, fh_dead, fh_live, fh_froz, liveIds, ni_int, ni_bool, ni_str, ni_agg, ni_nil, ni_sl, ni_cp, ni_nilp, ni_fn, ni_nilf, ni_tup, ni_niface, ni_iface, ni_nilL, ni_consL, Bool.and_self, List.length_cons, List.length_nil, get, cond_true, cond_false, Nat.reduceBEq, List.getElem?_cons_zero, List.getElem?_cons_succ, true_and, and_true, eq_self, List.getD_cons_zero, List.getD_cons_succ, Nat.reduceAdd, Nat.reduceLT]

end Go.Proofs.YtlkffgmejcgdbaaDoor
