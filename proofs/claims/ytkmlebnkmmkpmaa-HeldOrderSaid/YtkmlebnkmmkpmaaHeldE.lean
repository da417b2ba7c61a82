/- Held batches: what follows on. -/
import Derived.Test.YtkmlebnkmmkpmaaHeldD
namespace Go.Proofs.Ytkmlebnkmmkpmaa
set_option linter.all false
-- bundled

set_option maxRecDepth 100000
set_option pp.deepTerms.threshold 50

theorem lenG (x : GRec) : (GRec.d x).cells.length = 3 := rfl
theorem niG (x : GRec) : D.noIdsL (GRec.d x).cells = true := noIdsL_cells _ (GRec.noIds x)
theorem foldG (l : List GRec) : (l.map GRec.d).flatMap D.cells = flatD GRec.d l := rfl
theorem flenG (l : List GRec) : (flatD GRec.d l).length = l.length * 3 := flatD_len GRec.d 3 lenG l
theorem foneG (l : List GRec) : (flatD GRec.d l).all D.one = true := flatD_one GRec.d (fun _ => rfl) l
theorem fniG (l : List GRec) : D.noIdsL (flatD GRec.d l) = true := flatD_ni GRec.d niG l
theorem ftakeG (l : List GRec) : (flatD GRec.d l).take (l.length * 3) = flatD GRec.d l := List.take_of_length_le (by rw [flenG]; exact Nat.le_refl _)

theorem takeH_cons (l : List GRec) (t : List (List GRec)) (n : Int) : takeH (l :: t) n = if first l > n then ([], l :: t) else (l.drop (n - first l).toNat ++ (takeH t (max n (first l + l.length))).1, (takeH t (max n (first l + l.length))).2) := rfl

/-- So far. -/
structure TkI (h : List (List GRec)) (next : Int) (i : Nat) (n : Int) (X : List GRec) : Prop where
  le : i ≤ h.length
  len : X.length ≤ 64 * i
  lo : next ≤ n
  hi : n ≤ max next 1099511627777
  eq : takeH h next = (X ++ (takeH (h.drop i) n).1, (takeH (h.drop i) n).2)

theorem TkI.zero (h : List (List GRec)) (next : Int) : TkI h next 0 next [] :=
  ⟨Nat.zero_le _, Nat.le_refl _, Int.le_refl _, Int.le_max_left .., rfl⟩
theorem TkI.done {h : List (List GRec)} {next n : Int} {X : List GRec} (hI : TkI h next h.length n X) : takeH h next = (X, []) := by
  have := hI.eq
  rw [List.drop_length] at this
  simpa [takeH] using this
theorem TkI.out {h : List (List GRec)} {next n : Int} {i : Nat} {X : List GRec} (hI : TkI h next i n X) (hi : i < h.length) (hf : first h[i] > n) : takeH h next = (X, h.drop i) := by
  have := hI.eq
  rw [List.drop_eq_getElem_cons hi, takeH_cons, if_pos hf] at this
  rw [this, List.append_nil, List.drop_eq_getElem_cons hi]
theorem TkI.next {h : List (List GRec)} {next n : Int} {i : Nat} {X : List GRec} (hI : TkI h next i n X) (hi : i < h.length) (hr : rowB h[i] = true ∧ h[i] ≠ []) (hf : ¬ first h[i] > n) : TkI h next (i + 1) (max n (first h[i] + h[i].length)) (X ++ h[i].drop (n - first h[i]).toNat) := by
  have hl := row_len hr.1
  have hb := row_first hr.1 hr.2
  refine ⟨by omega, ?_, ?_, ?_, ?_⟩
  · rw [List.length_append, List.length_drop]; have := hI.len; omega
  · have := hI.lo; omega
  · have := hI.hi; omega
  · have := hI.eq
    rw [List.drop_eq_getElem_cons hi, takeH_cons, if_neg hf] at this
    rw [this]
    simp

def takeD (x : List GRec × List (List GRec)) : D := .tup [dl 3 GRec.d x.1, dl 1 (dl 3 GRec.d) x.2]

set_option maxHeartbeats 2000000 in
theorem htake_ok (h : List (List GRec)) (next : Int) (hr : RightH h) (hl : h.length ≤ 900) (hn : okInt .i64 next) : PureF Try.prog 18 [dl 1 (dl 3 GRec.d) h, .int .i64 next] (takeD (takeH h next)) := by
  refine pureD (rs := [.tmp 4, .tmp 5]) tyOk mixed Try.func18 (by decide) rfl rfl (Nat.le_of_ble_eq_true rfl) (by decide) ?_
  simp only [okInt, min_i64, max_i64] at hn
  simp (disch := (first | omega | (simp only [List.length_take, List.length_drop, List.length_append, List.length_map, List.length_cons, List.length_nil]; done) | (simp only [List.length_take, List.length_drop, List.length_append, List.length_map, List.length_cons, List.length_nil]; omega))) only [W1, ↓W2, unbyte, implies_true, ← List.map_take, ← List.map_drop, bne_self_eq_false, eqCells, flatTD, Nat.reducePow, ayield, eq_self, exists_eq_left', exists_eq_left, exists_eq', Int.reduceLE, Int.reduceLT, Nat.reduceLeDiff, Int.reduceToNat, Int.reduceAdd, Int.reduceSub, Int.reduceMul, Int.reduceNeg, Int.reduceEq, argEnv, aeval, get, put, ofVal, ofVals, List.map, cond_true, cond_false, Nat.reduceBEq, nexts, allocs, countAllocs, pad, Nat.reduceAdd, Nat.reduceMul, Nat.reduceSub, Nat.reduceLT, isVoid, aNilCheck, aExtract, aNilB, isNilD, notD, aCap, aClear, aAppendZ, aInt, aStr, aConv, aSlice, asNat?, cutTight, aIndexAddr, aFieldAddr, aField, aIndex, aLoad, aStore, aAlloc, aBox, aBuild, aBuildSlice, aMakeSlice, aLen, aMax, aMin, aAppend, aCopy, aBuiltin, TD.isSlice, TD.isAgg, TD.known, TD.isSeq, partD, partOb, cellsAt, Blk.cells, if_true, if_false, splice, fillD, dl, byteD, Int.reduceBEq, Int.reduceBNe, beq_self_eq_true, retQ, retK, resD, resL, andR, elemCells, isByte, chunk, reduceCtorEq, okVal, okCell, List.replicate, ne_eq, Nat.reduceEqDiff, headIds_cons, IntWalk.toNatUp]
  refine loopR (fun st : Nat × Int × List GRec => [(0, .sl 1 (h.map (dl 3 GRec.d)) false), (1, .int .i64 st.2.1), (6, .ref 0 0 st.2.2.length 3), (11, .sl 1 (h.map (dl 3 GRec.d)) false), (12, .int .i64 h.length), (13, .int .i64 st.1)]) (fun st => [.live (flatD GRec.d st.2.2)]) (fun st => TkI h next st.1 st.2.1 st.2.2) (fun st => h.length - st.1) (0, next, []) (TkI.zero h next) ?_ ?_
  · refine fitsNew 1 (fitsL ?_ ?_)
    · simp only [leEnv_nil', leEnv_cons', leD_self, leD_nilref, leD_nilsl, leD_uncap, leD_loose, le1_self, le1_nilref, le1_nilsl, leC_nil', leC_cons', leB_self, leB_live', leH_nil', leH_cons', get, cond_true, cond_false, Nat.reduceBEq, List.replicate, List.cons_append, List.nil_append, and_self, List.map_nil, List.length_nil, List.take_zero, List.flatMap_nil, Int.natCast_zero, List.length_nil]
    · simp only [leEnv_nil', leEnv_cons', leD_self, leD_nilref, leD_nilsl, leD_uncap, leD_loose, le1_self, le1_nilref, le1_nilsl, leC_nil', leC_cons', leB_self, leB_live', leH_nil', leH_cons', get, cond_true, cond_false, Nat.reduceBEq, List.replicate, List.cons_append, List.nil_append, and_self, List.map_nil, List.length_nil, List.take_zero, List.flatMap_nil, flatD_nil]
  rintro ⟨i, n, X⟩ hI
  simp only [] at hI
  have hi := hI.le
  have hX := hI.len
  have hlo := hI.lo
  have hhi := hI.hi
  have hfX := flenG X
  have htX := ftakeG X
  cases h1 : decide ((i : Int) < (h.length : Int))
  · obtain rfl : i = h.length := by have := of_decide_eq_false h1; omega
    have he := hI.done
    simp (disch := (first | omega | (simp only [List.length_take, List.length_drop, List.length_append, List.length_map, List.length_cons, List.length_nil]; done) | (simp only [List.length_take, List.length_drop, List.length_append, List.length_map, List.length_cons, List.length_nil]; omega))) only [h1, he, takeD, W1, ↓W2, unbyte, implies_true, ← List.map_take, ← List.map_drop, bne_self_eq_false, eqCells, flatTD, Nat.reducePow, ayield, eq_self, exists_eq_left', exists_eq_left, exists_eq', Int.reduceLE, Int.reduceLT, Nat.reduceLeDiff, Int.reduceToNat, Int.reduceAdd, Int.reduceSub, Int.reduceMul, Int.reduceNeg, Int.reduceEq, argEnv, aeval, get, put, ofVal, ofVals, List.map, cond_true, cond_false, Nat.reduceBEq, nexts, allocs, countAllocs, pad, Nat.reduceAdd, Nat.reduceMul, Nat.reduceSub, Nat.reduceLT, isVoid, aNilCheck, aExtract, aNilB, isNilD, notD, aCap, aClear, aAppendZ, aInt, aStr, aConv, aSlice, asNat?, cutTight, aIndexAddr, aFieldAddr, aField, aIndex, aLoad, aStore, aAlloc, aBox, aBuild, aBuildSlice, aMakeSlice, aLen, aMax, aMin, aAppend, aCopy, aBuiltin, TD.isSlice, TD.isAgg, TD.known, TD.isSeq, partD, partOb, cellsAt, Blk.cells, if_true, if_false, splice, fillD, dl, byteD, Int.reduceBEq, Int.reduceBNe, beq_self_eq_true, retQ, retK, resD, resL, andR, elemCells, isByte, chunk, reduceCtorEq, okVal, okCell, List.replicate, ne_eq, Nat.reduceEqDiff, headIds_cons, IntWalk.toNatUp]
    exact Sub.tup ⟨Sub.ownF GRec.d 3 _ lenG niG rfl rfl rfl, Sub.nil 1 false, trivial⟩
  have h1' := of_decide_eq_true h1
  have hil : i < h.length := by omega
  obtain ⟨l, hx⟩ : ∃ l, h[i] = l := ⟨_, rfl⟩
  have hxr := hr.row l (hx ▸ List.getElem_mem hil)
  have hll := row_len hxr.1
  have hb := row_first hxr.1 hxr.2
  cases l with
  | nil => exact absurd rfl hxr.2
  | cons b m =>
    have hf : first (b :: m) = b.at' := rfl
    rw [hf, List.length_cons] at hb
    cases c1 : decide (b.at' > n)
    case true =>
      have he := hI.out hil (by rw [hx, hf]; exact of_decide_eq_true c1)
      simp (disch := (first | omega | (simp only [List.length_take, List.length_drop, List.length_append, List.length_map, List.length_cons, List.length_nil]; done) | (simp only [List.length_take, List.length_drop, List.length_append, List.length_map, List.length_cons, List.length_nil]; omega))) only [h1, hx, dl, GRec.d, c1, he, takeD, W1, ↓W2, unbyte, implies_true, ← List.map_take, ← List.map_drop, bne_self_eq_false, eqCells, flatTD, Nat.reducePow, ayield, eq_self, exists_eq_left', exists_eq_left, exists_eq', Int.reduceLE, Int.reduceLT, Nat.reduceLeDiff, Int.reduceToNat, Int.reduceAdd, Int.reduceSub, Int.reduceMul, Int.reduceNeg, Int.reduceEq, argEnv, aeval, get, put, ofVal, ofVals, List.map, cond_true, cond_false, Nat.reduceBEq, nexts, allocs, countAllocs, pad, Nat.reduceAdd, Nat.reduceMul, Nat.reduceSub, Nat.reduceLT, isVoid, aNilCheck, aExtract, aNilB, isNilD, notD, aCap, aClear, aAppendZ, aInt, aStr, aConv, aSlice, asNat?, cutTight, aIndexAddr, aFieldAddr, aField, aIndex, aLoad, aStore, aAlloc, aBox, aBuild, aBuildSlice, aMakeSlice, aLen, aMax, aMin, aAppend, aCopy, aBuiltin, TD.isSlice, TD.isAgg, TD.known, TD.isSeq, partD, partOb, cellsAt, Blk.cells, if_true, if_false, splice, fillD, dl, byteD, Int.reduceBEq, Int.reduceBNe, beq_self_eq_true, retQ, retK, resD, resL, andR, elemCells, isByte, chunk, reduceCtorEq, okVal, okCell, List.replicate, ne_eq, Nat.reduceEqDiff, headIds_cons, IntWalk.toNatUp]
      refine draw_fast 0 ?_ ?_
      · decide +kernel
      simp (disch := (first | omega | (simp only [List.length_take, List.length_drop, List.length_append, List.length_map, List.length_cons, List.length_nil]; done) | (simp only [List.length_take, List.length_drop, List.length_append, List.length_map, List.length_cons, List.length_nil]; omega))) only [W1, ↓W2, unbyte, implies_true, ← List.map_take, ← List.map_drop, bne_self_eq_false, eqCells, flatTD, Nat.reducePow, ayield, eq_self, exists_eq_left', exists_eq_left, exists_eq', Int.reduceLE, Int.reduceLT, Nat.reduceLeDiff, Int.reduceToNat, Int.reduceAdd, Int.reduceSub, Int.reduceMul, Int.reduceNeg, Int.reduceEq, argEnv, aeval, get, put, ofVal, ofVals, List.map, cond_true, cond_false, Nat.reduceBEq, nexts, allocs, countAllocs, pad, Nat.reduceAdd, Nat.reduceMul, Nat.reduceSub, Nat.reduceLT, isVoid, aNilCheck, aExtract, aNilB, isNilD, notD, aCap, aClear, aAppendZ, aInt, aStr, aConv, aSlice, asNat?, cutTight, aIndexAddr, aFieldAddr, aField, aIndex, aLoad, aStore, aAlloc, aBox, aBuild, aBuildSlice, aMakeSlice, aLen, aMax, aMin, aAppend, aCopy, aBuiltin, TD.isSlice, TD.isAgg, TD.known, TD.isSeq, partD, partOb, cellsAt, Blk.cells, if_true, if_false, splice, fillD, dl, byteD, Int.reduceBEq, Int.reduceBNe, beq_self_eq_true, retQ, retK, resD, resL, andR, elemCells, isByte, chunk, reduceCtorEq, okVal, okCell, List.replicate, ne_eq, Nat.reduceEqDiff, headIds_cons, IntWalk.toNatUp]
      refine tend_fast ?_ ?_
      · decide +kernel
      simp (disch := (first | omega | (simp only [List.length_take, List.length_drop, List.length_append, List.length_map, List.length_cons, List.length_nil]; done) | (simp only [List.length_take, List.length_drop, List.length_append, List.length_map, List.length_cons, List.length_nil]; omega))) only [W1, ↓W2, unbyte, implies_true, ← List.map_take, ← List.map_drop, bne_self_eq_false, eqCells, flatTD, Nat.reducePow, ayield, eq_self, exists_eq_left', exists_eq_left, exists_eq', Int.reduceLE, Int.reduceLT, Nat.reduceLeDiff, Int.reduceToNat, Int.reduceAdd, Int.reduceSub, Int.reduceMul, Int.reduceNeg, Int.reduceEq, argEnv, aeval, get, put, ofVal, ofVals, List.map, cond_true, cond_false, Nat.reduceBEq, nexts, allocs, countAllocs, pad, Nat.reduceAdd, Nat.reduceMul, Nat.reduceSub, Nat.reduceLT, isVoid, aNilCheck, aExtract, aNilB, isNilD, notD, aCap, aClear, aAppendZ, aInt, aStr, aConv, aSlice, asNat?, cutTight, aIndexAddr, aFieldAddr, aField, aIndex, aLoad, aStore, aAlloc, aBox, aBuild, aBuildSlice, aMakeSlice, aLen, aMax, aMin, aAppend, aCopy, aBuiltin, TD.isSlice, TD.isAgg, TD.known, TD.isSeq, partD, partOb, cellsAt, Blk.cells, if_true, if_false, splice, fillD, dl, byteD, Int.reduceBEq, Int.reduceBNe, beq_self_eq_true, retQ, retK, resD, resL, andR, elemCells, isByte, chunk, reduceCtorEq, okVal, okCell, List.replicate, ne_eq, Nat.reduceEqDiff, headIds_cons, IntWalk.toNatUp]
      exact Sub.tup ⟨Sub.ownF GRec.d 3 _ lenG niG rfl rfl rfl, Sub.refl (dniH _), trivial⟩
    have c1' := of_decide_eq_false c1
    have hnx := hI.next hil (by rw [hx]; exact hxr) (by rw [hx, hf]; exact c1')
    rw [hx, hf, List.length_cons] at hnx
    cases c2 : decide (b.at' + ((m.length + 1 : Nat) : Int) > n)
    · have c2' := of_decide_eq_false c2
      rw [Int.max_eq_left (by omega), List.drop_of_length_le (by simp only [List.length_cons]; omega), List.append_nil] at hnx
      simp (disch := (first | omega | (simp only [List.length_take, List.length_drop, List.length_append, List.length_map, List.length_cons, List.length_nil]; done) | (simp only [List.length_take, List.length_drop, List.length_append, List.length_map, List.length_cons, List.length_nil]; omega))) only [h1, hx, dl, GRec.d, c1, c2, W1, ↓W2, unbyte, implies_true, ← List.map_take, ← List.map_drop, bne_self_eq_false, eqCells, flatTD, Nat.reducePow, ayield, eq_self, exists_eq_left', exists_eq_left, exists_eq', Int.reduceLE, Int.reduceLT, Nat.reduceLeDiff, Int.reduceToNat, Int.reduceAdd, Int.reduceSub, Int.reduceMul, Int.reduceNeg, Int.reduceEq, argEnv, aeval, get, put, ofVal, ofVals, List.map, cond_true, cond_false, Nat.reduceBEq, nexts, allocs, countAllocs, pad, Nat.reduceAdd, Nat.reduceMul, Nat.reduceSub, Nat.reduceLT, isVoid, aNilCheck, aExtract, aNilB, isNilD, notD, aCap, aClear, aAppendZ, aInt, aStr, aConv, aSlice, asNat?, cutTight, aIndexAddr, aFieldAddr, aField, aIndex, aLoad, aStore, aAlloc, aBox, aBuild, aBuildSlice, aMakeSlice, aLen, aMax, aMin, aAppend, aCopy, aBuiltin, TD.isSlice, TD.isAgg, TD.known, TD.isSeq, partD, partOb, cellsAt, Blk.cells, if_true, if_false, splice, fillD, dl, byteD, Int.reduceBEq, Int.reduceBNe, beq_self_eq_true, retQ, retK, resD, resL, andR, elemCells, isByte, chunk, reduceCtorEq, okVal, okCell, List.replicate, ne_eq, Nat.reduceEqDiff, headIds_cons, IntWalk.toNatUp]
      refine ⟨(i + 1, n, X), hnx, by simp only []; omega, fitsR [0] ?_ ?_ (by simp [liveIds]) rfl⟩
      · simp only [Int.natCast_add, Int.cast_ofNat_Int, fe_nil, fe_data, fe_ref, fe_refc, fe_ptr, fh_nil, fh_dead, fh_live, fh_froz, liveIds, ni_int, ni_bool, ni_str, ni_agg, ni_nil, ni_sl, ni_cp, ni_nilp, ni_fn, ni_nilf, ni_tup, ni_niface, ni_iface, ni_nilL, ni_consL, Bool.and_self, List.length_cons, List.length_nil, get, cond_true, cond_false, Nat.reduceBEq, List.getElem?_cons_zero, List.getElem?_cons_succ, true_and, and_true, eq_self, List.getD_cons_zero, List.getD_cons_succ, Nat.reduceAdd, Nat.reduceLT, noL _ nidR]
      · simp only [Int.natCast_add, Int.cast_ofNat_Int, fe_nil, fe_data, fe_ref, fe_refc, fe_ptr, fh_nil, fh_dead, fh_live, fh_froz, liveIds, ni_int, ni_bool, ni_str, ni_agg, ni_nil, ni_sl, ni_cp, ni_nilp, ni_fn, ni_nilf, ni_tup, ni_niface, ni_iface, ni_nilL, ni_consL, Bool.and_self, List.length_cons, List.length_nil, get, cond_true, cond_false, Nat.reduceBEq, List.getElem?_cons_zero, List.getElem?_cons_succ, true_and, and_true, eq_self, List.getD_cons_zero, List.getD_cons_succ, Nat.reduceAdd, Nat.reduceLT, fniG]
    · have c2' := of_decide_eq_true c2
      obtain ⟨k, hk⟩ : ∃ k, (n - b.at').toNat = k := ⟨_, rfl⟩
      have hki : n - b.at' = (k : Int) := by omega
      rw [Int.max_eq_right (by omega), hk] at hnx
      have hdr : List.drop k (D.agg [.int .i64 b.at', .int .i64 b.time, .str b.data] :: m.map GRec.d) = ((b :: m).drop k).map GRec.d := by rw [List.map_drop]; rfl
      have hdl : ((b :: m).drop k).length = m.length + 1 - k := by rw [List.length_drop, List.length_cons]
      have hfD := flenG ((b :: m).drop k)
      rw [hdl] at hfD
      simp (disch := (first | omega | (simp only [List.length_take, List.length_drop, List.length_append, List.length_map, List.length_cons, List.length_nil]; done) | (simp only [List.length_take, List.length_drop, List.length_append, List.length_map, List.length_cons, List.length_nil]; omega))) only [h1, hx, dl, GRec.d, c1, c2, hki, hdr, foldG, foneG, hfX, hfD, W1, ↓W2, unbyte, implies_true, ← List.map_take, ← List.map_drop, bne_self_eq_false, eqCells, flatTD, Nat.reducePow, ayield, eq_self, exists_eq_left', exists_eq_left, exists_eq', Int.reduceLE, Int.reduceLT, Nat.reduceLeDiff, Int.reduceToNat, Int.reduceAdd, Int.reduceSub, Int.reduceMul, Int.reduceNeg, Int.reduceEq, argEnv, aeval, get, put, ofVal, ofVals, List.map, cond_true, cond_false, Nat.reduceBEq, nexts, allocs, countAllocs, pad, Nat.reduceAdd, Nat.reduceMul, Nat.reduceSub, Nat.reduceLT, isVoid, aNilCheck, aExtract, aNilB, isNilD, notD, aCap, aClear, aAppendZ, aInt, aStr, aConv, aSlice, asNat?, cutTight, aIndexAddr, aFieldAddr, aField, aIndex, aLoad, aStore, aAlloc, aBox, aBuild, aBuildSlice, aMakeSlice, aLen, aMax, aMin, aAppend, aCopy, aBuiltin, TD.isSlice, TD.isAgg, TD.known, TD.isSeq, partD, partOb, cellsAt, Blk.cells, if_true, if_false, splice, fillD, dl, byteD, Int.reduceBEq, Int.reduceBNe, beq_self_eq_true, retQ, retK, resD, resL, andR, elemCells, isByte, chunk, reduceCtorEq, okVal, okCell, List.replicate, ne_eq, Nat.reduceEqDiff, headIds_cons, IntWalk.toNatUp]
      refine ⟨(i + 1, b.at' + ((m.length + 1 : Nat) : Int), X ++ (b :: m).drop k), hnx, by simp only []; omega, fitsR [1] ?_ ?_ (by simp [liveIds]) rfl⟩
      · simp only [Int.natCast_add, Int.cast_ofNat_Int, fe_nil, fe_data, fe_ref, fe_refc, fe_ptr, fh_nil, fh_dead, fh_live, fh_froz, liveIds, ni_int, ni_bool, ni_str, ni_agg, ni_nil, ni_sl, ni_cp, ni_nilp, ni_fn, ni_nilf, ni_tup, ni_niface, ni_iface, ni_nilL, ni_consL, Bool.and_self, List.length_cons, List.length_nil, get, cond_true, cond_false, Nat.reduceBEq, List.getElem?_cons_zero, List.getElem?_cons_succ, true_and, and_true, eq_self, List.getD_cons_zero, List.getD_cons_succ, Nat.reduceAdd, Nat.reduceLT, noL _ nidR, List.length_append, hdl]
      · rw [fh_live _ _ _ _ _ _ (fniG _), flatD_app]
        exact ⟨rfl, trivial⟩

theorem tdrop_in {α : Type} (l : List α) (k d : Nat) (hk : k < l.length) (hd : d ≤ k) : (l.take (k + 1)).drop d = (l.take k).drop d ++ [l[k]] := by
  rw [List.take_succ_eq_append_getElem hk, List.drop_append_of_le_length (by rw [List.length_take]; omega)]
theorem tdrop_out {α : Type} (l : List α) (k d : Nat) (hd : k ≤ d) : (l.take k).drop d = [] := List.drop_of_length_le (by rw [List.length_take]; omega)

set_option maxHeartbeats 2000000 in
theorem htakeRef_ok (h : List (List GRec)) (next : Int) (hr : RightH h) (hl : h.length ≤ 900) (hn : okInt .i64 next) : PureF Try.prog 19 [dl 1 (dl 3 GRec.d) h, .int .i64 next] (takeD (takeH h next)) := by
  refine pureD (rs := [.tmp 4, .tmp 5]) tyOk mixed Try.func19 (by decide) rfl rfl (Nat.le_of_ble_eq_true rfl) (by decide) ?_
  simp only [okInt, min_i64, max_i64] at hn
  simp (disch := (first | omega | (simp only [List.length_take, List.length_drop, List.length_append, List.length_map, List.length_cons, List.length_nil]; done) | (simp only [List.length_take, List.length_drop, List.length_append, List.length_map, List.length_cons, List.length_nil]; omega))) only [W1, ↓W2, unbyte, implies_true, ← List.map_take, ← List.map_drop, bne_self_eq_false, eqCells, flatTD, Nat.reducePow, ayield, eq_self, exists_eq_left', exists_eq_left, exists_eq', Int.reduceLE, Int.reduceLT, Nat.reduceLeDiff, Int.reduceToNat, Int.reduceAdd, Int.reduceSub, Int.reduceMul, Int.reduceNeg, Int.reduceEq, argEnv, aeval, get, put, ofVal, ofVals, List.map, cond_true, cond_false, Nat.reduceBEq, nexts, allocs, countAllocs, pad, Nat.reduceAdd, Nat.reduceMul, Nat.reduceSub, Nat.reduceLT, isVoid, aNilCheck, aExtract, aNilB, isNilD, notD, aCap, aClear, aAppendZ, aInt, aStr, aConv, aSlice, asNat?, cutTight, aIndexAddr, aFieldAddr, aField, aIndex, aLoad, aStore, aAlloc, aBox, aBuild, aBuildSlice, aMakeSlice, aLen, aMax, aMin, aAppend, aCopy, aBuiltin, TD.isSlice, TD.isAgg, TD.known, TD.isSeq, partD, partOb, cellsAt, Blk.cells, if_true, if_false, splice, fillD, dl, byteD, Int.reduceBEq, Int.reduceBNe, beq_self_eq_true, retQ, retK, resD, resL, andR, elemCells, isByte, chunk, reduceCtorEq, okVal, okCell, List.replicate, ne_eq, Nat.reduceEqDiff, headIds_cons, IntWalk.toNatUp]
  refine loopR (fun st : Nat × Int × List GRec => [(0, .sl 1 (h.map (dl 3 GRec.d)) false), (1, .int .i64 st.2.1), (6, .ref 0 0 st.2.2.length 3), (7, .int .i64 st.1)]) (fun st => [.live (flatD GRec.d st.2.2)]) (fun st => TkI h next st.1 st.2.1 st.2.2) (fun st => h.length - st.1) (0, next, []) (TkI.zero h next) ?_ ?_
  · refine fitsNew 1 (fitsL ?_ ?_)
    · simp only [leEnv_nil', leEnv_cons', leD_self, leD_nilref, leD_nilsl, leD_uncap, leD_loose, le1_self, le1_nilref, le1_nilsl, leC_nil', leC_cons', leB_self, leB_live', leH_nil', leH_cons', get, cond_true, cond_false, Nat.reduceBEq, List.replicate, List.cons_append, List.nil_append, and_self, List.map_nil, List.length_nil, List.take_zero, List.flatMap_nil, Int.natCast_zero, List.length_nil]
    · simp only [leEnv_nil', leEnv_cons', leD_self, leD_nilref, leD_nilsl, leD_uncap, leD_loose, le1_self, le1_nilref, le1_nilsl, leC_nil', leC_cons', leB_self, leB_live', leH_nil', leH_cons', get, cond_true, cond_false, Nat.reduceBEq, List.replicate, List.cons_append, List.nil_append, and_self, List.map_nil, List.length_nil, List.take_zero, List.flatMap_nil, flatD_nil]
  rintro ⟨i, n, X⟩ hI
  simp only [] at hI
  have hi := hI.le
  have hX := hI.len
  have hlo := hI.lo
  have hhi := hI.hi
  cases h1 : decide ((i : Int) < (h.length : Int))
  · obtain rfl : i = h.length := by have := of_decide_eq_false h1; omega
    have he := hI.done
    simp (disch := (first | omega | (simp only [List.length_take, List.length_drop, List.length_append, List.length_map, List.length_cons, List.length_nil]; done) | (simp only [List.length_take, List.length_drop, List.length_append, List.length_map, List.length_cons, List.length_nil]; omega))) only [h1, he, takeD, W1, ↓W2, unbyte, implies_true, ← List.map_take, ← List.map_drop, bne_self_eq_false, eqCells, flatTD, Nat.reducePow, ayield, eq_self, exists_eq_left', exists_eq_left, exists_eq', Int.reduceLE, Int.reduceLT, Nat.reduceLeDiff, Int.reduceToNat, Int.reduceAdd, Int.reduceSub, Int.reduceMul, Int.reduceNeg, Int.reduceEq, argEnv, aeval, get, put, ofVal, ofVals, List.map, cond_true, cond_false, Nat.reduceBEq, nexts, allocs, countAllocs, pad, Nat.reduceAdd, Nat.reduceMul, Nat.reduceSub, Nat.reduceLT, isVoid, aNilCheck, aExtract, aNilB, isNilD, notD, aCap, aClear, aAppendZ, aInt, aStr, aConv, aSlice, asNat?, cutTight, aIndexAddr, aFieldAddr, aField, aIndex, aLoad, aStore, aAlloc, aBox, aBuild, aBuildSlice, aMakeSlice, aLen, aMax, aMin, aAppend, aCopy, aBuiltin, TD.isSlice, TD.isAgg, TD.known, TD.isSeq, partD, partOb, cellsAt, Blk.cells, if_true, if_false, splice, fillD, dl, byteD, Int.reduceBEq, Int.reduceBNe, beq_self_eq_true, retQ, retK, resD, resL, andR, elemCells, isByte, chunk, reduceCtorEq, okVal, okCell, List.replicate, ne_eq, Nat.reduceEqDiff, headIds_cons, IntWalk.toNatUp]
    exact Sub.tup ⟨Sub.ownF GRec.d 3 _ lenG niG rfl rfl rfl, Sub.nil 1 false, trivial⟩
  have h1' := of_decide_eq_true h1
  have hil : i < h.length := by omega
  obtain ⟨l, hx⟩ : ∃ l, h[i] = l := ⟨_, rfl⟩
  have hxr := hr.row l (hx ▸ List.getElem_mem hil)
  have hll := row_len hxr.1
  have hb := row_first hxr.1 hxr.2
  cases l with
  | nil => exact absurd rfl hxr.2
  | cons b m =>
    have hf : first (b :: m) = b.at' := rfl
    rw [hf, List.length_cons] at hb
    cases c1 : decide (b.at' > n)
    case true =>
      have he := hI.out hil (by rw [hx, hf]; exact of_decide_eq_true c1)
      simp (disch := (first | omega | (simp only [List.length_take, List.length_drop, List.length_append, List.length_map, List.length_cons, List.length_nil]; done) | (simp only [List.length_take, List.length_drop, List.length_append, List.length_map, List.length_cons, List.length_nil]; omega))) only [h1, hx, dl, GRec.d, c1, he, takeD, W1, ↓W2, unbyte, implies_true, ← List.map_take, ← List.map_drop, bne_self_eq_false, eqCells, flatTD, Nat.reducePow, ayield, eq_self, exists_eq_left', exists_eq_left, exists_eq', Int.reduceLE, Int.reduceLT, Nat.reduceLeDiff, Int.reduceToNat, Int.reduceAdd, Int.reduceSub, Int.reduceMul, Int.reduceNeg, Int.reduceEq, argEnv, aeval, get, put, ofVal, ofVals, List.map, cond_true, cond_false, Nat.reduceBEq, nexts, allocs, countAllocs, pad, Nat.reduceAdd, Nat.reduceMul, Nat.reduceSub, Nat.reduceLT, isVoid, aNilCheck, aExtract, aNilB, isNilD, notD, aCap, aClear, aAppendZ, aInt, aStr, aConv, aSlice, asNat?, cutTight, aIndexAddr, aFieldAddr, aField, aIndex, aLoad, aStore, aAlloc, aBox, aBuild, aBuildSlice, aMakeSlice, aLen, aMax, aMin, aAppend, aCopy, aBuiltin, TD.isSlice, TD.isAgg, TD.known, TD.isSeq, partD, partOb, cellsAt, Blk.cells, if_true, if_false, splice, fillD, dl, byteD, Int.reduceBEq, Int.reduceBNe, beq_self_eq_true, retQ, retK, resD, resL, andR, elemCells, isByte, chunk, reduceCtorEq, okVal, okCell, List.replicate, ne_eq, Nat.reduceEqDiff, headIds_cons, IntWalk.toNatUp]
      refine draw_fast 0 ?_ ?_
      · decide +kernel
      simp (disch := (first | omega | (simp only [List.length_take, List.length_drop, List.length_append, List.length_map, List.length_cons, List.length_nil]; done) | (simp only [List.length_take, List.length_drop, List.length_append, List.length_map, List.length_cons, List.length_nil]; omega))) only [W1, ↓W2, unbyte, implies_true, ← List.map_take, ← List.map_drop, bne_self_eq_false, eqCells, flatTD, Nat.reducePow, ayield, eq_self, exists_eq_left', exists_eq_left, exists_eq', Int.reduceLE, Int.reduceLT, Nat.reduceLeDiff, Int.reduceToNat, Int.reduceAdd, Int.reduceSub, Int.reduceMul, Int.reduceNeg, Int.reduceEq, argEnv, aeval, get, put, ofVal, ofVals, List.map, cond_true, cond_false, Nat.reduceBEq, nexts, allocs, countAllocs, pad, Nat.reduceAdd, Nat.reduceMul, Nat.reduceSub, Nat.reduceLT, isVoid, aNilCheck, aExtract, aNilB, isNilD, notD, aCap, aClear, aAppendZ, aInt, aStr, aConv, aSlice, asNat?, cutTight, aIndexAddr, aFieldAddr, aField, aIndex, aLoad, aStore, aAlloc, aBox, aBuild, aBuildSlice, aMakeSlice, aLen, aMax, aMin, aAppend, aCopy, aBuiltin, TD.isSlice, TD.isAgg, TD.known, TD.isSeq, partD, partOb, cellsAt, Blk.cells, if_true, if_false, splice, fillD, dl, byteD, Int.reduceBEq, Int.reduceBNe, beq_self_eq_true, retQ, retK, resD, resL, andR, elemCells, isByte, chunk, reduceCtorEq, okVal, okCell, List.replicate, ne_eq, Nat.reduceEqDiff, headIds_cons, IntWalk.toNatUp]
      refine tend_fast ?_ ?_
      · decide +kernel
      simp (disch := (first | omega | (simp only [List.length_take, List.length_drop, List.length_append, List.length_map, List.length_cons, List.length_nil]; done) | (simp only [List.length_take, List.length_drop, List.length_append, List.length_map, List.length_cons, List.length_nil]; omega))) only [W1, ↓W2, unbyte, implies_true, ← List.map_take, ← List.map_drop, bne_self_eq_false, eqCells, flatTD, Nat.reducePow, ayield, eq_self, exists_eq_left', exists_eq_left, exists_eq', Int.reduceLE, Int.reduceLT, Nat.reduceLeDiff, Int.reduceToNat, Int.reduceAdd, Int.reduceSub, Int.reduceMul, Int.reduceNeg, Int.reduceEq, argEnv, aeval, get, put, ofVal, ofVals, List.map, cond_true, cond_false, Nat.reduceBEq, nexts, allocs, countAllocs, pad, Nat.reduceAdd, Nat.reduceMul, Nat.reduceSub, Nat.reduceLT, isVoid, aNilCheck, aExtract, aNilB, isNilD, notD, aCap, aClear, aAppendZ, aInt, aStr, aConv, aSlice, asNat?, cutTight, aIndexAddr, aFieldAddr, aField, aIndex, aLoad, aStore, aAlloc, aBox, aBuild, aBuildSlice, aMakeSlice, aLen, aMax, aMin, aAppend, aCopy, aBuiltin, TD.isSlice, TD.isAgg, TD.known, TD.isSeq, partD, partOb, cellsAt, Blk.cells, if_true, if_false, splice, fillD, dl, byteD, Int.reduceBEq, Int.reduceBNe, beq_self_eq_true, retQ, retK, resD, resL, andR, elemCells, isByte, chunk, reduceCtorEq, okVal, okCell, List.replicate, ne_eq, Nat.reduceEqDiff, headIds_cons, IntWalk.toNatUp]
      exact Sub.tup ⟨Sub.ownF GRec.d 3 _ lenG niG rfl rfl rfl, Sub.refl (dniH _), trivial⟩
    have c1' := of_decide_eq_false c1
    have hnx := hI.next hil (by rw [hx]; exact hxr) (by rw [hx, hf]; exact c1')
    rw [hx, hf, List.length_cons] at hnx
    have hni1 : (D.sl 3 (D.agg [D.int .i64 b.at', D.int .i64 b.time, D.str b.data] :: m.map GRec.d) false).noIds = true := dniR (b :: m)
    obtain ⟨L, hL⟩ : ∃ L, L = b :: m := ⟨_, rfl⟩
    have hLl : L.length = m.length + 1 := by rw [hL]; rfl
    obtain ⟨d, hd⟩ : ∃ d, (n - b.at').toNat = d := ⟨_, rfl⟩
    have hdi : n - b.at' = (d : Int) := by omega
    rw [← hL, hd] at hnx
    have hLm : L.map GRec.d = D.agg [D.int .i64 b.at', D.int .i64 b.time, D.str b.data] :: m.map GRec.d := by rw [hL]; rfl
    simp (disch := (first | omega | (simp only [List.length_take, List.length_drop, List.length_append, List.length_map, List.length_cons, List.length_nil]; done) | (simp only [List.length_take, List.length_drop, List.length_append, List.length_map, List.length_cons, List.length_nil]; omega))) only [h1, hx, dl, GRec.d, c1, W1, ↓W2, unbyte, implies_true, ← List.map_take, ← List.map_drop, bne_self_eq_false, eqCells, flatTD, Nat.reducePow, ayield, eq_self, exists_eq_left', exists_eq_left, exists_eq', Int.reduceLE, Int.reduceLT, Nat.reduceLeDiff, Int.reduceToNat, Int.reduceAdd, Int.reduceSub, Int.reduceMul, Int.reduceNeg, Int.reduceEq, argEnv, aeval, get, put, ofVal, ofVals, List.map, cond_true, cond_false, Nat.reduceBEq, nexts, allocs, countAllocs, pad, Nat.reduceAdd, Nat.reduceMul, Nat.reduceSub, Nat.reduceLT, isVoid, aNilCheck, aExtract, aNilB, isNilD, notD, aCap, aClear, aAppendZ, aInt, aStr, aConv, aSlice, asNat?, cutTight, aIndexAddr, aFieldAddr, aField, aIndex, aLoad, aStore, aAlloc, aBox, aBuild, aBuildSlice, aMakeSlice, aLen, aMax, aMin, aAppend, aCopy, aBuiltin, TD.isSlice, TD.isAgg, TD.known, TD.isSeq, partD, partOb, cellsAt, Blk.cells, if_true, if_false, splice, fillD, dl, byteD, Int.reduceBEq, Int.reduceBNe, beq_self_eq_true, retQ, retK, resD, resL, andR, elemCells, isByte, chunk, reduceCtorEq, okVal, okCell, List.replicate, ne_eq, Nat.reduceEqDiff, headIds_cons, IntWalk.toNatUp]
    refine loopR (fun k : Nat => [(0, .sl 1 (h.map (dl 3 GRec.d)) false), (1, .int .i64 (max n (b.at' + (k : Int)))), (6, .ref 0 0 (X ++ (L.take k).drop d).length 3), (7, .int .i64 i), (8, .sl 3 (L.map GRec.d) false), (9, .int .i64 k)]) (fun k => [.live (flatD GRec.d (X ++ (L.take k).drop d))]) (fun k => k ≤ L.length) (fun k => L.length - k) 0 (Nat.zero_le _) ?_ ?_
    · have hmx : max n (b.at' + (0 : Int)) = n := by omega
      refine fitsR [0] ?_ ?_ (by simp [liveIds]) rfl
      · simp only [Int.natCast_add, Int.cast_ofNat_Int, fe_nil, fe_data, fe_ref, fe_refc, fe_ptr, fh_nil, fh_dead, fh_live, fh_froz, liveIds, ni_int, ni_bool, ni_str, ni_agg, ni_nil, ni_sl, ni_cp, ni_nilp, ni_fn, ni_nilf, ni_tup, ni_niface, ni_iface, ni_nilL, ni_consL, Bool.and_self, List.length_cons, List.length_nil, get, cond_true, cond_false, Nat.reduceBEq, List.getElem?_cons_zero, List.getElem?_cons_succ, true_and, and_true, eq_self, List.getD_cons_zero, List.getD_cons_succ, Nat.reduceAdd, Nat.reduceLT, noL _ nidR, Int.natCast_zero, hmx, List.take_zero, List.drop_nil, List.append_nil, hLm, hni1]
      · simp only [Int.natCast_add, Int.cast_ofNat_Int, fe_nil, fe_data, fe_ref, fe_refc, fe_ptr, fh_nil, fh_dead, fh_live, fh_froz, liveIds, ni_int, ni_bool, ni_str, ni_agg, ni_nil, ni_sl, ni_cp, ni_nilp, ni_fn, ni_nilf, ni_tup, ni_niface, ni_iface, ni_nilL, ni_consL, Bool.and_self, List.length_cons, List.length_nil, get, cond_true, cond_false, Nat.reduceBEq, List.getElem?_cons_zero, List.getElem?_cons_succ, true_and, and_true, eq_self, List.getD_cons_zero, List.getD_cons_succ, Nat.reduceAdd, Nat.reduceLT, List.take_zero, List.drop_nil, List.append_nil, fniG]
    intro k hk
    obtain ⟨Y, hY⟩ : ∃ Y, X ++ (L.take k).drop d = Y := ⟨_, rfl⟩
    have hYl : Y.length ≤ 64 * i + k := by rw [← hY, List.length_append, List.length_drop, List.length_take]; omega
    have hfY := flenG Y
    have htY := ftakeG Y
    cases h2 : decide ((k : Int) < (L.length : Int))
    · obtain rfl : k = L.length := by have := of_decide_eq_false h2; omega
      rw [List.take_length] at hY
      have hLi : (L.length : Int) = ((m.length + 1 : Nat) : Int) := by rw [hLl]
      rw [hY, ← hLi] at hnx
      simp (disch := (first | omega | (simp only [List.length_take, List.length_drop, List.length_append, List.length_map, List.length_cons, List.length_nil]; done) | (simp only [List.length_take, List.length_drop, List.length_append, List.length_map, List.length_cons, List.length_nil]; omega))) only [h2, hY, List.take_length, W1, ↓W2, unbyte, implies_true, ← List.map_take, ← List.map_drop, bne_self_eq_false, eqCells, flatTD, Nat.reducePow, ayield, eq_self, exists_eq_left', exists_eq_left, exists_eq', Int.reduceLE, Int.reduceLT, Nat.reduceLeDiff, Int.reduceToNat, Int.reduceAdd, Int.reduceSub, Int.reduceMul, Int.reduceNeg, Int.reduceEq, argEnv, aeval, get, put, ofVal, ofVals, List.map, cond_true, cond_false, Nat.reduceBEq, nexts, allocs, countAllocs, pad, Nat.reduceAdd, Nat.reduceMul, Nat.reduceSub, Nat.reduceLT, isVoid, aNilCheck, aExtract, aNilB, isNilD, notD, aCap, aClear, aAppendZ, aInt, aStr, aConv, aSlice, asNat?, cutTight, aIndexAddr, aFieldAddr, aField, aIndex, aLoad, aStore, aAlloc, aBox, aBuild, aBuildSlice, aMakeSlice, aLen, aMax, aMin, aAppend, aCopy, aBuiltin, TD.isSlice, TD.isAgg, TD.known, TD.isSeq, partD, partOb, cellsAt, Blk.cells, if_true, if_false, splice, fillD, dl, byteD, Int.reduceBEq, Int.reduceBNe, beq_self_eq_true, retQ, retK, resD, resL, andR, elemCells, isByte, chunk, reduceCtorEq, okVal, okCell, List.replicate, ne_eq, Nat.reduceEqDiff, headIds_cons, IntWalk.toNatUp]
      refine ⟨(i + 1, max n (b.at' + (L.length : Int)), Y), hnx, by simp only []; omega, fitsR [0] ?_ ?_ (by simp [liveIds]) rfl⟩
      · simp only [Int.natCast_add, Int.cast_ofNat_Int, fe_nil, fe_data, fe_ref, fe_refc, fe_ptr, fh_nil, fh_dead, fh_live, fh_froz, liveIds, ni_int, ni_bool, ni_str, ni_agg, ni_nil, ni_sl, ni_cp, ni_nilp, ni_fn, ni_nilf, ni_tup, ni_niface, ni_iface, ni_nilL, ni_consL, Bool.and_self, List.length_cons, List.length_nil, get, cond_true, cond_false, Nat.reduceBEq, List.getElem?_cons_zero, List.getElem?_cons_succ, true_and, and_true, eq_self, List.getD_cons_zero, List.getD_cons_succ, Nat.reduceAdd, Nat.reduceLT, noL _ nidR]
      · simp only [Int.natCast_add, Int.cast_ofNat_Int, fe_nil, fe_data, fe_ref, fe_refc, fe_ptr, fh_nil, fh_dead, fh_live, fh_froz, liveIds, ni_int, ni_bool, ni_str, ni_agg, ni_nil, ni_sl, ni_cp, ni_nilp, ni_fn, ni_nilf, ni_tup, ni_niface, ni_iface, ni_nilL, ni_consL, Bool.and_self, List.length_cons, List.length_nil, get, cond_true, cond_false, Nat.reduceBEq, List.getElem?_cons_zero, List.getElem?_cons_succ, true_and, and_true, eq_self, List.getD_cons_zero, List.getD_cons_succ, Nat.reduceAdd, Nat.reduceLT, fniG]
    have h2' := of_decide_eq_true h2
    have hkl : k < L.length := by omega
    obtain ⟨q, hq⟩ : ∃ q, L[k] = q := ⟨_, rfl⟩
    have hqa : q.at' = b.at' + (k : Int) := by
      have hrL : rowB L = true := by rw [hL]; exact hxr.1
      have := (row_at hrL k hkl).2
      rw [hq] at this
      rw [this, hL]
      rfl
    by_cases hdk : d ≤ k
    · have hmx : max n (b.at' + (k : Int)) = b.at' + (k : Int) := by omega
      have c3 : (q.at' == b.at' + (k : Int)) = true := by rw [hqa]; simp
      have hnY : X ++ (L.take (k + 1)).drop d = Y ++ [q] := by rw [tdrop_in L k d hkl hdk, ← List.append_assoc, hY, hq]
      have hnl := congrArg List.length hnY
      simp only [List.length_append, List.length_cons, List.length_nil, Nat.zero_add, List.length_drop, List.length_take] at hnl
      have hmx2 : max n (b.at' + ((k + 1 : Nat) : Int)) = b.at' + (k : Int) + 1 := by omega
      rw [Int.natCast_add, Int.natCast_one] at hmx2
      simp (disch := (first | omega | (simp only [List.length_take, List.length_drop, List.length_append, List.length_map, List.length_cons, List.length_nil]; done) | (simp only [List.length_take, List.length_drop, List.length_append, List.length_map, List.length_cons, List.length_nil]; omega))) only [h2, hq, GRec.d, hmx, c3, hY, hfY, htY, Nat.zero_add, W1, ↓W2, unbyte, implies_true, ← List.map_take, ← List.map_drop, bne_self_eq_false, eqCells, flatTD, Nat.reducePow, ayield, eq_self, exists_eq_left', exists_eq_left, exists_eq', Int.reduceLE, Int.reduceLT, Nat.reduceLeDiff, Int.reduceToNat, Int.reduceAdd, Int.reduceSub, Int.reduceMul, Int.reduceNeg, Int.reduceEq, argEnv, aeval, get, put, ofVal, ofVals, List.map, cond_true, cond_false, Nat.reduceBEq, nexts, allocs, countAllocs, pad, Nat.reduceAdd, Nat.reduceMul, Nat.reduceSub, Nat.reduceLT, isVoid, aNilCheck, aExtract, aNilB, isNilD, notD, aCap, aClear, aAppendZ, aInt, aStr, aConv, aSlice, asNat?, cutTight, aIndexAddr, aFieldAddr, aField, aIndex, aLoad, aStore, aAlloc, aBox, aBuild, aBuildSlice, aMakeSlice, aLen, aMax, aMin, aAppend, aCopy, aBuiltin, TD.isSlice, TD.isAgg, TD.known, TD.isSeq, partD, partOb, cellsAt, Blk.cells, if_true, if_false, splice, fillD, dl, byteD, Int.reduceBEq, Int.reduceBNe, beq_self_eq_true, retQ, retK, resD, resL, andR, elemCells, isByte, chunk, reduceCtorEq, okVal, okCell, List.replicate, ne_eq, Nat.reduceEqDiff, headIds_cons, IntWalk.toNatUp]
      refine ⟨k + 1, by omega, by omega, fitsR [2] ?_ ?_ (by simp [liveIds]) rfl⟩
      · simp only [Int.natCast_add, Int.cast_ofNat_Int, fe_nil, fe_data, fe_ref, fe_refc, fe_ptr, fh_nil, fh_dead, fh_live, fh_froz, liveIds, ni_int, ni_bool, ni_str, ni_agg, ni_nil, ni_sl, ni_cp, ni_nilp, ni_fn, ni_nilf, ni_tup, ni_niface, ni_iface, ni_nilL, ni_consL, Bool.and_self, List.length_cons, List.length_nil, get, cond_true, cond_false, Nat.reduceBEq, List.getElem?_cons_zero, List.getElem?_cons_succ, true_and, and_true, eq_self, List.getD_cons_zero, List.getD_cons_succ, Nat.reduceAdd, Nat.reduceLT, noL _ nidR, noL _ GRec.noIds, Int.natCast_add, Int.natCast_one, hmx2, hnl]
      · rw [fh_live _ _ _ _ _ _ (fniG _), hnY, flatD_app, flatD_one1]
        exact ⟨rfl, trivial⟩
    · have hmx : max n (b.at' + (k : Int)) = n := by omega
      have c3 : (q.at' == n) = false := by rw [hqa, beq_eq_false_iff_ne]; omega
      have hnY : X ++ (L.take (k + 1)).drop d = Y := by rw [tdrop_out L (k + 1) d (by omega), ← hY, tdrop_out L k d (by omega)]
      have hnl := congrArg List.length hnY
      simp only [List.length_append, List.length_drop, List.length_take] at hnl
      have hmx2 : max n (b.at' + ((k + 1 : Nat) : Int)) = n := by omega
      rw [Int.natCast_add, Int.natCast_one] at hmx2
      simp (disch := (first | omega | (simp only [List.length_take, List.length_drop, List.length_append, List.length_map, List.length_cons, List.length_nil]; done) | (simp only [List.length_take, List.length_drop, List.length_append, List.length_map, List.length_cons, List.length_nil]; omega))) only [h2, hq, GRec.d, hmx, c3, hY, hfY, htY, W1, ↓W2, unbyte, implies_true, ← List.map_take, ← List.map_drop, bne_self_eq_false, eqCells, flatTD, Nat.reducePow, ayield, eq_self, exists_eq_left', exists_eq_left, exists_eq', Int.reduceLE, Int.reduceLT, Nat.reduceLeDiff, Int.reduceToNat, Int.reduceAdd, Int.reduceSub, Int.reduceMul, Int.reduceNeg, Int.reduceEq, argEnv, aeval, get, put, ofVal, ofVals, List.map, cond_true, cond_false, Nat.reduceBEq, nexts, allocs, countAllocs, pad, Nat.reduceAdd, Nat.reduceMul, Nat.reduceSub, Nat.reduceLT, isVoid, aNilCheck, aExtract, aNilB, isNilD, notD, aCap, aClear, aAppendZ, aInt, aStr, aConv, aSlice, asNat?, cutTight, aIndexAddr, aFieldAddr, aField, aIndex, aLoad, aStore, aAlloc, aBox, aBuild, aBuildSlice, aMakeSlice, aLen, aMax, aMin, aAppend, aCopy, aBuiltin, TD.isSlice, TD.isAgg, TD.known, TD.isSeq, partD, partOb, cellsAt, Blk.cells, if_true, if_false, splice, fillD, dl, byteD, Int.reduceBEq, Int.reduceBNe, beq_self_eq_true, retQ, retK, resD, resL, andR, elemCells, isByte, chunk, reduceCtorEq, okVal, okCell, List.replicate, ne_eq, Nat.reduceEqDiff, headIds_cons, IntWalk.toNatUp]
      refine ⟨k + 1, by omega, by omega, fitsR [0] ?_ ?_ (by simp [liveIds]) rfl⟩
      · simp only [Int.natCast_add, Int.cast_ofNat_Int, fe_nil, fe_data, fe_ref, fe_refc, fe_ptr, fh_nil, fh_dead, fh_live, fh_froz, liveIds, ni_int, ni_bool, ni_str, ni_agg, ni_nil, ni_sl, ni_cp, ni_nilp, ni_fn, ni_nilf, ni_tup, ni_niface, ni_iface, ni_nilL, ni_consL, Bool.and_self, List.length_cons, List.length_nil, get, cond_true, cond_false, Nat.reduceBEq, List.getElem?_cons_zero, List.getElem?_cons_succ, true_and, and_true, eq_self, List.getD_cons_zero, List.getD_cons_succ, Nat.reduceAdd, Nat.reduceLT, noL _ nidR, noL _ GRec.noIds, Int.natCast_add, Int.natCast_one, hmx2, hnl]
      · simp only [Int.natCast_add, Int.cast_ofNat_Int, fe_nil, fe_data, fe_ref, fe_refc, fe_ptr, fh_nil, fh_dead, fh_live, fh_froz, liveIds, ni_int, ni_bool, ni_str, ni_agg, ni_nil, ni_sl, ni_cp, ni_nilp, ni_fn, ni_nilf, ni_tup, ni_niface, ni_iface, ni_nilL, ni_consL, Bool.and_self, List.length_cons, List.length_nil, get, cond_true, cond_false, Nat.reduceBEq, List.getElem?_cons_zero, List.getElem?_cons_succ, true_and, and_true, eq_self, List.getD_cons_zero, List.getD_cons_succ, Nat.reduceAdd, Nat.reduceLT, hnY, fniG]

end Go.Proofs.Ytkmlebnkmmkpmaa
