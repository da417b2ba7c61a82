/- A disk's names; a crash. -/
import Derived.Test.YtlkffgmejcgdbaaDiskG
namespace Go.Proofs.Ytlkffgmejcgdbaa
set_option linter.all false
-- bundled

set_option maxRecDepth 100000
set_option pp.deepTerms.threshold 50

def namesM (l : List GFile) : List (List UInt8) := l.map fun f => f.name
theorem namesM_take (l : List GFile) (i : Nat) (x : GFile) (hi : i < l.length) (hx : l[i] = x) : namesM (l.take (i + 1)) = namesM (l.take i) ++ [x.name] := by
  unfold namesM
  rw [List.take_succ_eq_append_getElem hi, List.map_append, hx]
  rfl
theorem namesM_len (l : List GFile) (i : Nat) (hi : i ≤ l.length) : (namesM (l.take i)).length = i := by
  unfold namesM
  rw [List.length_map, List.length_take, Nat.min_eq_left hi]
theorem niS (l : List (List UInt8)) : D.noIdsL (l.map D.str) = true := by
  rw [D.noIdsL_eq, List.all_eq_true]
  intro d hd
  obtain ⟨x, _, rfl⟩ := List.mem_map.1 hd
  exact ni_str x
theorem niRep (n : Nat) (l : List D) (h : D.noIdsL l = true) : D.noIdsL (l ++ List.replicate n (D.str [])) = true := by
  rw [D.noIdsL_eq, List.all_append, ← D.noIdsL_eq, h, List.all_eq_true.2]
  · rfl
  · intro d hd
    rw [(List.mem_replicate.1 hd).2]
    rfl
theorem subStrs {H : AHeap} {b len : Nat} {cs : List D} (l : List (List UInt8)) (hb : H[b]? = some (.froz cs)) (hl : l.length = len) (hc : cs = l.map D.str) : Sub H (.ref b 0 len 1) (dl 1 D.str l) := by
  refine Sub.ownF D.str 1 l (fun _ => rfl) (fun x => by simp only [cells_str, ni_consL, ni_str, ni_nilL, Bool.and_self]) hb hl ?_
  rw [hc, ← flat_str]
  rfl
theorem flat_rep (n : Nat) (x : D) : (List.replicate n [x]).flatten = List.replicate n x := by
  induction n with
  | zero => rfl
  | succ n ih => rw [List.replicate_succ, List.flatten_cons, ih]; rfl

theorem namesRef_ok (d : GDisk) (hl : d.files.length ≤ 1000) : PureF Try.prog 23 [d.d] (dl 1 D.str (namesM d.files)) := by
  refine pureD (rs := [.tmp 2]) tyOk mixed Try.func23 (by decide) rfl rfl (Nat.le_of_ble_eq_true rfl) (by decide) ?_
  simp (disch := (first | omega | (simp only [W0]; done) | (simp only [W0]; omega))) only [GDisk.d, W1, ↓W2, unbyte, implies_true, ← List.map_take, ← List.map_drop, bne_self_eq_false, eqCells, flatTD, Nat.reducePow, ayield, eq_self, exists_eq_left', exists_eq_left, exists_eq', Int.reduceLE, Int.reduceLT, Nat.reduceLeDiff, Int.reduceToNat, Int.reduceAdd, Int.reduceSub, Int.reduceMul, Int.reduceNeg, Int.reduceEq, argEnv, aeval, get, put, ofVal, ofVals, List.map, cond_true, cond_false, Nat.reduceBEq, nexts, allocs, countAllocs, pad, Nat.reduceAdd, Nat.reduceMul, Nat.reduceSub, Nat.reduceLT, isVoid, aNilCheck, aExtract, aNilB, isNilD, notD, aCap, aClear, aAppendZ, aInt, aStr, aConv, aSlice, asNat?, cutTight, aIndexAddr, aFieldAddr, aField, aIndex, aLoad, aStore, aAlloc, aBox, aBuild, aBuildSlice, aMakeSlice, aLen, aMax, aMin, aAppend, aCopy, aBuiltin, TD.isSlice, TD.isAgg, TD.known, TD.isSeq, partD, partOb, cellsAt, Blk.cells, if_true, if_false, splice, fillD, dl, byteD, Int.reduceBEq, Int.reduceBNe, beq_self_eq_true, retQ, retK, resD, resL, andR, elemCells, isByte, chunk, reduceCtorEq, okVal, okCell, List.replicate, ne_eq, Nat.reduceEqDiff, headIds_cons, IntWalk.toNatUp]
  refine loopR (fun i : Nat => [(1, .ptr 0 0), (3, .ref 1 0 i 1), (4, .int .i64 i)]) (fun i => [.live [D.sl 3 (d.files.map GFile.d) false, D.int .i64 d.cap, D.bool d.armed, D.int .i64 d.left, D.bool d.down], .live ((namesM (d.files.take i)).map D.str)]) (fun i => i ≤ d.files.length) (fun i => d.files.length - i) 0 (Nat.zero_le _) ?_ ?_
  · refine fitsNew 1 (fitsL ?_ ?_)
    · simp only [leEnv_nil', leEnv_cons', leD_self, leD_nilref, leD_nilsl, leD_uncap, leD_loose, le1_self, le1_nilref, le1_nilsl, leC_nil', leC_cons', leB_self, leB_live', leH_nil', leH_cons', get, cond_true, cond_false, Nat.reduceBEq, List.replicate, List.cons_append, List.nil_append, and_self, List.map_nil, List.length_nil, List.take_zero, List.flatMap_nil, Int.natCast_zero]
    · simp only [leEnv_nil', leEnv_cons', leD_self, leD_nilref, leD_nilsl, leD_uncap, leD_loose, le1_self, le1_nilref, le1_nilsl, leC_nil', leC_cons', leB_self, leB_live', leH_nil', leH_cons', get, cond_true, cond_false, Nat.reduceBEq, List.replicate, List.cons_append, List.nil_append, and_self, List.map_nil, List.length_nil, List.take_zero, List.flatMap_nil, List.take_zero, namesM, List.map_nil]
  intro i hi
  have hnl := namesM_len d.files i hi
  obtain ⟨Y, hY⟩ : ∃ Y, namesM (d.files.take i) = Y := ⟨_, rfl⟩
  rw [hY] at hnl
  have htk : List.take i (Y.map D.str) = Y.map D.str := List.take_of_length_le (by rw [List.length_map]; omega)
  have hone := all_one_str Y
  cases h1 : decide ((i : Int) < (d.files.length : Int))
  · obtain rfl : i = d.files.length := by have := of_decide_eq_false h1; omega
    rw [List.take_length] at hY
    simp (disch := (first | omega | (simp only [W0]; done) | (simp only [W0]; omega))) only [h1, hY, W1, ↓W2, unbyte, implies_true, ← List.map_take, ← List.map_drop, bne_self_eq_false, eqCells, flatTD, Nat.reducePow, ayield, eq_self, exists_eq_left', exists_eq_left, exists_eq', Int.reduceLE, Int.reduceLT, Nat.reduceLeDiff, Int.reduceToNat, Int.reduceAdd, Int.reduceSub, Int.reduceMul, Int.reduceNeg, Int.reduceEq, argEnv, aeval, get, put, ofVal, ofVals, List.map, cond_true, cond_false, Nat.reduceBEq, nexts, allocs, countAllocs, pad, Nat.reduceAdd, Nat.reduceMul, Nat.reduceSub, Nat.reduceLT, isVoid, aNilCheck, aExtract, aNilB, isNilD, notD, aCap, aClear, aAppendZ, aInt, aStr, aConv, aSlice, asNat?, cutTight, aIndexAddr, aFieldAddr, aField, aIndex, aLoad, aStore, aAlloc, aBox, aBuild, aBuildSlice, aMakeSlice, aLen, aMax, aMin, aAppend, aCopy, aBuiltin, TD.isSlice, TD.isAgg, TD.known, TD.isSeq, partD, partOb, cellsAt, Blk.cells, if_true, if_false, splice, fillD, dl, byteD, Int.reduceBEq, Int.reduceBNe, beq_self_eq_true, retQ, retK, resD, resL, andR, elemCells, isByte, chunk, reduceCtorEq, okVal, okCell, List.replicate, ne_eq, Nat.reduceEqDiff, headIds_cons, IntWalk.toNatUp]
    exact subStrs _ rfl hnl rfl
  have h1' := of_decide_eq_true h1
  have hil : i < d.files.length := by omega
  obtain ⟨x, hx⟩ : ∃ x, d.files[i] = x := ⟨_, rfl⟩
  have hn := namesM_take d.files i x hil hx
  rw [hY] at hn
  simp (disch := (first | omega | (simp only [W0]; done) | (simp only [W0]; omega))) only [h1, hx, hY, GFile.d, htk, hone, Nat.zero_add, Nat.mul_one, List.length_map, hnl, W1, ↓W2, unbyte, implies_true, ← List.map_take, ← List.map_drop, bne_self_eq_false, eqCells, flatTD, Nat.reducePow, ayield, eq_self, exists_eq_left', exists_eq_left, exists_eq', Int.reduceLE, Int.reduceLT, Nat.reduceLeDiff, Int.reduceToNat, Int.reduceAdd, Int.reduceSub, Int.reduceMul, Int.reduceNeg, Int.reduceEq, argEnv, aeval, get, put, ofVal, ofVals, List.map, cond_true, cond_false, Nat.reduceBEq, nexts, allocs, countAllocs, pad, Nat.reduceAdd, Nat.reduceMul, Nat.reduceSub, Nat.reduceLT, isVoid, aNilCheck, aExtract, aNilB, isNilD, notD, aCap, aClear, aAppendZ, aInt, aStr, aConv, aSlice, asNat?, cutTight, aIndexAddr, aFieldAddr, aField, aIndex, aLoad, aStore, aAlloc, aBox, aBuild, aBuildSlice, aMakeSlice, aLen, aMax, aMin, aAppend, aCopy, aBuiltin, TD.isSlice, TD.isAgg, TD.known, TD.isSeq, partD, partOb, cellsAt, Blk.cells, if_true, if_false, splice, fillD, dl, byteD, Int.reduceBEq, Int.reduceBNe, beq_self_eq_true, retQ, retK, resD, resL, andR, elemCells, isByte, chunk, reduceCtorEq, okVal, okCell, List.replicate, ne_eq, Nat.reduceEqDiff, headIds_cons, IntWalk.toNatUp]
  refine ⟨i + 1, by omega, by omega, fitsR [0, 3] ?_ ?_ (by simp [liveIds]) rfl⟩
  · simp only [Int.natCast_add, Int.cast_ofNat_Int, fe_nil, fe_data, fe_ref, fe_refc, fe_ptr, fh_nil, fh_dead, fh_live, fh_froz, liveIds, ni_int, ni_bool, ni_str, ni_agg, ni_nil, ni_sl, ni_cp, ni_nilp, ni_fn, ni_nilf, ni_tup, ni_niface, ni_iface, ni_nilL, ni_consL, Bool.and_self, List.length_cons, List.length_nil, get, cond_true, cond_false, Nat.reduceBEq, List.getElem?_cons_zero, List.getElem?_cons_succ, true_and, and_true, eq_self, List.getD_cons_zero, List.getD_cons_succ, Nat.reduceAdd, Nat.reduceLT]
  · rw [fh_live _ _ _ _ _ _ (niC' d), fh_live _ _ _ _ _ _ (niS _), hn, List.map_append]
    exact ⟨rfl, rfl, trivial⟩

def namesC (l : List GFile) (i : Nat) : List D := (namesM (l.take i)).map D.str ++ List.replicate (l.length - i) (D.str [])
theorem niNC (l : List GFile) (i : Nat) : D.noIdsL (namesC l i) = true := niRep _ _ (niS _)
theorem namesC_len (l : List GFile) (i : Nat) (hi : i ≤ l.length) : (namesC l i).length = l.length := by
  unfold namesC
  rw [List.length_append, List.length_map, namesM_len l i hi, List.length_replicate]
  omega
theorem namesC_put (l : List GFile) (i : Nat) (x : GFile) (hi : i < l.length) (hx : l[i] = x) : splice (namesC l i) i [.str x.name] = namesC l (i + 1) := by
  have e : l.length - i = (l.length - (i + 1)) + 1 := by omega
  have h1 : ((namesM (l.take i)).map D.str).length = i := by rw [List.length_map, namesM_len l i (by omega)]
  have h2 := splice_app ((namesM (l.take i)).map D.str) (List.replicate (l.length - i) (D.str [])) [.str x.name]
  rw [h1] at h2
  unfold namesC
  rw [h2, namesM_take l i x hi hx, List.map_append, e, List.replicate_succ]
  rfl
theorem names_ok (d : GDisk) (hl : d.files.length ≤ 1000) : PureF Try.prog 22 [d.d] (dl 1 D.str (namesM d.files)) := by
  refine pureD (rs := [.tmp 2]) tyOk mixed Try.func22 (by decide) rfl rfl (Nat.le_of_ble_eq_true rfl) (by decide) ?_
  have hrep := flat_rep d.files.length (D.str [])
  simp (disch := (first | omega | (simp only [W0]; done) | (simp only [W0]; omega))) only [GDisk.d, hrep, W1, ↓W2, unbyte, implies_true, ← List.map_take, ← List.map_drop, bne_self_eq_false, eqCells, flatTD, Nat.reducePow, ayield, eq_self, exists_eq_left', exists_eq_left, exists_eq', Int.reduceLE, Int.reduceLT, Nat.reduceLeDiff, Int.reduceToNat, Int.reduceAdd, Int.reduceSub, Int.reduceMul, Int.reduceNeg, Int.reduceEq, argEnv, aeval, get, put, ofVal, ofVals, List.map, cond_true, cond_false, Nat.reduceBEq, nexts, allocs, countAllocs, pad, Nat.reduceAdd, Nat.reduceMul, Nat.reduceSub, Nat.reduceLT, isVoid, aNilCheck, aExtract, aNilB, isNilD, notD, aCap, aClear, aAppendZ, aInt, aStr, aConv, aSlice, asNat?, cutTight, aIndexAddr, aFieldAddr, aField, aIndex, aLoad, aStore, aAlloc, aBox, aBuild, aBuildSlice, aMakeSlice, aLen, aMax, aMin, aAppend, aCopy, aBuiltin, TD.isSlice, TD.isAgg, TD.known, TD.isSeq, partD, partOb, cellsAt, Blk.cells, if_true, if_false, splice, fillD, dl, byteD, Int.reduceBEq, Int.reduceBNe, beq_self_eq_true, retQ, retK, resD, resL, andR, elemCells, isByte, chunk, reduceCtorEq, okVal, okCell, List.replicate, ne_eq, Nat.reduceEqDiff, headIds_cons, IntWalk.toNatUp]
  refine loopR (fun i : Nat => [(1, .ptr 0 0), (3, .ref 1 0 d.files.length 1), (11, .sl 3 (d.files.map GFile.d) false), (12, .int .i64 d.files.length), (13, .int .i64 i)]) (fun i => [.live [D.sl 3 (d.files.map GFile.d) false, D.int .i64 d.cap, D.bool d.armed, D.int .i64 d.left, D.bool d.down], .live (namesC d.files i)]) (fun i => i ≤ d.files.length) (fun i => d.files.length - i) 0 (Nat.zero_le _) ?_ ?_
  · refine fitsR [0, 1] ?_ ?_ (by simp [liveIds]) rfl
    · simp only [Int.natCast_add, Int.cast_ofNat_Int, fe_nil, fe_data, fe_ref, fe_refc, fe_ptr, fh_nil, fh_dead, fh_live, fh_froz, liveIds, ni_int, ni_bool, ni_str, ni_agg, ni_nil, ni_sl, ni_cp, ni_nilp, ni_fn, ni_nilf, ni_tup, ni_niface, ni_iface, ni_nilL, ni_consL, Bool.and_self, List.length_cons, List.length_nil, get, cond_true, cond_false, Nat.reduceBEq, List.getElem?_cons_zero, List.getElem?_cons_succ, true_and, and_true, eq_self, List.getD_cons_zero, List.getD_cons_succ, Nat.reduceAdd, Nat.reduceLT, noL _ nidF, Int.natCast_zero]
    · rw [fh_live _ _ _ _ _ _ (niC' d), fh_live _ _ _ _ _ _ (niNC _ _)]
      exact ⟨rfl, rfl, trivial⟩
  intro i hi
  have hcl := namesC_len d.files i hi
  cases h1 : decide ((i : Int) < (d.files.length : Int))
  · obtain rfl : i = d.files.length := by have := of_decide_eq_false h1; omega
    simp (disch := (first | omega | (simp only [W0]; done) | (simp only [W0]; omega))) only [h1, W1, ↓W2, unbyte, implies_true, ← List.map_take, ← List.map_drop, bne_self_eq_false, eqCells, flatTD, Nat.reducePow, ayield, eq_self, exists_eq_left', exists_eq_left, exists_eq', Int.reduceLE, Int.reduceLT, Nat.reduceLeDiff, Int.reduceToNat, Int.reduceAdd, Int.reduceSub, Int.reduceMul, Int.reduceNeg, Int.reduceEq, argEnv, aeval, get, put, ofVal, ofVals, List.map, cond_true, cond_false, Nat.reduceBEq, nexts, allocs, countAllocs, pad, Nat.reduceAdd, Nat.reduceMul, Nat.reduceSub, Nat.reduceLT, isVoid, aNilCheck, aExtract, aNilB, isNilD, notD, aCap, aClear, aAppendZ, aInt, aStr, aConv, aSlice, asNat?, cutTight, aIndexAddr, aFieldAddr, aField, aIndex, aLoad, aStore, aAlloc, aBox, aBuild, aBuildSlice, aMakeSlice, aLen, aMax, aMin, aAppend, aCopy, aBuiltin, TD.isSlice, TD.isAgg, TD.known, TD.isSeq, partD, partOb, cellsAt, Blk.cells, if_true, if_false, splice, fillD, dl, byteD, Int.reduceBEq, Int.reduceBNe, beq_self_eq_true, retQ, retK, resD, resL, andR, elemCells, isByte, chunk, reduceCtorEq, okVal, okCell, List.replicate, ne_eq, Nat.reduceEqDiff, headIds_cons, IntWalk.toNatUp]
    refine subStrs _ rfl (by unfold namesM; rw [List.length_map]) ?_
    unfold namesC
    rw [List.take_length, Nat.sub_self, List.replicate_zero, List.append_nil]
  have h1' := of_decide_eq_true h1
  have hil : i < d.files.length := by omega
  obtain ⟨x, hx⟩ : ∃ x, d.files[i] = x := ⟨_, rfl⟩
  have hp := namesC_put d.files i x hil hx
  simp only [splice, List.length_cons, List.length_nil, Nat.zero_add] at hp
  simp (disch := (first | omega | (simp only [W0]; done) | (simp only [W0]; omega))) only [h1, hx, GFile.d, hcl, hp, Nat.zero_add, Nat.mul_one, W1, ↓W2, unbyte, implies_true, ← List.map_take, ← List.map_drop, bne_self_eq_false, eqCells, flatTD, Nat.reducePow, ayield, eq_self, exists_eq_left', exists_eq_left, exists_eq', Int.reduceLE, Int.reduceLT, Nat.reduceLeDiff, Int.reduceToNat, Int.reduceAdd, Int.reduceSub, Int.reduceMul, Int.reduceNeg, Int.reduceEq, argEnv, aeval, get, put, ofVal, ofVals, List.map, cond_true, cond_false, Nat.reduceBEq, nexts, allocs, countAllocs, pad, Nat.reduceAdd, Nat.reduceMul, Nat.reduceSub, Nat.reduceLT, isVoid, aNilCheck, aExtract, aNilB, isNilD, notD, aCap, aClear, aAppendZ, aInt, aStr, aConv, aSlice, asNat?, cutTight, aIndexAddr, aFieldAddr, aField, aIndex, aLoad, aStore, aAlloc, aBox, aBuild, aBuildSlice, aMakeSlice, aLen, aMax, aMin, aAppend, aCopy, aBuiltin, TD.isSlice, TD.isAgg, TD.known, TD.isSeq, partD, partOb, cellsAt, Blk.cells, if_true, if_false, splice, fillD, dl, byteD, Int.reduceBEq, Int.reduceBNe, beq_self_eq_true, retQ, retK, resD, resL, andR, elemCells, isByte, chunk, reduceCtorEq, okVal, okCell, List.replicate, ne_eq, Nat.reduceEqDiff, headIds_cons, IntWalk.toNatUp]
  refine ⟨i + 1, by omega, by omega, fitsR [0, 1] ?_ ?_ (by simp [liveIds]) rfl⟩
  · simp only [Int.natCast_add, Int.cast_ofNat_Int, fe_nil, fe_data, fe_ref, fe_refc, fe_ptr, fh_nil, fh_dead, fh_live, fh_froz, liveIds, ni_int, ni_bool, ni_str, ni_agg, ni_nil, ni_sl, ni_cp, ni_nilp, ni_fn, ni_nilf, ni_tup, ni_niface, ni_iface, ni_nilL, ni_consL, Bool.and_self, List.length_cons, List.length_nil, get, cond_true, cond_false, Nat.reduceBEq, List.getElem?_cons_zero, List.getElem?_cons_succ, true_and, and_true, eq_self, List.getD_cons_zero, List.getD_cons_succ, Nat.reduceAdd, Nat.reduceLT, noL _ nidF]
  · rw [fh_live _ _ _ _ _ _ (niC' d), fh_live _ _ _ _ _ _ (niNC _ _)]
    exact ⟨rfl, rfl, trivial⟩

/-- A crash, file by file. -/
def crash1 (f : GFile) (k : Int) : GFile := ⟨f.name, f.data.take (f.sure + max 0 (min k (f.data.length - f.sure))).toNat, f.sure + max 0 (min k (f.data.length - f.sure))⟩
theorem crashF_len : ∀ (l : List GFile) (k : List Int), (crashF l k).length = l.length
  | [], _ => rfl
  | f :: l, k => by simp [crashF, crashF_len l k.tail]
theorem crashF_snoc (x : GFile) : ∀ (l : List GFile) (k : List Int), crashF (l ++ [x]) k = crashF l k ++ [crash1 x (k.getD l.length 0)]
  | [], k => by cases k <;> rfl
  | f :: l, k => by
    have := crashF_snoc x l k.tail
    simp only [List.cons_append, crashF, this, List.length_cons]
    cases k <;> rfl
theorem crashF_take (l : List GFile) (k : List Int) (i : Nat) (x : GFile) (hi : i < l.length) (hx : l[i] = x) : crashF (l.take (i + 1)) k = crashF (l.take i) k ++ [crash1 x (k.getD i 0)] := by
  rw [List.take_succ_eq_append_getElem hi, crashF_snoc, hx, List.length_take, Nat.min_eq_left (by omega)]
theorem rightL_all : ∀ (s : List UInt8) (l : List GFile), rightL s l = true → ∀ f, f ∈ l → okFB f = true
  | _, [], _, f, hf => by cases hf
  | s, g :: l, h, f, hf => by
    simp only [rightL, Bool.and_eq_true] at h
    rcases List.mem_cons.1 hf with rfl | hf
    · exact h.1.1
    · exact rightL_all g.name l h.2 f hf
theorem okFB_sure {f : GFile} (h : okFB f = true) : 0 ≤ f.sure ∧ f.sure ≤ f.data.length := by
  simp only [okFB, Bool.and_eq_true, decide_eq_true_eq] at h
  exact h.2

theorem crashRef_ok (d : GDisk) (keep : List Int) (hl : d.files.length ≤ 1000) (hk : okL (okInt .i64) keep) (hd : ∀ f, f ∈ d.files → f.data.length ≤ 1000000) (hr : ∀ f, f ∈ d.files → okFB f = true) : PureF Try.prog 39 [d.d, dl 1 (D.int .i64) keep] (crashM d keep).d := by
  refine pureD (rs := [.cell 4 27]) tyOk mixed Try.func39 (by decide) rfl rfl (Nat.le_of_ble_eq_true rfl) (by decide) ?_
  have hkl := hk.1
  rw [reach_lit] at hkl
  simp (disch := (first | omega | (simp only [W0]; done) | (simp only [W0]; omega))) only [GDisk.d, W1, ↓W2, unbyte, implies_true, ← List.map_take, ← List.map_drop, bne_self_eq_false, eqCells, flatTD, Nat.reducePow, ayield, eq_self, exists_eq_left', exists_eq_left, exists_eq', Int.reduceLE, Int.reduceLT, Nat.reduceLeDiff, Int.reduceToNat, Int.reduceAdd, Int.reduceSub, Int.reduceMul, Int.reduceNeg, Int.reduceEq, argEnv, aeval, get, put, ofVal, ofVals, List.map, cond_true, cond_false, Nat.reduceBEq, nexts, allocs, countAllocs, pad, Nat.reduceAdd, Nat.reduceMul, Nat.reduceSub, Nat.reduceLT, isVoid, aNilCheck, aExtract, aNilB, isNilD, notD, aCap, aClear, aAppendZ, aInt, aStr, aConv, aSlice, asNat?, cutTight, aIndexAddr, aFieldAddr, aField, aIndex, aLoad, aStore, aAlloc, aBox, aBuild, aBuildSlice, aMakeSlice, aLen, aMax, aMin, aAppend, aCopy, aBuiltin, TD.isSlice, TD.isAgg, TD.known, TD.isSeq, partD, partOb, cellsAt, Blk.cells, if_true, if_false, splice, fillD, dl, byteD, Int.reduceBEq, Int.reduceBNe, beq_self_eq_true, retQ, retK, resD, resL, andR, elemCells, isByte, chunk, reduceCtorEq, okVal, okCell, List.replicate, ne_eq, Nat.reduceEqDiff, headIds_cons, IntWalk.toNatUp]
  refine loopR (fun i : Nat => [(1, .sl 1 (keep.map (D.int .i64)) false), (2, .ptr 0 0), (4, .ptr 1 0), (5, .ref 2 0 i 3), (6, .int .i64 i)]) (fun i => [.live [D.sl 3 (d.files.map GFile.d) false, D.int .i64 d.cap, D.bool d.armed, D.int .i64 d.left, D.bool d.down], .live zerosD, .live (flatD GFile.d (crashF (d.files.take i) keep))]) (fun i => i ≤ d.files.length) (fun i => d.files.length - i) 0 (Nat.zero_le _) ?_ ?_
  · refine fitsNew 1 (fitsL ?_ ?_)
    · simp only [leEnv_nil', leEnv_cons', leD_self, leD_nilref, leD_nilsl, leD_uncap, leD_loose, le1_self, le1_nilref, le1_nilsl, leC_nil', leC_cons', leB_self, leB_live', leH_nil', leH_cons', get, cond_true, cond_false, Nat.reduceBEq, List.replicate, List.cons_append, List.nil_append, and_self, List.map_nil, List.length_nil, List.take_zero, List.flatMap_nil, Int.natCast_zero]
    · simp only [leEnv_nil', leEnv_cons', leD_self, leD_nilref, leD_nilsl, leD_uncap, leD_loose, le1_self, le1_nilref, le1_nilsl, leC_nil', leC_cons', leB_self, leB_live', leH_nil', leH_cons', get, cond_true, cond_false, Nat.reduceBEq, List.replicate, List.cons_append, List.nil_append, and_self, List.map_nil, List.length_nil, List.take_zero, List.flatMap_nil, zerosD, List.take_zero, crashF, flatD_nil]
  intro i hi
  obtain ⟨Y, hY⟩ : ∃ Y, crashF (d.files.take i) keep = Y := ⟨_, rfl⟩
  have hYl : Y.length = i := by rw [← hY, crashF_len, List.length_take, Nat.min_eq_left hi]
  have hfY := flenF Y
  have htY := ftakeF Y
  rw [hYl] at hfY htY
  cases h1 : decide ((i : Int) < (d.files.length : Int))
  · obtain rfl : i = d.files.length := by have := of_decide_eq_false h1; omega
    rw [List.take_length] at hY
    simp (disch := (first | omega | (simp only [W0]; done) | (simp only [W0]; omega))) only [h1, hY, zerosD, crashM, W1, ↓W2, unbyte, implies_true, ← List.map_take, ← List.map_drop, bne_self_eq_false, eqCells, flatTD, Nat.reducePow, ayield, eq_self, exists_eq_left', exists_eq_left, exists_eq', Int.reduceLE, Int.reduceLT, Nat.reduceLeDiff, Int.reduceToNat, Int.reduceAdd, Int.reduceSub, Int.reduceMul, Int.reduceNeg, Int.reduceEq, argEnv, aeval, get, put, ofVal, ofVals, List.map, cond_true, cond_false, Nat.reduceBEq, nexts, allocs, countAllocs, pad, Nat.reduceAdd, Nat.reduceMul, Nat.reduceSub, Nat.reduceLT, isVoid, aNilCheck, aExtract, aNilB, isNilD, notD, aCap, aClear, aAppendZ, aInt, aStr, aConv, aSlice, asNat?, cutTight, aIndexAddr, aFieldAddr, aField, aIndex, aLoad, aStore, aAlloc, aBox, aBuild, aBuildSlice, aMakeSlice, aLen, aMax, aMin, aAppend, aCopy, aBuiltin, TD.isSlice, TD.isAgg, TD.known, TD.isSeq, partD, partOb, cellsAt, Blk.cells, if_true, if_false, splice, fillD, dl, byteD, Int.reduceBEq, Int.reduceBNe, beq_self_eq_true, retQ, retK, resD, resL, andR, elemCells, isByte, chunk, reduceCtorEq, okVal, okCell, List.replicate, ne_eq, Nat.reduceEqDiff, headIds_cons, IntWalk.toNatUp]
    exact Sub.agg ⟨Sub.ownF GFile.d 3 _ lenF niF rfl hYl rfl, Sub.refl rfl, Sub.refl rfl, Sub.refl rfl, Sub.refl rfl, trivial⟩
  have h1' := of_decide_eq_true h1
  have hil : i < d.files.length := by omega
  obtain ⟨x, hx⟩ : ∃ x, d.files[i] = x := ⟨_, rfl⟩
  have hxd := hd x (hx ▸ List.getElem_mem hil)
  obtain ⟨hs1, hs2⟩ := okFB_sure (hr x (hx ▸ List.getElem_mem hil))
  have hn := crashF_take d.files keep i x hil hx
  rw [hY] at hn
  have fin : ∀ (n : Int), n = max 0 (min (keep.getD i 0) (x.data.length - x.sure)) → 0 ≤ n ∧ x.sure + n ≤ x.data.length ∧ crash1 x (keep.getD i 0) = ⟨x.name, x.data.take (x.sure + n).toNat, x.sure + n⟩ ∧ ((x.data.take (x.sure + n).toNat).length : Int) = x.sure + n := fun n hn => by
    have h1 : 0 ≤ n ∧ x.sure + n ≤ x.data.length := by omega
    refine ⟨h1.1, h1.2, by rw [crash1, ← hn], ?_⟩
    rw [List.length_take]
    omega
  cases h2 : decide ((i : Int) < (keep.length : Int))
  · have h2' := of_decide_eq_false h2
    obtain ⟨f1, f2, f3, f4⟩ := fin 0 (by rw [List.getD_eq_getElem?_getD, List.getElem?_eq_none (by omega)]; simp only [Option.getD_none]; omega)
    have ez : x.sure + 0 = x.sure := by omega
    rw [ez] at f2 f3 f4
    have hlen : (List.take x.sure.toNat x.data).length = x.sure.toNat := by omega
    have hlen2 : ((x.sure.toNat : Nat) : Int) = x.sure := by omega
    simp (disch := (first | omega | (simp only [W0]; done) | (simp only [W0]; omega))) only [h1, h2, hx, hY, GFile.d, hfY, htY, Nat.zero_add, ez, hlen, hlen2, W1, ↓W2, unbyte, implies_true, ← List.map_take, ← List.map_drop, bne_self_eq_false, eqCells, flatTD, Nat.reducePow, ayield, eq_self, exists_eq_left', exists_eq_left, exists_eq', Int.reduceLE, Int.reduceLT, Nat.reduceLeDiff, Int.reduceToNat, Int.reduceAdd, Int.reduceSub, Int.reduceMul, Int.reduceNeg, Int.reduceEq, argEnv, aeval, get, put, ofVal, ofVals, List.map, cond_true, cond_false, Nat.reduceBEq, nexts, allocs, countAllocs, pad, Nat.reduceAdd, Nat.reduceMul, Nat.reduceSub, Nat.reduceLT, isVoid, aNilCheck, aExtract, aNilB, isNilD, notD, aCap, aClear, aAppendZ, aInt, aStr, aConv, aSlice, asNat?, cutTight, aIndexAddr, aFieldAddr, aField, aIndex, aLoad, aStore, aAlloc, aBox, aBuild, aBuildSlice, aMakeSlice, aLen, aMax, aMin, aAppend, aCopy, aBuiltin, TD.isSlice, TD.isAgg, TD.known, TD.isSeq, partD, partOb, cellsAt, Blk.cells, if_true, if_false, splice, fillD, dl, byteD, Int.reduceBEq, Int.reduceBNe, beq_self_eq_true, retQ, retK, resD, resL, andR, elemCells, isByte, chunk, reduceCtorEq, okVal, okCell, List.replicate, ne_eq, Nat.reduceEqDiff, headIds_cons, IntWalk.toNatUp]
    refine ⟨i + 1, by omega, by omega, fitsR [0, 1, 5] ?_ ?_ (by simp [liveIds]) rfl⟩
    · simp only [Int.natCast_add, Int.cast_ofNat_Int, fe_nil, fe_data, fe_ref, fe_refc, fe_ptr, fh_nil, fh_dead, fh_live, fh_froz, liveIds, ni_int, ni_bool, ni_str, ni_agg, ni_nil, ni_sl, ni_cp, ni_nilp, ni_fn, ni_nilf, ni_tup, ni_niface, ni_iface, ni_nilL, ni_consL, Bool.and_self, List.length_cons, List.length_nil, get, cond_true, cond_false, Nat.reduceBEq, List.getElem?_cons_zero, List.getElem?_cons_succ, true_and, and_true, eq_self, List.getD_cons_zero, List.getD_cons_succ, Nat.reduceAdd, Nat.reduceLT, hYl, noL _ (ni_int _)]
    · rw [fh_live _ _ _ _ _ _ (niC' d), fh_live _ _ _ _ _ _ rfl, fh_live _ _ _ _ _ _ (fniF _), hn, flatD_app, flatD_one1, f3]
      exact ⟨rfl, rfl, rfl, trivial⟩
  have h2' := of_decide_eq_true h2
  have hik : i < keep.length := by omega
  obtain ⟨K, hK⟩ : ∃ K, keep[i] = K := ⟨_, rfl⟩
  have hKo := hk.2 K (hK ▸ List.getElem_mem hik)
  simp only [okInt, min_i64, max_i64] at hKo
  have hKd : keep.getD i 0 = K := by rw [List.getD_eq_getElem?_getD, List.getElem?_eq_getElem hik, hK]; rfl
  obtain ⟨n, hn0⟩ : ∃ n, max 0 (min (keep.getD i 0) ((x.data.length : Int) - x.sure)) = n := ⟨_, rfl⟩
  obtain ⟨f1, f2, f3, f4⟩ := fin n hn0.symm
  rw [hKd] at hn0
  have hmm : (if (if (x.data.length : Int) - x.sure < K then (x.data.length : Int) - x.sure else K) > 0 then (if (x.data.length : Int) - x.sure < K then (x.data.length : Int) - x.sure else K) else 0) = n := by rw [← hn0]; split <;> split <;> omega
  have hlen2 : ((List.take (x.sure + n).toNat x.data).length : Int) = x.sure + n := f4
  rw [List.length_take] at hlen2
  simp (disch := (first | omega | (simp only [W0]; done) | (simp only [W0]; omega))) only [h1, h2, hx, hY, GFile.d, W1, ↓W2, unbyte, implies_true, ← List.map_take, ← List.map_drop, bne_self_eq_false, eqCells, flatTD, Nat.reducePow, ayield, eq_self, exists_eq_left', exists_eq_left, exists_eq', Int.reduceLE, Int.reduceLT, Nat.reduceLeDiff, Int.reduceToNat, Int.reduceAdd, Int.reduceSub, Int.reduceMul, Int.reduceNeg, Int.reduceEq, argEnv, aeval, get, put, ofVal, ofVals, List.map, cond_true, cond_false, Nat.reduceBEq, nexts, allocs, countAllocs, pad, Nat.reduceAdd, Nat.reduceMul, Nat.reduceSub, Nat.reduceLT, isVoid, aNilCheck, aExtract, aNilB, isNilD, notD, aCap, aClear, aAppendZ, aInt, aStr, aConv, aSlice, asNat?, cutTight, aIndexAddr, aFieldAddr, aField, aIndex, aLoad, aStore, aAlloc, aBox, aBuild, aBuildSlice, aMakeSlice, aLen, aMax, aMin, aAppend, aCopy, aBuiltin, TD.isSlice, TD.isAgg, TD.known, TD.isSeq, partD, partOb, cellsAt, Blk.cells, if_true, if_false, splice, fillD, dl, byteD, Int.reduceBEq, Int.reduceBNe, beq_self_eq_true, retQ, retK, resD, resL, andR, elemCells, isByte, chunk, reduceCtorEq, okVal, okCell, List.replicate, ne_eq, Nat.reduceEqDiff, headIds_cons, IntWalk.toNatUp]
  refine draw_fast 0 ?_ ?_
  · decide +kernel
  simp (disch := (first | omega | (simp only [W0]; done) | (simp only [W0]; omega))) only [hK, hmm, W1, ↓W2, unbyte, implies_true, ← List.map_take, ← List.map_drop, bne_self_eq_false, eqCells, flatTD, Nat.reducePow, ayield, eq_self, exists_eq_left', exists_eq_left, exists_eq', Int.reduceLE, Int.reduceLT, Nat.reduceLeDiff, Int.reduceToNat, Int.reduceAdd, Int.reduceSub, Int.reduceMul, Int.reduceNeg, Int.reduceEq, argEnv, aeval, get, put, ofVal, ofVals, List.map, cond_true, cond_false, Nat.reduceBEq, nexts, allocs, countAllocs, pad, Nat.reduceAdd, Nat.reduceMul, Nat.reduceSub, Nat.reduceLT, isVoid, aNilCheck, aExtract, aNilB, isNilD, notD, aCap, aClear, aAppendZ, aInt, aStr, aConv, aSlice, asNat?, cutTight, aIndexAddr, aFieldAddr, aField, aIndex, aLoad, aStore, aAlloc, aBox, aBuild, aBuildSlice, aMakeSlice, aLen, aMax, aMin, aAppend, aCopy, aBuiltin, TD.isSlice, TD.isAgg, TD.known, TD.isSeq, partD, partOb, cellsAt, Blk.cells, if_true, if_false, splice, fillD, dl, byteD, Int.reduceBEq, Int.reduceBNe, beq_self_eq_true, retQ, retK, resD, resL, andR, elemCells, isByte, chunk, reduceCtorEq, okVal, okCell, List.replicate, ne_eq, Nat.reduceEqDiff, headIds_cons, IntWalk.toNatUp]
  refine tend_fast ?_ ?_
  · decide +kernel
  simp (disch := (first | omega | (simp only [W0]; done) | (simp only [W0]; omega))) only [hfY, htY, Nat.zero_add, hlen2, hmm, W1, ↓W2, unbyte, implies_true, ← List.map_take, ← List.map_drop, bne_self_eq_false, eqCells, flatTD, Nat.reducePow, ayield, eq_self, exists_eq_left', exists_eq_left, exists_eq', Int.reduceLE, Int.reduceLT, Nat.reduceLeDiff, Int.reduceToNat, Int.reduceAdd, Int.reduceSub, Int.reduceMul, Int.reduceNeg, Int.reduceEq, argEnv, aeval, get, put, ofVal, ofVals, List.map, cond_true, cond_false, Nat.reduceBEq, nexts, allocs, countAllocs, pad, Nat.reduceAdd, Nat.reduceMul, Nat.reduceSub, Nat.reduceLT, isVoid, aNilCheck, aExtract, aNilB, isNilD, notD, aCap, aClear, aAppendZ, aInt, aStr, aConv, aSlice, asNat?, cutTight, aIndexAddr, aFieldAddr, aField, aIndex, aLoad, aStore, aAlloc, aBox, aBuild, aBuildSlice, aMakeSlice, aLen, aMax, aMin, aAppend, aCopy, aBuiltin, TD.isSlice, TD.isAgg, TD.known, TD.isSeq, partD, partOb, cellsAt, Blk.cells, if_true, if_false, splice, fillD, dl, byteD, Int.reduceBEq, Int.reduceBNe, beq_self_eq_true, retQ, retK, resD, resL, andR, elemCells, isByte, chunk, reduceCtorEq, okVal, okCell, List.replicate, ne_eq, Nat.reduceEqDiff, headIds_cons, IntWalk.toNatUp]
  refine ⟨i + 1, by omega, by omega, fitsR [0, 1, 5] ?_ ?_ (by simp [liveIds]) rfl⟩
  · simp only [Int.natCast_add, Int.cast_ofNat_Int, fe_nil, fe_data, fe_ref, fe_refc, fe_ptr, fh_nil, fh_dead, fh_live, fh_froz, liveIds, ni_int, ni_bool, ni_str, ni_agg, ni_nil, ni_sl, ni_cp, ni_nilp, ni_fn, ni_nilf, ni_tup, ni_niface, ni_iface, ni_nilL, ni_consL, Bool.and_self, List.length_cons, List.length_nil, get, cond_true, cond_false, Nat.reduceBEq, List.getElem?_cons_zero, List.getElem?_cons_succ, true_and, and_true, eq_self, List.getD_cons_zero, List.getD_cons_succ, Nat.reduceAdd, Nat.reduceLT, hYl, noL _ (ni_int _)]
  · rw [fh_live _ _ _ _ _ _ (niC' d), fh_live _ _ _ _ _ _ rfl, fh_live _ _ _ _ _ _ (fniF _), hn, flatD_app, flatD_one1, f3]
    exact ⟨rfl, rfl, rfl, trivial⟩

theorem crash_ok (d : GDisk) (keep : List Int) (hl : d.files.length ≤ 1000) (hk : okL (okInt .i64) keep) (hd : ∀ f, f ∈ d.files → f.data.length ≤ 1000000) (hr : ∀ f, f ∈ d.files → okFB f = true) : PureF Try.prog 15 [d.d, dl 1 (D.int .i64) keep] (crashM d keep).d := by
  refine pureD (rs := [.cell 4 27]) tyOk mixed Try.func15 (by decide) rfl rfl (Nat.le_of_ble_eq_true rfl) (by decide) ?_
  have hkl := hk.1
  rw [reach_lit] at hkl
  simp (disch := (first | omega | (simp only [W0]; done) | (simp only [W0]; omega))) only [GDisk.d, W1, ↓W2, unbyte, implies_true, ← List.map_take, ← List.map_drop, bne_self_eq_false, eqCells, flatTD, Nat.reducePow, ayield, eq_self, exists_eq_left', exists_eq_left, exists_eq', Int.reduceLE, Int.reduceLT, Nat.reduceLeDiff, Int.reduceToNat, Int.reduceAdd, Int.reduceSub, Int.reduceMul, Int.reduceNeg, Int.reduceEq, argEnv, aeval, get, put, ofVal, ofVals, List.map, cond_true, cond_false, Nat.reduceBEq, nexts, allocs, countAllocs, pad, Nat.reduceAdd, Nat.reduceMul, Nat.reduceSub, Nat.reduceLT, isVoid, aNilCheck, aExtract, aNilB, isNilD, notD, aCap, aClear, aAppendZ, aInt, aStr, aConv, aSlice, asNat?, cutTight, aIndexAddr, aFieldAddr, aField, aIndex, aLoad, aStore, aAlloc, aBox, aBuild, aBuildSlice, aMakeSlice, aLen, aMax, aMin, aAppend, aCopy, aBuiltin, TD.isSlice, TD.isAgg, TD.known, TD.isSeq, partD, partOb, cellsAt, Blk.cells, if_true, if_false, splice, fillD, dl, byteD, Int.reduceBEq, Int.reduceBNe, beq_self_eq_true, retQ, retK, resD, resL, andR, elemCells, isByte, chunk, reduceCtorEq, okVal, okCell, List.replicate, ne_eq, Nat.reduceEqDiff, headIds_cons, IntWalk.toNatUp]
  refine callN [] (.ref 3 0 d.files.length 3) (cloneF_ok d.files (by omega)) (Nat.zero_le _) rfl rfl (by simp only [List.all_cons, List.all_nil, niOut, niBlk, fniF, Bool.and_self]) (by simp) trivial (by simp only [List.all_cons, List.all_nil, bnd_dl _ _ _ nidF, Bool.and_self]) (by simp only [List.map_cons, List.map_nil, ren_dl _ _ _ nidF]) rfl ?_
  simp (disch := (first | omega | (simp only [W0]; done) | (simp only [W0]; omega))) only [setAll, W1, ↓W2, unbyte, implies_true, ← List.map_take, ← List.map_drop, bne_self_eq_false, eqCells, flatTD, Nat.reducePow, ayield, eq_self, exists_eq_left', exists_eq_left, exists_eq', Int.reduceLE, Int.reduceLT, Nat.reduceLeDiff, Int.reduceToNat, Int.reduceAdd, Int.reduceSub, Int.reduceMul, Int.reduceNeg, Int.reduceEq, argEnv, aeval, get, put, ofVal, ofVals, List.map, cond_true, cond_false, Nat.reduceBEq, nexts, allocs, countAllocs, pad, Nat.reduceAdd, Nat.reduceMul, Nat.reduceSub, Nat.reduceLT, isVoid, aNilCheck, aExtract, aNilB, isNilD, notD, aCap, aClear, aAppendZ, aInt, aStr, aConv, aSlice, asNat?, cutTight, aIndexAddr, aFieldAddr, aField, aIndex, aLoad, aStore, aAlloc, aBox, aBuild, aBuildSlice, aMakeSlice, aLen, aMax, aMin, aAppend, aCopy, aBuiltin, TD.isSlice, TD.isAgg, TD.known, TD.isSeq, partD, partOb, cellsAt, Blk.cells, if_true, if_false, splice, fillD, dl, byteD, Int.reduceBEq, Int.reduceBNe, beq_self_eq_true, retQ, retK, resD, resL, andR, elemCells, isByte, chunk, reduceCtorEq, okVal, okCell, List.replicate, ne_eq, Nat.reduceEqDiff, headIds_cons, IntWalk.toNatUp]
  refine loopR (fun i : Nat => [(1, .sl 1 (keep.map (D.int .i64)) false), (2, .ptr 0 0), (4, .ptr 1 0), (5, .ref 2 0 d.files.length 3), (12, .int .i64 d.files.length), (13, .int .i64 i)]) (fun i => [.live [D.sl 3 (d.files.map GFile.d) false, D.int .i64 d.cap, D.bool d.armed, D.int .i64 d.left, D.bool d.down], .live zerosD, .live (flatD GFile.d (crashF (d.files.take i) keep ++ d.files.drop i))]) (fun i => i ≤ d.files.length) (fun i => d.files.length - i) 0 (Nat.zero_le _) ?_ ?_
  · refine fitsR [0, 1, 3] ?_ ?_ (by simp [liveIds]) rfl
    · simp only [Int.natCast_add, Int.cast_ofNat_Int, fe_nil, fe_data, fe_ref, fe_refc, fe_ptr, fh_nil, fh_dead, fh_live, fh_froz, liveIds, ni_int, ni_bool, ni_str, ni_agg, ni_nil, ni_sl, ni_cp, ni_nilp, ni_fn, ni_nilf, ni_tup, ni_niface, ni_iface, ni_nilL, ni_consL, Bool.and_self, List.length_cons, List.length_nil, get, cond_true, cond_false, Nat.reduceBEq, List.getElem?_cons_zero, List.getElem?_cons_succ, true_and, and_true, eq_self, List.getD_cons_zero, List.getD_cons_succ, Nat.reduceAdd, Nat.reduceLT, Int.natCast_zero, noL _ (ni_int _)]
    · rw [fh_live _ _ _ _ _ _ (niC' d), fh_live _ _ _ _ _ _ rfl, fh_live _ _ _ _ _ _ (fniF _)]
      exact ⟨rfl, rfl, rfl, trivial⟩
  intro i hi
  obtain ⟨Y, hY⟩ : ∃ Y, crashF (d.files.take i) keep = Y := ⟨_, rfl⟩
  have hYl : Y.length = i := by rw [← hY, crashF_len, List.length_take, Nat.min_eq_left hi]
  obtain ⟨Z, hZ⟩ : ∃ Z, Y ++ d.files.drop i = Z := ⟨_, rfl⟩
  have hZl : Z.length = d.files.length := by rw [← hZ, List.length_append, List.length_drop]; omega
  have hfZ := flenF Z
  rw [hZl] at hfZ
  cases h1 : decide ((i : Int) < (d.files.length : Int))
  · obtain rfl : i = d.files.length := by have := of_decide_eq_false h1; omega
    rw [List.take_length] at hY
    rw [List.drop_length, List.append_nil] at hZ
    subst hZ
    simp (disch := (first | omega | (simp only [W0]; done) | (simp only [W0]; omega))) only [h1, hY, zerosD, crashM, List.drop_length, List.append_nil, List.take_length, W1, ↓W2, unbyte, implies_true, ← List.map_take, ← List.map_drop, bne_self_eq_false, eqCells, flatTD, Nat.reducePow, ayield, eq_self, exists_eq_left', exists_eq_left, exists_eq', Int.reduceLE, Int.reduceLT, Nat.reduceLeDiff, Int.reduceToNat, Int.reduceAdd, Int.reduceSub, Int.reduceMul, Int.reduceNeg, Int.reduceEq, argEnv, aeval, get, put, ofVal, ofVals, List.map, cond_true, cond_false, Nat.reduceBEq, nexts, allocs, countAllocs, pad, Nat.reduceAdd, Nat.reduceMul, Nat.reduceSub, Nat.reduceLT, isVoid, aNilCheck, aExtract, aNilB, isNilD, notD, aCap, aClear, aAppendZ, aInt, aStr, aConv, aSlice, asNat?, cutTight, aIndexAddr, aFieldAddr, aField, aIndex, aLoad, aStore, aAlloc, aBox, aBuild, aBuildSlice, aMakeSlice, aLen, aMax, aMin, aAppend, aCopy, aBuiltin, TD.isSlice, TD.isAgg, TD.known, TD.isSeq, partD, partOb, cellsAt, Blk.cells, if_true, if_false, splice, fillD, dl, byteD, Int.reduceBEq, Int.reduceBNe, beq_self_eq_true, retQ, retK, resD, resL, andR, elemCells, isByte, chunk, reduceCtorEq, okVal, okCell, List.replicate, ne_eq, Nat.reduceEqDiff, headIds_cons, IntWalk.toNatUp]
    exact Sub.agg ⟨Sub.ownF GFile.d 3 _ lenF niF rfl hYl rfl, Sub.refl rfl, Sub.refl rfl, Sub.refl rfl, Sub.refl rfl, trivial⟩
  have h1' := of_decide_eq_true h1
  have hil : i < d.files.length := by omega
  have hiZ : i < Z.length := by omega
  obtain ⟨x, hx⟩ : ∃ x, d.files[i] = x := ⟨_, rfl⟩
  have hxZ : Z[i] = x := by
    subst hZ
    rw [List.getElem_append_right (by omega), List.getElem_drop]
    simp only [hYl, Nat.sub_self, Nat.add_zero]
    exact hx
  have hxd := hd x (hx ▸ List.getElem_mem hil)
  obtain ⟨hs1, hs2⟩ := okFB_sure (hr x (hx ▸ List.getElem_mem hil))
  have hn := crashF_take d.files keep i x hil hx
  rw [hY] at hn
  have fin : ∀ (n : Int), n = max 0 (min (keep.getD i 0) (x.data.length - x.sure)) → 0 ≤ n ∧ x.sure + n ≤ x.data.length ∧ Z.set i ⟨x.name, x.data.take (x.sure + n).toNat, x.sure + n⟩ = crashF (d.files.take (i + 1)) keep ++ d.files.drop (i + 1) := fun n hn' => by
    have h1 : 0 ≤ n ∧ x.sure + n ≤ x.data.length := by omega
    refine ⟨h1.1, h1.2, ?_⟩
    rw [hn, ← hZ, List.set_append_right _ _ (by omega), hYl, Nat.sub_self, List.drop_eq_getElem_cons hil, List.set_cons_zero, crash1, ← hn', List.append_assoc]
    rfl
  have hg1 : (flatD GFile.d Z).getD (i * 3 + 1) .any = .str x.data := by rw [flatD_getD GFile.d 3 lenF Z i 1 hiZ (by decide), hxZ]; rfl
  have hg2 : (flatD GFile.d Z).getD (i * 3 + 2) .any = .int .i64 x.sure := by rw [flatD_getD GFile.d 3 lenF Z i 2 hiZ (by decide), hxZ]; rfl
  have stay : ∀ (n : Int), n = 0 → n = max 0 (min (keep.getD i 0) (x.data.length - x.sure)) → splice (flatD GFile.d Z) (i * 3 + 1) [.str (x.data.take x.sure.toNat)] = flatD GFile.d (crashF (d.files.take (i + 1)) keep ++ d.files.drop (i + 1)) := fun n h0 hn' => by
    obtain ⟨f1, f2, f3⟩ := fin n hn'
    rw [← f3, h0, Int.add_zero]
    exact flatD_field GFile.d 3 lenF Z i 1 ⟨x.name, x.data.take x.sure.toNat, x.sure⟩ (.str (x.data.take x.sure.toNat)) hiZ (by decide) (by rw [hxZ]; rfl)
  cases h2 : decide ((i : Int) < (keep.length : Int))
  · have h2' := of_decide_eq_false h2
    have hs := stay 0 rfl (by rw [List.getD_eq_getElem?_getD, List.getElem?_eq_none (by omega)]; simp only [Option.getD_none]; omega)
    simp (disch := (first | omega | (simp only [W0]; done) | (simp only [W0]; omega))) only [h1, h2, hY, hZ, W1, ↓W2, unbyte, implies_true, ← List.map_take, ← List.map_drop, bne_self_eq_false, eqCells, flatTD, Nat.reducePow, ayield, eq_self, exists_eq_left', exists_eq_left, exists_eq', Int.reduceLE, Int.reduceLT, Nat.reduceLeDiff, Int.reduceToNat, Int.reduceAdd, Int.reduceSub, Int.reduceMul, Int.reduceNeg, Int.reduceEq, argEnv, aeval, get, put, ofVal, ofVals, List.map, cond_true, cond_false, Nat.reduceBEq, nexts, allocs, countAllocs, pad, Nat.reduceAdd, Nat.reduceMul, Nat.reduceSub, Nat.reduceLT, isVoid, aNilCheck, aExtract, aNilB, isNilD, notD, aCap, aClear, aAppendZ, aInt, aStr, aConv, aSlice, asNat?, cutTight, aIndexAddr, aFieldAddr, aField, aIndex, aLoad, aStore, aAlloc, aBox, aBuild, aBuildSlice, aMakeSlice, aLen, aMax, aMin, aAppend, aCopy, aBuiltin, TD.isSlice, TD.isAgg, TD.known, TD.isSeq, partD, partOb, cellsAt, Blk.cells, if_true, if_false, splice, fillD, dl, byteD, Int.reduceBEq, Int.reduceBNe, beq_self_eq_true, retQ, retK, resD, resL, andR, elemCells, isByte, chunk, reduceCtorEq, okVal, okCell, List.replicate, ne_eq, Nat.reduceEqDiff, headIds_cons, IntWalk.toNatUp]
    refine draw_fast 0 ?_ ?_
    · decide +kernel
    simp (disch := (first | omega | (simp only [W0]; done) | (simp only [W0]; omega))) only [hg1, hg2, hfZ, Nat.zero_add, W1, ↓W2, unbyte, implies_true, ← List.map_take, ← List.map_drop, bne_self_eq_false, eqCells, flatTD, Nat.reducePow, ayield, eq_self, exists_eq_left', exists_eq_left, exists_eq', Int.reduceLE, Int.reduceLT, Nat.reduceLeDiff, Int.reduceToNat, Int.reduceAdd, Int.reduceSub, Int.reduceMul, Int.reduceNeg, Int.reduceEq, argEnv, aeval, get, put, ofVal, ofVals, List.map, cond_true, cond_false, Nat.reduceBEq, nexts, allocs, countAllocs, pad, Nat.reduceAdd, Nat.reduceMul, Nat.reduceSub, Nat.reduceLT, isVoid, aNilCheck, aExtract, aNilB, isNilD, notD, aCap, aClear, aAppendZ, aInt, aStr, aConv, aSlice, asNat?, cutTight, aIndexAddr, aFieldAddr, aField, aIndex, aLoad, aStore, aAlloc, aBox, aBuild, aBuildSlice, aMakeSlice, aLen, aMax, aMin, aAppend, aCopy, aBuiltin, TD.isSlice, TD.isAgg, TD.known, TD.isSeq, partD, partOb, cellsAt, Blk.cells, if_true, if_false, splice, fillD, dl, byteD, Int.reduceBEq, Int.reduceBNe, beq_self_eq_true, retQ, retK, resD, resL, andR, elemCells, isByte, chunk, reduceCtorEq, okVal, okCell, List.replicate, ne_eq, Nat.reduceEqDiff, headIds_cons, IntWalk.toNatUp]
    refine tend_fast ?_ ?_
    · decide +kernel
    simp only [splice, List.length_cons, List.length_nil, Nat.zero_add] at hs
    simp (disch := (first | omega | (simp only [W0]; done) | (simp only [W0]; omega))) only [hs, W1, ↓W2, unbyte, implies_true, ← List.map_take, ← List.map_drop, bne_self_eq_false, eqCells, flatTD, Nat.reducePow, ayield, eq_self, exists_eq_left', exists_eq_left, exists_eq', Int.reduceLE, Int.reduceLT, Nat.reduceLeDiff, Int.reduceToNat, Int.reduceAdd, Int.reduceSub, Int.reduceMul, Int.reduceNeg, Int.reduceEq, argEnv, aeval, get, put, ofVal, ofVals, List.map, cond_true, cond_false, Nat.reduceBEq, nexts, allocs, countAllocs, pad, Nat.reduceAdd, Nat.reduceMul, Nat.reduceSub, Nat.reduceLT, isVoid, aNilCheck, aExtract, aNilB, isNilD, notD, aCap, aClear, aAppendZ, aInt, aStr, aConv, aSlice, asNat?, cutTight, aIndexAddr, aFieldAddr, aField, aIndex, aLoad, aStore, aAlloc, aBox, aBuild, aBuildSlice, aMakeSlice, aLen, aMax, aMin, aAppend, aCopy, aBuiltin, TD.isSlice, TD.isAgg, TD.known, TD.isSeq, partD, partOb, cellsAt, Blk.cells, if_true, if_false, splice, fillD, dl, byteD, Int.reduceBEq, Int.reduceBNe, beq_self_eq_true, retQ, retK, resD, resL, andR, elemCells, isByte, chunk, reduceCtorEq, okVal, okCell, List.replicate, ne_eq, Nat.reduceEqDiff, headIds_cons, IntWalk.toNatUp]
    refine ⟨i + 1, by omega, by omega, fitsR [0, 1, 2] ?_ ?_ (by simp [liveIds]) rfl⟩
    · simp only [Int.natCast_add, Int.cast_ofNat_Int, fe_nil, fe_data, fe_ref, fe_refc, fe_ptr, fh_nil, fh_dead, fh_live, fh_froz, liveIds, ni_int, ni_bool, ni_str, ni_agg, ni_nil, ni_sl, ni_cp, ni_nilp, ni_fn, ni_nilf, ni_tup, ni_niface, ni_iface, ni_nilL, ni_consL, Bool.and_self, List.length_cons, List.length_nil, get, cond_true, cond_false, Nat.reduceBEq, List.getElem?_cons_zero, List.getElem?_cons_succ, true_and, and_true, eq_self, List.getD_cons_zero, List.getD_cons_succ, Nat.reduceAdd, Nat.reduceLT, noL _ (ni_int _)]
    · rw [fh_live _ _ _ _ _ _ (niC' d), fh_live _ _ _ _ _ _ rfl, fh_live _ _ _ _ _ _ (fniF _)]
      exact ⟨rfl, rfl, rfl, trivial⟩
  have h2' := of_decide_eq_true h2
  have hik : i < keep.length := by omega
  obtain ⟨K, hK⟩ : ∃ K, keep[i] = K := ⟨_, rfl⟩
  have hKo := hk.2 K (hK ▸ List.getElem_mem hik)
  simp only [okInt, min_i64, max_i64] at hKo
  have hKd : keep.getD i 0 = K := by rw [List.getD_eq_getElem?_getD, List.getElem?_eq_getElem hik, hK]; rfl
  rw [hKd] at fin stay
  cases h3 : decide (K > 0)
  · have h3' := of_decide_eq_false h3
    have hs := stay 0 rfl (by omega)
    simp (disch := (first | omega | (simp only [W0]; done) | (simp only [W0]; omega))) only [h1, h2, hY, hZ, hK, h3, W1, ↓W2, unbyte, implies_true, ← List.map_take, ← List.map_drop, bne_self_eq_false, eqCells, flatTD, Nat.reducePow, ayield, eq_self, exists_eq_left', exists_eq_left, exists_eq', Int.reduceLE, Int.reduceLT, Nat.reduceLeDiff, Int.reduceToNat, Int.reduceAdd, Int.reduceSub, Int.reduceMul, Int.reduceNeg, Int.reduceEq, argEnv, aeval, get, put, ofVal, ofVals, List.map, cond_true, cond_false, Nat.reduceBEq, nexts, allocs, countAllocs, pad, Nat.reduceAdd, Nat.reduceMul, Nat.reduceSub, Nat.reduceLT, isVoid, aNilCheck, aExtract, aNilB, isNilD, notD, aCap, aClear, aAppendZ, aInt, aStr, aConv, aSlice, asNat?, cutTight, aIndexAddr, aFieldAddr, aField, aIndex, aLoad, aStore, aAlloc, aBox, aBuild, aBuildSlice, aMakeSlice, aLen, aMax, aMin, aAppend, aCopy, aBuiltin, TD.isSlice, TD.isAgg, TD.known, TD.isSeq, partD, partOb, cellsAt, Blk.cells, if_true, if_false, splice, fillD, dl, byteD, Int.reduceBEq, Int.reduceBNe, beq_self_eq_true, retQ, retK, resD, resL, andR, elemCells, isByte, chunk, reduceCtorEq, okVal, okCell, List.replicate, ne_eq, Nat.reduceEqDiff, headIds_cons, IntWalk.toNatUp]
    refine draw_fast 0 ?_ ?_
    · decide +kernel
    simp (disch := (first | omega | (simp only [W0]; done) | (simp only [W0]; omega))) only [hg1, hg2, hfZ, Nat.zero_add, W1, ↓W2, unbyte, implies_true, ← List.map_take, ← List.map_drop, bne_self_eq_false, eqCells, flatTD, Nat.reducePow, ayield, eq_self, exists_eq_left', exists_eq_left, exists_eq', Int.reduceLE, Int.reduceLT, Nat.reduceLeDiff, Int.reduceToNat, Int.reduceAdd, Int.reduceSub, Int.reduceMul, Int.reduceNeg, Int.reduceEq, argEnv, aeval, get, put, ofVal, ofVals, List.map, cond_true, cond_false, Nat.reduceBEq, nexts, allocs, countAllocs, pad, Nat.reduceAdd, Nat.reduceMul, Nat.reduceSub, Nat.reduceLT, isVoid, aNilCheck, aExtract, aNilB, isNilD, notD, aCap, aClear, aAppendZ, aInt, aStr, aConv, aSlice, asNat?, cutTight, aIndexAddr, aFieldAddr, aField, aIndex, aLoad, aStore, aAlloc, aBox, aBuild, aBuildSlice, aMakeSlice, aLen, aMax, aMin, aAppend, aCopy, aBuiltin, TD.isSlice, TD.isAgg, TD.known, TD.isSeq, partD, partOb, cellsAt, Blk.cells, if_true, if_false, splice, fillD, dl, byteD, Int.reduceBEq, Int.reduceBNe, beq_self_eq_true, retQ, retK, resD, resL, andR, elemCells, isByte, chunk, reduceCtorEq, okVal, okCell, List.replicate, ne_eq, Nat.reduceEqDiff, headIds_cons, IntWalk.toNatUp]
    refine tend_fast ?_ ?_
    · decide +kernel
    simp only [splice, List.length_cons, List.length_nil, Nat.zero_add] at hs
    simp (disch := (first | omega | (simp only [W0]; done) | (simp only [W0]; omega))) only [hs, W1, ↓W2, unbyte, implies_true, ← List.map_take, ← List.map_drop, bne_self_eq_false, eqCells, flatTD, Nat.reducePow, ayield, eq_self, exists_eq_left', exists_eq_left, exists_eq', Int.reduceLE, Int.reduceLT, Nat.reduceLeDiff, Int.reduceToNat, Int.reduceAdd, Int.reduceSub, Int.reduceMul, Int.reduceNeg, Int.reduceEq, argEnv, aeval, get, put, ofVal, ofVals, List.map, cond_true, cond_false, Nat.reduceBEq, nexts, allocs, countAllocs, pad, Nat.reduceAdd, Nat.reduceMul, Nat.reduceSub, Nat.reduceLT, isVoid, aNilCheck, aExtract, aNilB, isNilD, notD, aCap, aClear, aAppendZ, aInt, aStr, aConv, aSlice, asNat?, cutTight, aIndexAddr, aFieldAddr, aField, aIndex, aLoad, aStore, aAlloc, aBox, aBuild, aBuildSlice, aMakeSlice, aLen, aMax, aMin, aAppend, aCopy, aBuiltin, TD.isSlice, TD.isAgg, TD.known, TD.isSeq, partD, partOb, cellsAt, Blk.cells, if_true, if_false, splice, fillD, dl, byteD, Int.reduceBEq, Int.reduceBNe, beq_self_eq_true, retQ, retK, resD, resL, andR, elemCells, isByte, chunk, reduceCtorEq, okVal, okCell, List.replicate, ne_eq, Nat.reduceEqDiff, headIds_cons, IntWalk.toNatUp]
    refine ⟨i + 1, by omega, by omega, fitsR [0, 1, 2] ?_ ?_ (by simp [liveIds]) rfl⟩
    · simp only [Int.natCast_add, Int.cast_ofNat_Int, fe_nil, fe_data, fe_ref, fe_refc, fe_ptr, fh_nil, fh_dead, fh_live, fh_froz, liveIds, ni_int, ni_bool, ni_str, ni_agg, ni_nil, ni_sl, ni_cp, ni_nilp, ni_fn, ni_nilf, ni_tup, ni_niface, ni_iface, ni_nilL, ni_consL, Bool.and_self, List.length_cons, List.length_nil, get, cond_true, cond_false, Nat.reduceBEq, List.getElem?_cons_zero, List.getElem?_cons_succ, true_and, and_true, eq_self, List.getD_cons_zero, List.getD_cons_succ, Nat.reduceAdd, Nat.reduceLT, noL _ (ni_int _)]
    · rw [fh_live _ _ _ _ _ _ (niC' d), fh_live _ _ _ _ _ _ rfl, fh_live _ _ _ _ _ _ (fniF _)]
      exact ⟨rfl, rfl, rfl, trivial⟩
  have h3' := of_decide_eq_true h3
  obtain ⟨n, hn0⟩ : ∃ n, max 0 (min K ((x.data.length : Int) - x.sure)) = n := ⟨_, rfl⟩
  obtain ⟨f1, f2, f3⟩ := fin n hn0.symm
  have hmm : (if (x.data.length : Int) - x.sure < K then (x.data.length : Int) - x.sure else K) = n := by rw [← hn0]; split <;> omega
  obtain ⟨x1, hx1⟩ : ∃ x1 : GFile, x1 = ⟨x.name, x.data, x.sure + n⟩ := ⟨_, rfl⟩
  have hfl1 := flatD_field GFile.d 3 lenF Z i 2 x1 (.int .i64 (x.sure + n)) hiZ (by decide) (by rw [hxZ, hx1]; rfl)
  have hi2 : i < (Z.set i x1).length := by rw [List.length_set]; exact hiZ
  have hg3 : (flatD GFile.d (Z.set i x1)).getD (i * 3 + 1) .any = .str x.data := by rw [flatD_getD GFile.d 3 lenF _ i 1 hi2 (by decide), List.getElem_set_self, hx1]; rfl
  have hg4 : (flatD GFile.d (Z.set i x1)).getD (i * 3 + 2) .any = .int .i64 (x.sure + n) := by rw [flatD_getD GFile.d 3 lenF _ i 2 hi2 (by decide), List.getElem_set_self, hx1]; rfl
  have hfl2 := flatD_field GFile.d 3 lenF (Z.set i x1) i 1 ⟨x.name, x.data.take (x.sure + n).toNat, x.sure + n⟩ (.str (x.data.take (x.sure + n).toNat)) hi2 (by decide) (by rw [List.getElem_set_self, hx1]; rfl)
  rw [List.set_set, f3] at hfl2
  have hfZ1 := flenF (Z.set i x1)
  rw [List.length_set, hZl] at hfZ1
  simp only [splice, List.length_cons, List.length_nil, Nat.zero_add] at hfl1 hfl2
  simp (disch := (first | omega | (simp only [W0]; done) | (simp only [W0]; omega))) only [h1, h2, hY, hZ, hK, h3, W1, ↓W2, unbyte, implies_true, ← List.map_take, ← List.map_drop, bne_self_eq_false, eqCells, flatTD, Nat.reducePow, ayield, eq_self, exists_eq_left', exists_eq_left, exists_eq', Int.reduceLE, Int.reduceLT, Nat.reduceLeDiff, Int.reduceToNat, Int.reduceAdd, Int.reduceSub, Int.reduceMul, Int.reduceNeg, Int.reduceEq, argEnv, aeval, get, put, ofVal, ofVals, List.map, cond_true, cond_false, Nat.reduceBEq, nexts, allocs, countAllocs, pad, Nat.reduceAdd, Nat.reduceMul, Nat.reduceSub, Nat.reduceLT, isVoid, aNilCheck, aExtract, aNilB, isNilD, notD, aCap, aClear, aAppendZ, aInt, aStr, aConv, aSlice, asNat?, cutTight, aIndexAddr, aFieldAddr, aField, aIndex, aLoad, aStore, aAlloc, aBox, aBuild, aBuildSlice, aMakeSlice, aLen, aMax, aMin, aAppend, aCopy, aBuiltin, TD.isSlice, TD.isAgg, TD.known, TD.isSeq, partD, partOb, cellsAt, Blk.cells, if_true, if_false, splice, fillD, dl, byteD, Int.reduceBEq, Int.reduceBNe, beq_self_eq_true, retQ, retK, resD, resL, andR, elemCells, isByte, chunk, reduceCtorEq, okVal, okCell, List.replicate, ne_eq, Nat.reduceEqDiff, headIds_cons, IntWalk.toNatUp]
  refine draw_fast 0 ?_ ?_
  · decide +kernel
  simp (disch := (first | omega | (simp only [W0]; done) | (simp only [W0]; omega))) only [hK, hg1, hg2, hmm, hfZ, Nat.zero_add, W1, ↓W2, unbyte, implies_true, ← List.map_take, ← List.map_drop, bne_self_eq_false, eqCells, flatTD, Nat.reducePow, ayield, eq_self, exists_eq_left', exists_eq_left, exists_eq', Int.reduceLE, Int.reduceLT, Nat.reduceLeDiff, Int.reduceToNat, Int.reduceAdd, Int.reduceSub, Int.reduceMul, Int.reduceNeg, Int.reduceEq, argEnv, aeval, get, put, ofVal, ofVals, List.map, cond_true, cond_false, Nat.reduceBEq, nexts, allocs, countAllocs, pad, Nat.reduceAdd, Nat.reduceMul, Nat.reduceSub, Nat.reduceLT, isVoid, aNilCheck, aExtract, aNilB, isNilD, notD, aCap, aClear, aAppendZ, aInt, aStr, aConv, aSlice, asNat?, cutTight, aIndexAddr, aFieldAddr, aField, aIndex, aLoad, aStore, aAlloc, aBox, aBuild, aBuildSlice, aMakeSlice, aLen, aMax, aMin, aAppend, aCopy, aBuiltin, TD.isSlice, TD.isAgg, TD.known, TD.isSeq, partD, partOb, cellsAt, Blk.cells, if_true, if_false, splice, fillD, dl, byteD, Int.reduceBEq, Int.reduceBNe, beq_self_eq_true, retQ, retK, resD, resL, andR, elemCells, isByte, chunk, reduceCtorEq, okVal, okCell, List.replicate, ne_eq, Nat.reduceEqDiff, headIds_cons, IntWalk.toNatUp]
  refine tend_fast ?_ ?_
  · decide +kernel
  simp (disch := (first | omega | (simp only [W0]; done) | (simp only [W0]; omega))) only [hfl1, W1, ↓W2, unbyte, implies_true, ← List.map_take, ← List.map_drop, bne_self_eq_false, eqCells, flatTD, Nat.reducePow, ayield, eq_self, exists_eq_left', exists_eq_left, exists_eq', Int.reduceLE, Int.reduceLT, Nat.reduceLeDiff, Int.reduceToNat, Int.reduceAdd, Int.reduceSub, Int.reduceMul, Int.reduceNeg, Int.reduceEq, argEnv, aeval, get, put, ofVal, ofVals, List.map, cond_true, cond_false, Nat.reduceBEq, nexts, allocs, countAllocs, pad, Nat.reduceAdd, Nat.reduceMul, Nat.reduceSub, Nat.reduceLT, isVoid, aNilCheck, aExtract, aNilB, isNilD, notD, aCap, aClear, aAppendZ, aInt, aStr, aConv, aSlice, asNat?, cutTight, aIndexAddr, aFieldAddr, aField, aIndex, aLoad, aStore, aAlloc, aBox, aBuild, aBuildSlice, aMakeSlice, aLen, aMax, aMin, aAppend, aCopy, aBuiltin, TD.isSlice, TD.isAgg, TD.known, TD.isSeq, partD, partOb, cellsAt, Blk.cells, if_true, if_false, splice, fillD, dl, byteD, Int.reduceBEq, Int.reduceBNe, beq_self_eq_true, retQ, retK, resD, resL, andR, elemCells, isByte, chunk, reduceCtorEq, okVal, okCell, List.replicate, ne_eq, Nat.reduceEqDiff, headIds_cons, IntWalk.toNatUp]
  refine draw_fast 0 ?_ ?_
  · decide +kernel
  simp (disch := (first | omega | (simp only [W0]; done) | (simp only [W0]; omega))) only [hg3, hg4, hfZ1, Nat.zero_add, W1, ↓W2, unbyte, implies_true, ← List.map_take, ← List.map_drop, bne_self_eq_false, eqCells, flatTD, Nat.reducePow, ayield, eq_self, exists_eq_left', exists_eq_left, exists_eq', Int.reduceLE, Int.reduceLT, Nat.reduceLeDiff, Int.reduceToNat, Int.reduceAdd, Int.reduceSub, Int.reduceMul, Int.reduceNeg, Int.reduceEq, argEnv, aeval, get, put, ofVal, ofVals, List.map, cond_true, cond_false, Nat.reduceBEq, nexts, allocs, countAllocs, pad, Nat.reduceAdd, Nat.reduceMul, Nat.reduceSub, Nat.reduceLT, isVoid, aNilCheck, aExtract, aNilB, isNilD, notD, aCap, aClear, aAppendZ, aInt, aStr, aConv, aSlice, asNat?, cutTight, aIndexAddr, aFieldAddr, aField, aIndex, aLoad, aStore, aAlloc, aBox, aBuild, aBuildSlice, aMakeSlice, aLen, aMax, aMin, aAppend, aCopy, aBuiltin, TD.isSlice, TD.isAgg, TD.known, TD.isSeq, partD, partOb, cellsAt, Blk.cells, if_true, if_false, splice, fillD, dl, byteD, Int.reduceBEq, Int.reduceBNe, beq_self_eq_true, retQ, retK, resD, resL, andR, elemCells, isByte, chunk, reduceCtorEq, okVal, okCell, List.replicate, ne_eq, Nat.reduceEqDiff, headIds_cons, IntWalk.toNatUp]
  refine tend_fast ?_ ?_
  · decide +kernel
  simp (disch := (first | omega | (simp only [W0]; done) | (simp only [W0]; omega))) only [hfl2, W1, ↓W2, unbyte, implies_true, ← List.map_take, ← List.map_drop, bne_self_eq_false, eqCells, flatTD, Nat.reducePow, ayield, eq_self, exists_eq_left', exists_eq_left, exists_eq', Int.reduceLE, Int.reduceLT, Nat.reduceLeDiff, Int.reduceToNat, Int.reduceAdd, Int.reduceSub, Int.reduceMul, Int.reduceNeg, Int.reduceEq, argEnv, aeval, get, put, ofVal, ofVals, List.map, cond_true, cond_false, Nat.reduceBEq, nexts, allocs, countAllocs, pad, Nat.reduceAdd, Nat.reduceMul, Nat.reduceSub, Nat.reduceLT, isVoid, aNilCheck, aExtract, aNilB, isNilD, notD, aCap, aClear, aAppendZ, aInt, aStr, aConv, aSlice, asNat?, cutTight, aIndexAddr, aFieldAddr, aField, aIndex, aLoad, aStore, aAlloc, aBox, aBuild, aBuildSlice, aMakeSlice, aLen, aMax, aMin, aAppend, aCopy, aBuiltin, TD.isSlice, TD.isAgg, TD.known, TD.isSeq, partD, partOb, cellsAt, Blk.cells, if_true, if_false, splice, fillD, dl, byteD, Int.reduceBEq, Int.reduceBNe, beq_self_eq_true, retQ, retK, resD, resL, andR, elemCells, isByte, chunk, reduceCtorEq, okVal, okCell, List.replicate, ne_eq, Nat.reduceEqDiff, headIds_cons, IntWalk.toNatUp]
  refine ⟨i + 1, by omega, by omega, fitsR [0, 1, 2] ?_ ?_ (by simp [liveIds]) rfl⟩
  · simp only [Int.natCast_add, Int.cast_ofNat_Int, fe_nil, fe_data, fe_ref, fe_refc, fe_ptr, fh_nil, fh_dead, fh_live, fh_froz, liveIds, ni_int, ni_bool, ni_str, ni_agg, ni_nil, ni_sl, ni_cp, ni_nilp, ni_fn, ni_nilf, ni_tup, ni_niface, ni_iface, ni_nilL, ni_consL, Bool.and_self, List.length_cons, List.length_nil, get, cond_true, cond_false, Nat.reduceBEq, List.getElem?_cons_zero, List.getElem?_cons_succ, true_and, and_true, eq_self, List.getD_cons_zero, List.getD_cons_succ, Nat.reduceAdd, Nat.reduceLT, noL _ (ni_int _)]
  · rw [fh_live _ _ _ _ _ _ (niC' d), fh_live _ _ _ _ _ _ rfl, fh_live _ _ _ _ _ _ (fniF _)]
    exact ⟨rfl, rfl, rfl, trivial⟩

end Go.Proofs.Ytlkffgmejcgdbaa
