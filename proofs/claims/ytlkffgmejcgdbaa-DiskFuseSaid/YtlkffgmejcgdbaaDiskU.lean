/- The laws of a disk: a fuse. -/
import Derived.Test.YtlkffgmejcgdbaaDiskL
namespace Go.Proofs.Ytlkffgmejcgdbaa
set_option linter.all false
-- bundled

set_option maxRecDepth 100000
set_option pp.deepTerms.threshold 50

/-- Behind each of some acts: the disk, and how many changes there were. -/
def stU (l : List GAct) (n : Int) : Nat → GDisk × Nat
  | 0 => (armM zeroDisk n, 0)
  | i + 1 => match l[i]? with
    | some a => if 0 ≤ a.kind ∧ a.kind ≤ 5 then ((doM (stU l n i).1 a).1, if (doM (stU l n i).1 a).2 = 0 then (stU l n i).2 + 1 else (stU l n i).2) else stU l n i
    | none => stU l n i
theorem stU_succ {l : List GAct} {n : Int} {i : Nat} {a : GAct} (hi : i < l.length) (ha : l[i] = a) : stU l n (i + 1) = if 0 ≤ a.kind ∧ a.kind ≤ 5 then ((doM (stU l n i).1 a).1, if (doM (stU l n i).1 a).2 = 0 then (stU l n i).2 + 1 else (stU l n i).2) else stU l n i := by
  simp only [stU, List.getElem?_eq_getElem hi, ha]
structure Fuse (i : Nat) (n : Int) (s : GDisk × Nat) : Prop where
  fine : Fine i s.1
  armed : s.1.armed = true
  left : s.1.left = n - s.2
  down : s.1.down = true → (s.2 : Int) = n
/-- What a change of a fused disk is. -/
theorem fuse_step {i : Nat} {n : Int} {d : GDisk} {k : Nat} (h : Fuse i n (d, k)) {a : GAct} (ha : ShortA a) (hk : 0 ≤ a.kind ∧ a.kind ≤ 5) :
    Fuse (i + 1) n ((doM d a).1, if (doM d a).2 = 0 then k + 1 else k) ∧
    (((doM d a).1.down = true ∧ (doM d a).2 = 10 ∧ (k : Int) = n) ∨ ((doM d a).1.down = false ∧ (doM d a).2 ≠ 10 ∧ (((if (doM d a).2 = 0 then k + 1 else k : Nat)) : Int) ≤ n)) := by
  have hf := do_fine h.fine ha
  have hA := act_acts h.fine.files ha
  have harm : d.armed = true := h.armed
  have hleft : d.left = n - k := h.left
  have hdown : d.down = true → (k : Int) = n := h.down
  have hl0 := h.fine.left.2
  dsimp only at hl0
  rw [do_act hk] at hf ⊢
  obtain ⟨R, hR⟩ : ∃ R, actA d a = R := ⟨_, rfl⟩
  rw [hR] at hf hA ⊢
  cases h1 : d.down
  case true =>
    have e : changeM d R = (d, 10) := by unfold changeM; rw [h1]; rfl
    rw [e] at hf ⊢
    exact ⟨⟨hf, harm, hleft, hdown⟩, .inl ⟨h1, rfl, hdown h1⟩⟩
  cases h2 : (R.2 == 0)
  case false =>
    have h2' : R.2 ≠ 0 := by simpa using h2
    have e : changeM d R = (d, R.2) := by unfold changeM; rw [h1, h2]; rfl
    rw [e] at hf ⊢
    dsimp only
    rw [if_neg h2']
    exact ⟨⟨hf, harm, hleft, hdown⟩, .inr ⟨h1, hA.err, by omega⟩⟩
  have h2' : R.2 = 0 := by simpa using h2
  cases h4 : (d.left == 0)
  case true =>
    have h4' : d.left = 0 := by simpa using h4
    have e : changeM d R = (⟨d.files, d.cap, d.armed, d.left, true⟩, 10) := by unfold changeM; rw [h1, h2, harm, h4]; rfl
    rw [e] at hf ⊢
    exact ⟨⟨hf, harm, hleft, fun _ => by rw [if_neg (show ¬ (10 : Int) = 0 by decide)]; omega⟩, .inl ⟨rfl, rfl, by omega⟩⟩
  have h4' : d.left ≠ 0 := by simpa using h4
  have e : changeM d R = (⟨R.1, d.cap, d.armed, d.left - 1, d.down⟩, 0) := by unfold changeM; rw [h1, h2, harm, h4]; rfl
  rw [e] at hf ⊢
  dsimp only
  rw [if_pos rfl]
  exact ⟨⟨hf, harm, by dsimp only; omega, fun hh => absurd hh (by dsimp only; rw [h1]; decide)⟩, .inr ⟨h1, by decide, by omega⟩⟩
theorem stU_fuse {l : List GAct} {n : Int} (hn : 0 ≤ n ∧ n ≤ 20) (hl : ∀ a, a ∈ l → ShortA a) : ∀ i, i ≤ l.length → Fuse i n (stU l n i)
  | 0, _ => by
    refine ⟨⟨zero_fine.files, zero_fine.cap, ?_⟩, ?_, ?_, fun h => (by cases h)⟩
    · show okInt .i64 (max n 0) ∧ 0 ≤ max n 0
      simp only [okInt, min_i64, max_i64]
      omega
    · show decide (n ≥ 0) = true
      exact decide_eq_true hn.1
    · show max n 0 = n - ((0 : Nat) : Int)
      omega
  | i + 1, h => by
    have hi := stU_fuse hn hl i (by omega)
    rw [stU_succ (by omega) rfl]
    split
    · rename_i hk
      exact (fuse_step hi (hl _ (List.getElem_mem _)) hk).1
    · exact ⟨hi.fine.mono (by omega), hi.armed, hi.left, hi.down⟩

theorem diskFuse (l : List GAct) (p : UInt8) (hl : okL GAct.ok l) : PureF Try.prog 6 [dl 5 GAct.d l, byteD p] (.bool true) := by
  refine pureD (rs := [.tmp 4]) tyOk mixed Try.func6 (by decide) rfl rfl (Nat.le_of_ble_eq_true rfl) (by decide) ?_
  have hs := short_ok l hl
  simp only [dl] at hs
  have hp := p.toNat_lt
  simp (disch := (first | omega | (simp only [List.length_take, List.length_drop, List.length_append, List.length_map, List.length_cons, List.length_nil]; done) | (simp only [List.length_take, List.length_drop, List.length_append, List.length_map, List.length_cons, List.length_nil]; omega))) only [byteD, W1, ↓W2, unbyte, implies_true, ← List.map_take, ← List.map_drop, bne_self_eq_false, eqCells, flatTD, Nat.reducePow, ayield, eq_self, exists_eq_left', exists_eq_left, exists_eq', Int.reduceLE, Int.reduceLT, Nat.reduceLeDiff, Int.reduceToNat, Int.reduceAdd, Int.reduceSub, Int.reduceMul, Int.reduceNeg, Int.reduceEq, argEnv, aeval, get, put, ofVal, ofVals, List.map, cond_true, cond_false, Nat.reduceBEq, nexts, allocs, countAllocs, pad, Nat.reduceAdd, Nat.reduceMul, Nat.reduceSub, Nat.reduceLT, isVoid, aNilCheck, aExtract, aNilB, isNilD, notD, aCap, aClear, aAppendZ, aInt, aStr, aConv, aSlice, asNat?, cutTight, aIndexAddr, aFieldAddr, aField, aIndex, aLoad, aStore, aAlloc, aBox, aBuild, aBuildSlice, aMakeSlice, aLen, aMax, aMin, aAppend, aCopy, aBuiltin, TD.isSlice, TD.isAgg, TD.known, TD.isSeq, partD, partOb, cellsAt, Blk.cells, if_true, if_false, splice, fillD, dl, byteD, Int.reduceBEq, Int.reduceBNe, beq_self_eq_true, retQ, retK, resD, resL, andR, elemCells, isByte, chunk, reduceCtorEq, okVal, okCell, List.replicate, ne_eq, Nat.reduceEqDiff, headIds_cons, IntWalk.toNatUp]
  refine callP hs (aniL5 _) ?_
  cases c0 : shortL l
  · simp (disch := (first | omega | (simp only [List.length_take, List.length_drop, List.length_append, List.length_map, List.length_cons, List.length_nil]; done) | (simp only [List.length_take, List.length_drop, List.length_append, List.length_map, List.length_cons, List.length_nil]; omega))) only [W1, ↓W2, unbyte, implies_true, ← List.map_take, ← List.map_drop, bne_self_eq_false, eqCells, flatTD, Nat.reducePow, ayield, eq_self, exists_eq_left', exists_eq_left, exists_eq', Int.reduceLE, Int.reduceLT, Nat.reduceLeDiff, Int.reduceToNat, Int.reduceAdd, Int.reduceSub, Int.reduceMul, Int.reduceNeg, Int.reduceEq, argEnv, aeval, get, put, ofVal, ofVals, List.map, cond_true, cond_false, Nat.reduceBEq, nexts, allocs, countAllocs, pad, Nat.reduceAdd, Nat.reduceMul, Nat.reduceSub, Nat.reduceLT, isVoid, aNilCheck, aExtract, aNilB, isNilD, notD, aCap, aClear, aAppendZ, aInt, aStr, aConv, aSlice, asNat?, cutTight, aIndexAddr, aFieldAddr, aField, aIndex, aLoad, aStore, aAlloc, aBox, aBuild, aBuildSlice, aMakeSlice, aLen, aMax, aMin, aAppend, aCopy, aBuiltin, TD.isSlice, TD.isAgg, TD.known, TD.isSeq, partD, partOb, cellsAt, Blk.cells, if_true, if_false, splice, fillD, dl, byteD, Int.reduceBEq, Int.reduceBNe, beq_self_eq_true, retQ, retK, resD, resL, andR, elemCells, isByte, chunk, reduceCtorEq, okVal, okCell, List.replicate, ne_eq, Nat.reduceEqDiff, headIds_cons, IntWalk.toNatUp]
    refine callP awake06 rfl ?_
    simp (disch := (first | omega | (simp only [List.length_take, List.length_drop, List.length_append, List.length_map, List.length_cons, List.length_nil]; done) | (simp only [List.length_take, List.length_drop, List.length_append, List.length_map, List.length_cons, List.length_nil]; omega))) only [W1, ↓W2, unbyte, implies_true, ← List.map_take, ← List.map_drop, bne_self_eq_false, eqCells, flatTD, Nat.reducePow, ayield, eq_self, exists_eq_left', exists_eq_left, exists_eq', Int.reduceLE, Int.reduceLT, Nat.reduceLeDiff, Int.reduceToNat, Int.reduceAdd, Int.reduceSub, Int.reduceMul, Int.reduceNeg, Int.reduceEq, argEnv, aeval, get, put, ofVal, ofVals, List.map, cond_true, cond_false, Nat.reduceBEq, nexts, allocs, countAllocs, pad, Nat.reduceAdd, Nat.reduceMul, Nat.reduceSub, Nat.reduceLT, isVoid, aNilCheck, aExtract, aNilB, isNilD, notD, aCap, aClear, aAppendZ, aInt, aStr, aConv, aSlice, asNat?, cutTight, aIndexAddr, aFieldAddr, aField, aIndex, aLoad, aStore, aAlloc, aBox, aBuild, aBuildSlice, aMakeSlice, aLen, aMax, aMin, aAppend, aCopy, aBuiltin, TD.isSlice, TD.isAgg, TD.known, TD.isSeq, partD, partOb, cellsAt, Blk.cells, if_true, if_false, splice, fillD, dl, byteD, Int.reduceBEq, Int.reduceBNe, beq_self_eq_true, retQ, retK, resD, resL, andR, elemCells, isByte, chunk, reduceCtorEq, okVal, okCell, List.replicate, ne_eq, Nat.reduceEqDiff, headIds_cons, IntWalk.toNatUp]
    exact Sub.refl rfl
  obtain ⟨hll, hsa⟩ := short_iff c0 hl
  obtain ⟨n, hn⟩ : ∃ n : Int, ((p.toNat % 20 : Nat) : Int) = n := ⟨_, rfl⟩
  have hrem : ((p.toNat : Int)).tmod 20 = n := by rw [← hn]; rfl
  have hnb : 0 ≤ n ∧ n ≤ 20 := by omega
  have ha0 := arm_ok zeroDisk n
  rw [show zeroDisk.d = .agg [.sl 3 [] false, .int .i64 0, .bool false, .int .i64 0, .bool false] from rfl, show (armM zeroDisk n).d = .agg [.sl 3 [] false, .int .i64 0, .bool (decide (n ≥ 0)), .int .i64 (max n 0), .bool false] from rfl] at ha0
  simp (disch := (first | omega | (simp only [List.length_take, List.length_drop, List.length_append, List.length_map, List.length_cons, List.length_nil]; done) | (simp only [List.length_take, List.length_drop, List.length_append, List.length_map, List.length_cons, List.length_nil]; omega))) only [hrem, W1, ↓W2, unbyte, implies_true, ← List.map_take, ← List.map_drop, bne_self_eq_false, eqCells, flatTD, Nat.reducePow, ayield, eq_self, exists_eq_left', exists_eq_left, exists_eq', Int.reduceLE, Int.reduceLT, Nat.reduceLeDiff, Int.reduceToNat, Int.reduceAdd, Int.reduceSub, Int.reduceMul, Int.reduceNeg, Int.reduceEq, argEnv, aeval, get, put, ofVal, ofVals, List.map, cond_true, cond_false, Nat.reduceBEq, nexts, allocs, countAllocs, pad, Nat.reduceAdd, Nat.reduceMul, Nat.reduceSub, Nat.reduceLT, isVoid, aNilCheck, aExtract, aNilB, isNilD, notD, aCap, aClear, aAppendZ, aInt, aStr, aConv, aSlice, asNat?, cutTight, aIndexAddr, aFieldAddr, aField, aIndex, aLoad, aStore, aAlloc, aBox, aBuild, aBuildSlice, aMakeSlice, aLen, aMax, aMin, aAppend, aCopy, aBuiltin, TD.isSlice, TD.isAgg, TD.known, TD.isSeq, partD, partOb, cellsAt, Blk.cells, if_true, if_false, splice, fillD, dl, byteD, Int.reduceBEq, Int.reduceBNe, beq_self_eq_true, retQ, retK, resD, resL, andR, elemCells, isByte, chunk, reduceCtorEq, okVal, okCell, List.replicate, ne_eq, Nat.reduceEqDiff, headIds_cons, IntWalk.toNatUp]
  refine callSub ha0 ⟨Sub.agg ⟨Sub.nil 3 false, Sub.refl rfl, Sub.refl rfl, Sub.refl rfl, Sub.refl rfl, trivial⟩, Sub.refl rfl, trivial⟩ ?_
  simp (disch := (first | omega | (simp only [List.length_take, List.length_drop, List.length_append, List.length_map, List.length_cons, List.length_nil]; done) | (simp only [List.length_take, List.length_drop, List.length_append, List.length_map, List.length_cons, List.length_nil]; omega))) only [W1, ↓W2, unbyte, implies_true, ← List.map_take, ← List.map_drop, bne_self_eq_false, eqCells, flatTD, Nat.reducePow, ayield, eq_self, exists_eq_left', exists_eq_left, exists_eq', Int.reduceLE, Int.reduceLT, Nat.reduceLeDiff, Int.reduceToNat, Int.reduceAdd, Int.reduceSub, Int.reduceMul, Int.reduceNeg, Int.reduceEq, argEnv, aeval, get, put, ofVal, ofVals, List.map, cond_true, cond_false, Nat.reduceBEq, nexts, allocs, countAllocs, pad, Nat.reduceAdd, Nat.reduceMul, Nat.reduceSub, Nat.reduceLT, isVoid, aNilCheck, aExtract, aNilB, isNilD, notD, aCap, aClear, aAppendZ, aInt, aStr, aConv, aSlice, asNat?, cutTight, aIndexAddr, aFieldAddr, aField, aIndex, aLoad, aStore, aAlloc, aBox, aBuild, aBuildSlice, aMakeSlice, aLen, aMax, aMin, aAppend, aCopy, aBuiltin, TD.isSlice, TD.isAgg, TD.known, TD.isSeq, partD, partOb, cellsAt, Blk.cells, if_true, if_false, splice, fillD, dl, byteD, Int.reduceBEq, Int.reduceBNe, beq_self_eq_true, retQ, retK, resD, resL, andR, elemCells, isByte, chunk, reduceCtorEq, okVal, okCell, List.replicate, ne_eq, Nat.reduceEqDiff, headIds_cons, IntWalk.toNatUp]
  refine loopR (fun i : Nat => [(0, .sl 5 (l.map GAct.d) false), (1, .int .u8 p.toNat), (5, .ptr 0 0), (6, .int .i64 (stU l n i).2), (7, .int .i64 i)]) (fun i => [.live (cD (stU l n i).1)]) (fun i => i ≤ l.length) (fun i => l.length - i) 0 (Nat.zero_le _) ?_ ?_
  · refine fitsL ?_ ?_
    · simp only [leEnv_nil', leEnv_cons', leD_self, leD_nilref, leD_nilsl, leD_uncap, leD_loose, le1_self, le1_nilref, le1_nilsl, leC_nil', leC_cons', leB_self, leB_live', leH_nil', leH_cons', get, cond_true, cond_false, Nat.reduceBEq, List.replicate, List.cons_append, List.nil_append, and_self, List.map_nil, List.length_nil, List.take_zero, List.flatMap_nil, Int.natCast_zero, stU]
    · simp only [leEnv_nil', leEnv_cons', leD_self, leD_nilref, leD_nilsl, leD_uncap, leD_loose, le1_self, le1_nilref, le1_nilsl, leC_nil', leC_cons', leB_self, leB_live', leH_nil', leH_cons', get, cond_true, cond_false, Nat.reduceBEq, List.replicate, List.cons_append, List.nil_append, and_self, List.map_nil, List.length_nil, List.take_zero, List.flatMap_nil, cD, stU, armM, zeroDisk, List.map_nil]
  intro i hi
  have hU := stU_fuse hnb hsa i hi
  obtain ⟨s, hst⟩ : ∃ s, stU l n i = s := ⟨_, rfl⟩
  obtain ⟨d, k⟩ := s
  have hd1 : (stU l n i).1 = d := by rw [hst]
  have hd2 : (stU l n i).2 = k := by rw [hst]
  rw [hst] at hU
  have hF : Fine i d := hU.fine
  have hl0 : 0 ≤ d.left := hF.left.2
  have hkn : (k : Int) ≤ n := by have : d.left = n - k := hU.left; omega
  cases h1 : decide ((i : Int) < (l.length : Int))
  · have g1 := crash_ok d [] (by have := hF.files.len; omega) ⟨Nat.zero_le _, fun x hx => (by cases hx)⟩ (hF.data (by omega)) hF.files.ok
    rw [show (crashM d []).d = .agg [dl 3 GFile.d (crashF d.files []), .int .i64 d.cap, .bool false, .int .i64 0, .bool false] from rfl] at g1
    simp only [GDisk.d, dl] at g1
    simp (disch := (first | omega | (simp only [List.length_take, List.length_drop, List.length_append, List.length_map, List.length_cons, List.length_nil]; done) | (simp only [List.length_take, List.length_drop, List.length_append, List.length_map, List.length_cons, List.length_nil]; omega))) only [h1, hd1, cD, W1, ↓W2, unbyte, implies_true, ← List.map_take, ← List.map_drop, bne_self_eq_false, eqCells, flatTD, Nat.reducePow, ayield, eq_self, exists_eq_left', exists_eq_left, exists_eq', Int.reduceLE, Int.reduceLT, Nat.reduceLeDiff, Int.reduceToNat, Int.reduceAdd, Int.reduceSub, Int.reduceMul, Int.reduceNeg, Int.reduceEq, argEnv, aeval, get, put, ofVal, ofVals, List.map, cond_true, cond_false, Nat.reduceBEq, nexts, allocs, countAllocs, pad, Nat.reduceAdd, Nat.reduceMul, Nat.reduceSub, Nat.reduceLT, isVoid, aNilCheck, aExtract, aNilB, isNilD, notD, aCap, aClear, aAppendZ, aInt, aStr, aConv, aSlice, asNat?, cutTight, aIndexAddr, aFieldAddr, aField, aIndex, aLoad, aStore, aAlloc, aBox, aBuild, aBuildSlice, aMakeSlice, aLen, aMax, aMin, aAppend, aCopy, aBuiltin, TD.isSlice, TD.isAgg, TD.known, TD.isSeq, partD, partOb, cellsAt, Blk.cells, if_true, if_false, splice, fillD, dl, byteD, Int.reduceBEq, Int.reduceBNe, beq_self_eq_true, retQ, retK, resD, resL, andR, elemCells, isByte, chunk, reduceCtorEq, okVal, okCell, List.replicate, ne_eq, Nat.reduceEqDiff, headIds_cons, IntWalk.toNatUp]
    refine callP awake06 rfl ?_
    simp (disch := (first | omega | (simp only [List.length_take, List.length_drop, List.length_append, List.length_map, List.length_cons, List.length_nil]; done) | (simp only [List.length_take, List.length_drop, List.length_append, List.length_map, List.length_cons, List.length_nil]; omega))) only [W1, ↓W2, unbyte, implies_true, ← List.map_take, ← List.map_drop, bne_self_eq_false, eqCells, flatTD, Nat.reducePow, ayield, eq_self, exists_eq_left', exists_eq_left, exists_eq', Int.reduceLE, Int.reduceLT, Nat.reduceLeDiff, Int.reduceToNat, Int.reduceAdd, Int.reduceSub, Int.reduceMul, Int.reduceNeg, Int.reduceEq, argEnv, aeval, get, put, ofVal, ofVals, List.map, cond_true, cond_false, Nat.reduceBEq, nexts, allocs, countAllocs, pad, Nat.reduceAdd, Nat.reduceMul, Nat.reduceSub, Nat.reduceLT, isVoid, aNilCheck, aExtract, aNilB, isNilD, notD, aCap, aClear, aAppendZ, aInt, aStr, aConv, aSlice, asNat?, cutTight, aIndexAddr, aFieldAddr, aField, aIndex, aLoad, aStore, aAlloc, aBox, aBuild, aBuildSlice, aMakeSlice, aLen, aMax, aMin, aAppend, aCopy, aBuiltin, TD.isSlice, TD.isAgg, TD.known, TD.isSeq, partD, partOb, cellsAt, Blk.cells, if_true, if_false, splice, fillD, dl, byteD, Int.reduceBEq, Int.reduceBNe, beq_self_eq_true, retQ, retK, resD, resL, andR, elemCells, isByte, chunk, reduceCtorEq, okVal, okCell, List.replicate, ne_eq, Nat.reduceEqDiff, headIds_cons, IntWalk.toNatUp]
    refine callSub g1 ⟨Sub.refl (GDisk.noIds d), Sub.nil 1 false, trivial⟩ ?_
    simp (disch := (first | omega | (simp only [List.length_take, List.length_drop, List.length_append, List.length_map, List.length_cons, List.length_nil]; done) | (simp only [List.length_take, List.length_drop, List.length_append, List.length_map, List.length_cons, List.length_nil]; omega))) only [W1, ↓W2, unbyte, implies_true, ← List.map_take, ← List.map_drop, bne_self_eq_false, eqCells, flatTD, Nat.reducePow, ayield, eq_self, exists_eq_left', exists_eq_left, exists_eq', Int.reduceLE, Int.reduceLT, Nat.reduceLeDiff, Int.reduceToNat, Int.reduceAdd, Int.reduceSub, Int.reduceMul, Int.reduceNeg, Int.reduceEq, argEnv, aeval, get, put, ofVal, ofVals, List.map, cond_true, cond_false, Nat.reduceBEq, nexts, allocs, countAllocs, pad, Nat.reduceAdd, Nat.reduceMul, Nat.reduceSub, Nat.reduceLT, isVoid, aNilCheck, aExtract, aNilB, isNilD, notD, aCap, aClear, aAppendZ, aInt, aStr, aConv, aSlice, asNat?, cutTight, aIndexAddr, aFieldAddr, aField, aIndex, aLoad, aStore, aAlloc, aBox, aBuild, aBuildSlice, aMakeSlice, aLen, aMax, aMin, aAppend, aCopy, aBuiltin, TD.isSlice, TD.isAgg, TD.known, TD.isSeq, partD, partOb, cellsAt, Blk.cells, if_true, if_false, splice, fillD, dl, byteD, Int.reduceBEq, Int.reduceBNe, beq_self_eq_true, retQ, retK, resD, resL, andR, elemCells, isByte, chunk, reduceCtorEq, okVal, okCell, List.replicate, ne_eq, Nat.reduceEqDiff, headIds_cons, IntWalk.toNatUp]
    exact Sub.refl rfl
  have h1' := of_decide_eq_true h1
  have hil : i < l.length := by omega
  obtain ⟨a, ha⟩ : ∃ a, l[i] = a := ⟨_, rfl⟩
  have hA := hsa a (ha ▸ List.getElem_mem hil)
  have hnx := stU_succ (n := n) hil ha
  rw [hst] at hnx
  have stay : ¬ (0 ≤ a.kind ∧ a.kind ≤ 5) → stU l n (i + 1) = (d, k) := fun h => by rw [hnx, if_neg h]
  cases c1 : decide (a.kind < 0)
  case true =>
    have e := stay fun h => by have := of_decide_eq_true c1; omega
    simp (disch := (first | omega | (simp only [List.length_take, List.length_drop, List.length_append, List.length_map, List.length_cons, List.length_nil]; done) | (simp only [List.length_take, List.length_drop, List.length_append, List.length_map, List.length_cons, List.length_nil]; omega))) only [h1, ha, hd1, hd2, cD, GAct.d, c1, W1, ↓W2, unbyte, implies_true, ← List.map_take, ← List.map_drop, bne_self_eq_false, eqCells, flatTD, Nat.reducePow, ayield, eq_self, exists_eq_left', exists_eq_left, exists_eq', Int.reduceLE, Int.reduceLT, Nat.reduceLeDiff, Int.reduceToNat, Int.reduceAdd, Int.reduceSub, Int.reduceMul, Int.reduceNeg, Int.reduceEq, argEnv, aeval, get, put, ofVal, ofVals, List.map, cond_true, cond_false, Nat.reduceBEq, nexts, allocs, countAllocs, pad, Nat.reduceAdd, Nat.reduceMul, Nat.reduceSub, Nat.reduceLT, isVoid, aNilCheck, aExtract, aNilB, isNilD, notD, aCap, aClear, aAppendZ, aInt, aStr, aConv, aSlice, asNat?, cutTight, aIndexAddr, aFieldAddr, aField, aIndex, aLoad, aStore, aAlloc, aBox, aBuild, aBuildSlice, aMakeSlice, aLen, aMax, aMin, aAppend, aCopy, aBuiltin, TD.isSlice, TD.isAgg, TD.known, TD.isSeq, partD, partOb, cellsAt, Blk.cells, if_true, if_false, splice, fillD, dl, byteD, Int.reduceBEq, Int.reduceBNe, beq_self_eq_true, retQ, retK, resD, resL, andR, elemCells, isByte, chunk, reduceCtorEq, okVal, okCell, List.replicate, ne_eq, Nat.reduceEqDiff, headIds_cons, IntWalk.toNatUp]
    refine ⟨i + 1, by omega, by omega, fitsR [0] ?_ ?_ (by simp [liveIds]) rfl⟩
    · simp only [Int.natCast_add, Int.cast_ofNat_Int, fe_nil, fe_data, fe_ref, fe_refc, fe_ptr, fh_nil, fh_dead, fh_live, fh_froz, liveIds, ni_int, ni_bool, ni_str, ni_agg, ni_nil, ni_sl, ni_cp, ni_nilp, ni_fn, ni_nilf, ni_tup, ni_niface, ni_iface, ni_nilL, ni_consL, Bool.and_self, List.length_cons, List.length_nil, get, cond_true, cond_false, Nat.reduceBEq, List.getElem?_cons_zero, List.getElem?_cons_succ, true_and, and_true, eq_self, List.getD_cons_zero, List.getD_cons_succ, Nat.reduceAdd, Nat.reduceLT, noL _ GAct.noIds, e]
    · rw [e, fh_live _ _ _ _ _ _ (niC' d)]
      exact ⟨rfl, trivial⟩
  cases c2 : decide (a.kind > 5)
  case true =>
    have e := stay fun h => by have := of_decide_eq_true c2; omega
    simp (disch := (first | omega | (simp only [List.length_take, List.length_drop, List.length_append, List.length_map, List.length_cons, List.length_nil]; done) | (simp only [List.length_take, List.length_drop, List.length_append, List.length_map, List.length_cons, List.length_nil]; omega))) only [h1, ha, hd1, hd2, cD, GAct.d, c1, c2, W1, ↓W2, unbyte, implies_true, ← List.map_take, ← List.map_drop, bne_self_eq_false, eqCells, flatTD, Nat.reducePow, ayield, eq_self, exists_eq_left', exists_eq_left, exists_eq', Int.reduceLE, Int.reduceLT, Nat.reduceLeDiff, Int.reduceToNat, Int.reduceAdd, Int.reduceSub, Int.reduceMul, Int.reduceNeg, Int.reduceEq, argEnv, aeval, get, put, ofVal, ofVals, List.map, cond_true, cond_false, Nat.reduceBEq, nexts, allocs, countAllocs, pad, Nat.reduceAdd, Nat.reduceMul, Nat.reduceSub, Nat.reduceLT, isVoid, aNilCheck, aExtract, aNilB, isNilD, notD, aCap, aClear, aAppendZ, aInt, aStr, aConv, aSlice, asNat?, cutTight, aIndexAddr, aFieldAddr, aField, aIndex, aLoad, aStore, aAlloc, aBox, aBuild, aBuildSlice, aMakeSlice, aLen, aMax, aMin, aAppend, aCopy, aBuiltin, TD.isSlice, TD.isAgg, TD.known, TD.isSeq, partD, partOb, cellsAt, Blk.cells, if_true, if_false, splice, fillD, dl, byteD, Int.reduceBEq, Int.reduceBNe, beq_self_eq_true, retQ, retK, resD, resL, andR, elemCells, isByte, chunk, reduceCtorEq, okVal, okCell, List.replicate, ne_eq, Nat.reduceEqDiff, headIds_cons, IntWalk.toNatUp]
    refine ⟨i + 1, by omega, by omega, fitsR [0] ?_ ?_ (by simp [liveIds]) rfl⟩
    · simp only [Int.natCast_add, Int.cast_ofNat_Int, fe_nil, fe_data, fe_ref, fe_refc, fe_ptr, fh_nil, fh_dead, fh_live, fh_froz, liveIds, ni_int, ni_bool, ni_str, ni_agg, ni_nil, ni_sl, ni_cp, ni_nilp, ni_fn, ni_nilf, ni_tup, ni_niface, ni_iface, ni_nilL, ni_consL, Bool.and_self, List.length_cons, List.length_nil, get, cond_true, cond_false, Nat.reduceBEq, List.getElem?_cons_zero, List.getElem?_cons_succ, true_and, and_true, eq_self, List.getD_cons_zero, List.getD_cons_succ, Nat.reduceAdd, Nat.reduceLT, noL _ GAct.noIds, e]
    · rw [e, fh_live _ _ _ _ _ _ (niC' d)]
      exact ⟨rfl, trivial⟩
  have hk : 0 ≤ a.kind ∧ a.kind ≤ 5 := by have := of_decide_eq_false c1; have := of_decide_eq_false c2; omega
  rw [if_pos hk] at hnx
  obtain ⟨hU2, hcase⟩ := fuse_step hU hA hk
  have g1 := do_ok i d a (by omega) hF hA
  have n1 := aniA d a
  obtain ⟨X, hX⟩ : ∃ X, doM d a = X := ⟨_, rfl⟩
  rw [hX] at g1
  simp only [hX] at hnx hcase
  simp only [GDisk.d, dl, GAct.d, chD] at g1 n1
  simp (disch := (first | omega | (simp only [List.length_take, List.length_drop, List.length_append, List.length_map, List.length_cons, List.length_nil]; done) | (simp only [List.length_take, List.length_drop, List.length_append, List.length_map, List.length_cons, List.length_nil]; omega))) only [h1, ha, hd1, hd2, cD, GAct.d, c1, c2, W1, ↓W2, unbyte, implies_true, ← List.map_take, ← List.map_drop, bne_self_eq_false, eqCells, flatTD, Nat.reducePow, ayield, eq_self, exists_eq_left', exists_eq_left, exists_eq', Int.reduceLE, Int.reduceLT, Nat.reduceLeDiff, Int.reduceToNat, Int.reduceAdd, Int.reduceSub, Int.reduceMul, Int.reduceNeg, Int.reduceEq, argEnv, aeval, get, put, ofVal, ofVals, List.map, cond_true, cond_false, Nat.reduceBEq, nexts, allocs, countAllocs, pad, Nat.reduceAdd, Nat.reduceMul, Nat.reduceSub, Nat.reduceLT, isVoid, aNilCheck, aExtract, aNilB, isNilD, notD, aCap, aClear, aAppendZ, aInt, aStr, aConv, aSlice, asNat?, cutTight, aIndexAddr, aFieldAddr, aField, aIndex, aLoad, aStore, aAlloc, aBox, aBuild, aBuildSlice, aMakeSlice, aLen, aMax, aMin, aAppend, aCopy, aBuiltin, TD.isSlice, TD.isAgg, TD.known, TD.isSeq, partD, partOb, cellsAt, Blk.cells, if_true, if_false, splice, fillD, dl, byteD, Int.reduceBEq, Int.reduceBNe, beq_self_eq_true, retQ, retK, resD, resL, andR, elemCells, isByte, chunk, reduceCtorEq, okVal, okCell, List.replicate, ne_eq, Nat.reduceEqDiff, headIds_cons, IntWalk.toNatUp]
  refine draw_fast 0 ?_ ?_
  · decide +kernel
  simp (disch := (first | omega | (simp only [List.length_take, List.length_drop, List.length_append, List.length_map, List.length_cons, List.length_nil]; done) | (simp only [List.length_take, List.length_drop, List.length_append, List.length_map, List.length_cons, List.length_nil]; omega))) only [ha, GAct.d, W1, ↓W2, unbyte, implies_true, ← List.map_take, ← List.map_drop, bne_self_eq_false, eqCells, flatTD, Nat.reducePow, ayield, eq_self, exists_eq_left', exists_eq_left, exists_eq', Int.reduceLE, Int.reduceLT, Nat.reduceLeDiff, Int.reduceToNat, Int.reduceAdd, Int.reduceSub, Int.reduceMul, Int.reduceNeg, Int.reduceEq, argEnv, aeval, get, put, ofVal, ofVals, List.map, cond_true, cond_false, Nat.reduceBEq, nexts, allocs, countAllocs, pad, Nat.reduceAdd, Nat.reduceMul, Nat.reduceSub, Nat.reduceLT, isVoid, aNilCheck, aExtract, aNilB, isNilD, notD, aCap, aClear, aAppendZ, aInt, aStr, aConv, aSlice, asNat?, cutTight, aIndexAddr, aFieldAddr, aField, aIndex, aLoad, aStore, aAlloc, aBox, aBuild, aBuildSlice, aMakeSlice, aLen, aMax, aMin, aAppend, aCopy, aBuiltin, TD.isSlice, TD.isAgg, TD.known, TD.isSeq, partD, partOb, cellsAt, Blk.cells, if_true, if_false, splice, fillD, dl, byteD, Int.reduceBEq, Int.reduceBNe, beq_self_eq_true, retQ, retK, resD, resL, andR, elemCells, isByte, chunk, reduceCtorEq, okVal, okCell, List.replicate, ne_eq, Nat.reduceEqDiff, headIds_cons, IntWalk.toNatUp]
  refine tcP g1 n1 ?_
  simp (disch := (first | omega | (simp only [List.length_take, List.length_drop, List.length_append, List.length_map, List.length_cons, List.length_nil]; done) | (simp only [List.length_take, List.length_drop, List.length_append, List.length_map, List.length_cons, List.length_nil]; omega))) only [W1, ↓W2, unbyte, implies_true, ← List.map_take, ← List.map_drop, bne_self_eq_false, eqCells, flatTD, Nat.reducePow, ayield, eq_self, exists_eq_left', exists_eq_left, exists_eq', Int.reduceLE, Int.reduceLT, Nat.reduceLeDiff, Int.reduceToNat, Int.reduceAdd, Int.reduceSub, Int.reduceMul, Int.reduceNeg, Int.reduceEq, argEnv, aeval, get, put, ofVal, ofVals, List.map, cond_true, cond_false, Nat.reduceBEq, nexts, allocs, countAllocs, pad, Nat.reduceAdd, Nat.reduceMul, Nat.reduceSub, Nat.reduceLT, isVoid, aNilCheck, aExtract, aNilB, isNilD, notD, aCap, aClear, aAppendZ, aInt, aStr, aConv, aSlice, asNat?, cutTight, aIndexAddr, aFieldAddr, aField, aIndex, aLoad, aStore, aAlloc, aBox, aBuild, aBuildSlice, aMakeSlice, aLen, aMax, aMin, aAppend, aCopy, aBuiltin, TD.isSlice, TD.isAgg, TD.known, TD.isSeq, partD, partOb, cellsAt, Blk.cells, if_true, if_false, splice, fillD, dl, byteD, Int.reduceBEq, Int.reduceBNe, beq_self_eq_true, retQ, retK, resD, resL, andR, elemCells, isByte, chunk, reduceCtorEq, okVal, okCell, List.replicate, ne_eq, Nat.reduceEqDiff, headIds_cons, IntWalk.toNatUp]
  refine tend_fast ?_ ?_
  · decide +kernel
  rcases hcase with ⟨k1, k2, k3⟩ | ⟨k1, k2, k3⟩
  · have e0 : (X.2 == 0) = false := by rw [k2]; rfl
    have e1 : (X.2 != 10) = false := by rw [k2]; rfl
    have e2 : (X.2 == 10) = true := by rw [k2]; rfl
    have e3 : ((k : Int) != n) = false := by simpa using k3
    have e4 : decide ((k : Int) > n) = false := decide_eq_false (by omega)
    rw [if_neg (by rw [k2]; decide)] at hnx
    simp (disch := (first | omega | (simp only [List.length_take, List.length_drop, List.length_append, List.length_map, List.length_cons, List.length_nil]; done) | (simp only [List.length_take, List.length_drop, List.length_append, List.length_map, List.length_cons, List.length_nil]; omega))) only [e0, e1, e2, e3, e4, k1, hrem, W1, ↓W2, unbyte, implies_true, ← List.map_take, ← List.map_drop, bne_self_eq_false, eqCells, flatTD, Nat.reducePow, ayield, eq_self, exists_eq_left', exists_eq_left, exists_eq', Int.reduceLE, Int.reduceLT, Nat.reduceLeDiff, Int.reduceToNat, Int.reduceAdd, Int.reduceSub, Int.reduceMul, Int.reduceNeg, Int.reduceEq, argEnv, aeval, get, put, ofVal, ofVals, List.map, cond_true, cond_false, Nat.reduceBEq, nexts, allocs, countAllocs, pad, Nat.reduceAdd, Nat.reduceMul, Nat.reduceSub, Nat.reduceLT, isVoid, aNilCheck, aExtract, aNilB, isNilD, notD, aCap, aClear, aAppendZ, aInt, aStr, aConv, aSlice, asNat?, cutTight, aIndexAddr, aFieldAddr, aField, aIndex, aLoad, aStore, aAlloc, aBox, aBuild, aBuildSlice, aMakeSlice, aLen, aMax, aMin, aAppend, aCopy, aBuiltin, TD.isSlice, TD.isAgg, TD.known, TD.isSeq, partD, partOb, cellsAt, Blk.cells, if_true, if_false, splice, fillD, dl, byteD, Int.reduceBEq, Int.reduceBNe, beq_self_eq_true, retQ, retK, resD, resL, andR, elemCells, isByte, chunk, reduceCtorEq, okVal, okCell, List.replicate, ne_eq, Nat.reduceEqDiff, headIds_cons, IntWalk.toNatUp]
    refine ⟨i + 1, by omega, by omega, fitsR [0] ?_ ?_ (by simp [liveIds]) rfl⟩
    · simp only [Int.natCast_add, Int.cast_ofNat_Int, fe_nil, fe_data, fe_ref, fe_refc, fe_ptr, fh_nil, fh_dead, fh_live, fh_froz, liveIds, ni_int, ni_bool, ni_str, ni_agg, ni_nil, ni_sl, ni_cp, ni_nilp, ni_fn, ni_nilf, ni_tup, ni_niface, ni_iface, ni_nilL, ni_consL, Bool.and_self, List.length_cons, List.length_nil, get, cond_true, cond_false, Nat.reduceBEq, List.getElem?_cons_zero, List.getElem?_cons_succ, true_and, and_true, eq_self, List.getD_cons_zero, List.getD_cons_succ, Nat.reduceAdd, Nat.reduceLT, noL _ GAct.noIds, hnx]
    · rw [hnx, fh_live _ _ _ _ _ _ (niC' X.1), k1]
      exact ⟨rfl, trivial⟩
  have e2 : (X.2 == 10) = false := by simpa using k2
  cases e0 : (X.2 == 0)
  · have e0' : ¬ X.2 = 0 := by simpa using e0
    rw [if_neg e0'] at hnx k3
    have e4 : decide ((k : Int) > n) = false := decide_eq_false (by omega)
    simp (disch := (first | omega | (simp only [List.length_take, List.length_drop, List.length_append, List.length_map, List.length_cons, List.length_nil]; done) | (simp only [List.length_take, List.length_drop, List.length_append, List.length_map, List.length_cons, List.length_nil]; omega))) only [e0, e2, e4, k1, hrem, W1, ↓W2, unbyte, implies_true, ← List.map_take, ← List.map_drop, bne_self_eq_false, eqCells, flatTD, Nat.reducePow, ayield, eq_self, exists_eq_left', exists_eq_left, exists_eq', Int.reduceLE, Int.reduceLT, Nat.reduceLeDiff, Int.reduceToNat, Int.reduceAdd, Int.reduceSub, Int.reduceMul, Int.reduceNeg, Int.reduceEq, argEnv, aeval, get, put, ofVal, ofVals, List.map, cond_true, cond_false, Nat.reduceBEq, nexts, allocs, countAllocs, pad, Nat.reduceAdd, Nat.reduceMul, Nat.reduceSub, Nat.reduceLT, isVoid, aNilCheck, aExtract, aNilB, isNilD, notD, aCap, aClear, aAppendZ, aInt, aStr, aConv, aSlice, asNat?, cutTight, aIndexAddr, aFieldAddr, aField, aIndex, aLoad, aStore, aAlloc, aBox, aBuild, aBuildSlice, aMakeSlice, aLen, aMax, aMin, aAppend, aCopy, aBuiltin, TD.isSlice, TD.isAgg, TD.known, TD.isSeq, partD, partOb, cellsAt, Blk.cells, if_true, if_false, splice, fillD, dl, byteD, Int.reduceBEq, Int.reduceBNe, beq_self_eq_true, retQ, retK, resD, resL, andR, elemCells, isByte, chunk, reduceCtorEq, okVal, okCell, List.replicate, ne_eq, Nat.reduceEqDiff, headIds_cons, IntWalk.toNatUp]
    refine ⟨i + 1, by omega, by omega, fitsR [0] ?_ ?_ (by simp [liveIds]) rfl⟩
    · simp only [Int.natCast_add, Int.cast_ofNat_Int, fe_nil, fe_data, fe_ref, fe_refc, fe_ptr, fh_nil, fh_dead, fh_live, fh_froz, liveIds, ni_int, ni_bool, ni_str, ni_agg, ni_nil, ni_sl, ni_cp, ni_nilp, ni_fn, ni_nilf, ni_tup, ni_niface, ni_iface, ni_nilL, ni_consL, Bool.and_self, List.length_cons, List.length_nil, get, cond_true, cond_false, Nat.reduceBEq, List.getElem?_cons_zero, List.getElem?_cons_succ, true_and, and_true, eq_self, List.getD_cons_zero, List.getD_cons_succ, Nat.reduceAdd, Nat.reduceLT, noL _ GAct.noIds, hnx]
    · rw [hnx, fh_live _ _ _ _ _ _ (niC' X.1), k1]
      exact ⟨rfl, trivial⟩
  · have e0' : X.2 = 0 := by simpa using e0
    rw [if_pos e0'] at hnx k3
    have e4 : decide ((k : Int) + 1 > n) = false := decide_eq_false (by omega)
    simp (disch := (first | omega | (simp only [List.length_take, List.length_drop, List.length_append, List.length_map, List.length_cons, List.length_nil]; done) | (simp only [List.length_take, List.length_drop, List.length_append, List.length_map, List.length_cons, List.length_nil]; omega))) only [e0, e2, e4, k1, hrem, W1, ↓W2, unbyte, implies_true, ← List.map_take, ← List.map_drop, bne_self_eq_false, eqCells, flatTD, Nat.reducePow, ayield, eq_self, exists_eq_left', exists_eq_left, exists_eq', Int.reduceLE, Int.reduceLT, Nat.reduceLeDiff, Int.reduceToNat, Int.reduceAdd, Int.reduceSub, Int.reduceMul, Int.reduceNeg, Int.reduceEq, argEnv, aeval, get, put, ofVal, ofVals, List.map, cond_true, cond_false, Nat.reduceBEq, nexts, allocs, countAllocs, pad, Nat.reduceAdd, Nat.reduceMul, Nat.reduceSub, Nat.reduceLT, isVoid, aNilCheck, aExtract, aNilB, isNilD, notD, aCap, aClear, aAppendZ, aInt, aStr, aConv, aSlice, asNat?, cutTight, aIndexAddr, aFieldAddr, aField, aIndex, aLoad, aStore, aAlloc, aBox, aBuild, aBuildSlice, aMakeSlice, aLen, aMax, aMin, aAppend, aCopy, aBuiltin, TD.isSlice, TD.isAgg, TD.known, TD.isSeq, partD, partOb, cellsAt, Blk.cells, if_true, if_false, splice, fillD, dl, byteD, Int.reduceBEq, Int.reduceBNe, beq_self_eq_true, retQ, retK, resD, resL, andR, elemCells, isByte, chunk, reduceCtorEq, okVal, okCell, List.replicate, ne_eq, Nat.reduceEqDiff, headIds_cons, IntWalk.toNatUp]
    refine ⟨i + 1, by omega, by omega, fitsR [0] ?_ ?_ (by simp [liveIds]) rfl⟩
    · simp only [Int.natCast_add, Int.cast_ofNat_Int, fe_nil, fe_data, fe_ref, fe_refc, fe_ptr, fh_nil, fh_dead, fh_live, fh_froz, liveIds, ni_int, ni_bool, ni_str, ni_agg, ni_nil, ni_sl, ni_cp, ni_nilp, ni_fn, ni_nilf, ni_tup, ni_niface, ni_iface, ni_nilL, ni_consL, Bool.and_self, List.length_cons, List.length_nil, get, cond_true, cond_false, Nat.reduceBEq, List.getElem?_cons_zero, List.getElem?_cons_succ, true_and, and_true, eq_self, List.getD_cons_zero, List.getD_cons_succ, Nat.reduceAdd, Nat.reduceLT, noL _ GAct.noIds, hnx]
    · rw [hnx, fh_live _ _ _ _ _ _ (niC' X.1), k1]
      exact ⟨rfl, trivial⟩

end Go.Proofs.Ytlkffgmejcgdbaa
