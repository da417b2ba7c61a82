/- A change of a disk, by what its closure leaves and returns: with no captured block, one, two (the first of them the disk's). PRINTED by gen/diskb.py -/
import Derived.Test.YtlkffgmejcgdbaaDiskA
namespace Go.Proofs.Ytlkffgmejcgdbaa
set_option linter.all false
-- bundled

set_option maxRecDepth 100000
set_option pp.deepTerms.threshold 50

def zerosD : List D := [.nil, .int .i64 0, .bool false, .int .i64 0, .bool false]
theorem niC (d : GDisk) : D.noIdsL d.d.cells = true := noIdsL_cells _ (GDisk.noIds d)
def chD (x : GDisk × Int) : D := .tup [x.1.d, .int .i64 x.2]
theorem chNi (x : GDisk) (e : Int) : (D.tup [x.d, .int .i64 e]).noIds = true := by simp only [ni_tup, ni_consL, ni_nilL, GDisk.noIds, ni_int, Bool.and_self]

/-- What is returned is a slice of a whole block, and a number: that block is told, the one handed in is given up; what was captured stays. -/
theorem own_lastt0 {P : Program} {g : FuncId} {args : List D} {G0 : Blk} {m sz : Nat} {cs  : List D} (e : Int) (hn : D.noIdsL cs = true)  (h : ACalls P g args [G0] fun r H' => ∃ b, r = .tup [.ref b 0 m sz, .int .i64 e] ∧ H'[b]? = some (.live cs)) : EffN P g args [G0] (.tup [.ref 1 0 m sz, .int .i64 e]) [.dead, .live cs] := by
  unfold EffN
  refine acalls_fits h fun r H1 ⟨b, hr, hb⟩ => ?_
  subst hr
  refine ⟨.tup [.ref 1 0 m sz, .int .i64 e], [.dead, .live cs], fitsR [0, b] ⟨⟨rfl, rfl⟩, trivial⟩ ?_ (by simp [liveIds]) rfl, by simp, rfl, rfl⟩
  rw [fh_dead, fh_live _ _ _ _ _ _ hn]
  exact ⟨hb, trivial⟩

/-- What is returned is a slice of a whole block, and a number: that block is told, the one handed in is given up; what was captured stays. -/
theorem own_lastt1 {P : Program} {g : FuncId} {args : List D} {G0 : Blk} {m sz : Nat} {cs e0 : List D} (e : Int) (hn : D.noIdsL cs = true) (hc0 : D.noIdsL e0 = true) (h : ACalls P g args [G0, .live e0] fun r H' => ∃ b, r = .tup [.ref b 0 m sz, .int .i64 e] ∧ H'[b]? = some (.live cs) ∧ H'[1]? = some (.live e0) ∧ b ≠ 1) : EffN P g args [G0, .live e0] (.tup [.ref 2 0 m sz, .int .i64 e]) [.dead, .live e0, .live cs] := by
  unfold EffN
  refine acalls_fits h fun r H1 ⟨b, hr, hb, h1, n1⟩ => ?_
  subst hr
  have m1 : ¬ 1 = b := fun e => n1 e.symm
  refine ⟨.tup [.ref 2 0 m sz, .int .i64 e], [.dead, .live e0, .live cs], fitsR [0, 1, b] ⟨⟨rfl, rfl⟩, trivial⟩ ?_ (by simp [liveIds, m1]) rfl, by simp, rfl, rfl⟩
  rw [fh_dead, fh_live _ _ _ _ _ _ hc0, fh_live _ _ _ _ _ _ hn]
  exact ⟨h1, hb, trivial⟩

/-- What is returned is a slice of a whole block, and a number: that block is told, the one handed in is given up; what was captured stays. -/
theorem own_lastt2 {P : Program} {g : FuncId} {args : List D} {G0 : Blk} {m sz : Nat} {cs e0 e1 : List D} (e : Int) (hn : D.noIdsL cs = true) (hc0 : D.noIdsL e0 = true) (hc1 : D.noIdsL e1 = true) (h : ACalls P g args [G0, .live e0, .live e1] fun r H' => ∃ b, r = .tup [.ref b 0 m sz, .int .i64 e] ∧ H'[b]? = some (.live cs) ∧ H'[1]? = some (.live e0) ∧ b ≠ 1 ∧ H'[2]? = some (.live e1) ∧ b ≠ 2) : EffN P g args [G0, .live e0, .live e1] (.tup [.ref 3 0 m sz, .int .i64 e]) [.dead, .live e0, .live e1, .live cs] := by
  unfold EffN
  refine acalls_fits h fun r H1 ⟨b, hr, hb, h1, n1, h2, n2⟩ => ?_
  subst hr
  have m1 : ¬ 1 = b := fun e => n1 e.symm
  have m2 : ¬ 2 = b := fun e => n2 e.symm
  refine ⟨.tup [.ref 3 0 m sz, .int .i64 e], [.dead, .live e0, .live e1, .live cs], fitsR [0, 1, 2, b] ⟨⟨rfl, rfl⟩, trivial⟩ ?_ (by simp [liveIds, m1, m2]) rfl, by simp, rfl, rfl⟩
  rw [fh_dead, fh_live _ _ _ _ _ _ hc0, fh_live _ _ _ _ _ _ hc1, fh_live _ _ _ _ _ _ hn]
  exact ⟨h1, h2, hb, trivial⟩

/-- The caller's blocks stay; another one is told of, where files are new. -/
theorem own_keep2 {P : Program} {g : FuncId} {args : List D} {c0 c1 : List D} {x : D} (h0 : D.noIdsL c0 = true) (h1 : D.noIdsL c1 = true) (hx : x.noIds = true) (hxa : x ≠ .any)
    (h : ACalls P g args [.live c0, .live c1] fun r H' => r = x ∧ H'[0]? = some (.live c0) ∧ H'[1]? = some (.live c1)) : EffN P g args [.live c0, .live c1] x [.live c0, .live c1] := by
  unfold EffN
  refine acalls_fits h fun r H1 ⟨hr, k0, k1⟩ => ?_
  subst hr
  refine ⟨r, [.live c0, .live c1], fitsR [0, 1] ?_ ?_ (by simp [liveIds]) rfl, hxa, rfl, rfl⟩
  · rw [fe_data (d := r) (h := hx)]
    exact ⟨rfl, trivial⟩
  · rw [fh_live _ _ _ _ _ _ h0, fh_live _ _ _ _ _ _ h1]
    exact ⟨k0, k1, trivial⟩

theorem own_new2 {P : Program} {g : FuncId} {args : List D} {c0 c1 cs : List D} {m : Nat} {cap left e : Int} {armed down : Bool} (h0 : D.noIdsL c0 = true) (h1 : D.noIdsL c1 = true) (hn : D.noIdsL cs = true)
    (h : ACalls P g args [.live c0, .live c1] fun r H' => ∃ b, r = .tup [.agg [.ref b 0 m 3, .int .i64 cap, .bool armed, .int .i64 left, .bool down], .int .i64 e] ∧ H'[b]? = some (.live cs) ∧ 2 ≤ b ∧ H'[0]? = some (.live c0) ∧ H'[1]? = some (.live c1)) :
    EffN P g args [.live c0, .live c1] (.tup [.agg [.ref 2 0 m 3, .int .i64 cap, .bool armed, .int .i64 left, .bool down], .int .i64 e]) [.live c0, .live c1, .live cs] := by
  unfold EffN
  refine acalls_fits h fun r H1 ⟨b, hr, hb, hb3, k0, k1⟩ => ?_
  subst hr
  have n0 : ¬ 0 = b := by omega
  have n1 : ¬ 1 = b := by omega
  refine ⟨.tup [.agg [.ref 2 0 m 3, .int .i64 cap, .bool armed, .int .i64 left, .bool down], .int .i64 e], [.live c0, .live c1, .live cs], fitsR [0, 1, b] ⟨⟨rfl, rfl⟩, trivial⟩ ?_ (by simp [liveIds, n0, n1]) rfl, by simp, rfl, rfl⟩
  rw [fh_live _ _ _ _ _ _ h0, fh_live _ _ _ _ _ _ h1, fh_live _ _ _ _ _ _ hn]
  exact ⟨k0, k1, hb, trivial⟩

/-- The caller's blocks stay; another one is told of, where files are new. -/
theorem own_keep3 {P : Program} {g : FuncId} {args : List D} {c0 c1 c2 : List D} {x : D} (h0 : D.noIdsL c0 = true) (h1 : D.noIdsL c1 = true) (h2 : D.noIdsL c2 = true) (hx : x.noIds = true) (hxa : x ≠ .any)
    (h : ACalls P g args [.live c0, .live c1, .live c2] fun r H' => r = x ∧ H'[0]? = some (.live c0) ∧ H'[1]? = some (.live c1) ∧ H'[2]? = some (.live c2)) : EffN P g args [.live c0, .live c1, .live c2] x [.live c0, .live c1, .live c2] := by
  unfold EffN
  refine acalls_fits h fun r H1 ⟨hr, k0, k1, k2⟩ => ?_
  subst hr
  refine ⟨r, [.live c0, .live c1, .live c2], fitsR [0, 1, 2] ?_ ?_ (by simp [liveIds]) rfl, hxa, rfl, rfl⟩
  · rw [fe_data (d := r) (h := hx)]
    exact ⟨rfl, trivial⟩
  · rw [fh_live _ _ _ _ _ _ h0, fh_live _ _ _ _ _ _ h1, fh_live _ _ _ _ _ _ h2]
    exact ⟨k0, k1, k2, trivial⟩

theorem own_new3 {P : Program} {g : FuncId} {args : List D} {c0 c1 c2 cs : List D} {m : Nat} {cap left e : Int} {armed down : Bool} (h0 : D.noIdsL c0 = true) (h1 : D.noIdsL c1 = true) (h2 : D.noIdsL c2 = true) (hn : D.noIdsL cs = true)
    (h : ACalls P g args [.live c0, .live c1, .live c2] fun r H' => ∃ b, r = .tup [.agg [.ref b 0 m 3, .int .i64 cap, .bool armed, .int .i64 left, .bool down], .int .i64 e] ∧ H'[b]? = some (.live cs) ∧ 3 ≤ b ∧ H'[0]? = some (.live c0) ∧ H'[1]? = some (.live c1) ∧ H'[2]? = some (.live c2)) :
    EffN P g args [.live c0, .live c1, .live c2] (.tup [.agg [.ref 3 0 m 3, .int .i64 cap, .bool armed, .int .i64 left, .bool down], .int .i64 e]) [.live c0, .live c1, .live c2, .live cs] := by
  unfold EffN
  refine acalls_fits h fun r H1 ⟨b, hr, hb, hb3, k0, k1, k2⟩ => ?_
  subst hr
  have n0 : ¬ 0 = b := by omega
  have n1 : ¬ 1 = b := by omega
  have n2 : ¬ 2 = b := by omega
  refine ⟨.tup [.agg [.ref 3 0 m 3, .int .i64 cap, .bool armed, .int .i64 left, .bool down], .int .i64 e], [.live c0, .live c1, .live c2, .live cs], fitsR [0, 1, 2, b] ⟨⟨rfl, rfl⟩, trivial⟩ ?_ (by simp [liveIds, n0, n1, n2]) rfl, by simp, rfl, rfl⟩
  rw [fh_live _ _ _ _ _ _ h0, fh_live _ _ _ _ _ _ h1, fh_live _ _ _ _ _ _ h2, fh_live _ _ _ _ _ _ hn]
  exact ⟨k0, k1, k2, hb, trivial⟩

/-- What a closure does that leaves the files, or makes others of them. -/
structure Does0 (g : FuncId) (l : List GFile) (name : List UInt8) (R : List GFile × Int) : Prop where
  no : R.2 ≠ 0 → EffN Try.prog g [.ref 0 0 l.length 3, .int .i64 (idxT l (cF name)), .bool (thereT l (cF name))] [.live (flatD GFile.d l)] (.tup [.nil, .int .i64 R.2]) [.live (flatD GFile.d l)]
  yes : R.2 = 0 → EffN Try.prog g [.ref 0 0 l.length 3, .int .i64 (idxT l (cF name)), .bool (thereT l (cF name))] [.live (flatD GFile.d l)] (.tup [.ref 1 0 R.1.length 3, .int .i64 0]) [.dead, .live (flatD GFile.d R.1)]

theorem change0_no (d : GDisk) (name : List UInt8) (g : FuncId) (R : List GFile × Int) (hu : upF d.files) (hl : d.files.length ≤ 1000) (hd : Does0 g d.files name R) (hr : (changeM d R).2 ≠ 0) :
    EffN Try.prog 45 [d.d, .str name, .fn (.func g) []] [.live d.d.cells, .live zerosD] (.tup [(changeM d R).1.d, .int .i64 (changeM d R).2]) [.live d.d.cells, .live zerosD] := by
  refine own_keep2 (niC d) rfl (by simp only [ni_tup, ni_consL, ni_nilL, GDisk.noIds, ni_int, Bool.and_self]) (by simp) ?_
  refine callsD (rs := [.cell 6 27, .tmp 7]) tyOk mixed Try.func45 (by decide) rfl rfl (Nat.le_of_ble_eq_true rfl) (by decide) ?_
  cases h1 : d.down
  case true =>
    have e : changeM d R = (d, 10) := by unfold changeM; rw [h1]; rfl
    rw [e]
    simp (disch := (first | omega | (simp only [W0]; done) | (simp only [W0]; omega))) only [GDisk.d, h1, W1, ↓W2, unbyte, implies_true, ← List.map_take, ← List.map_drop, bne_self_eq_false, eqCells, flatTD, Nat.reducePow, ayield, eq_self, exists_eq_left', exists_eq_left, exists_eq', Int.reduceLE, Int.reduceLT, Nat.reduceLeDiff, Int.reduceToNat, Int.reduceAdd, Int.reduceSub, Int.reduceMul, Int.reduceNeg, Int.reduceEq, argEnv, aeval, get, put, ofVal, ofVals, List.map, cond_true, cond_false, Nat.reduceBEq, nexts, allocs, countAllocs, pad, Nat.reduceAdd, Nat.reduceMul, Nat.reduceSub, Nat.reduceLT, isVoid, aNilCheck, aExtract, aNilB, isNilD, notD, aCap, aClear, aAppendZ, aInt, aStr, aConv, aSlice, asNat?, cutTight, aIndexAddr, aFieldAddr, aField, aIndex, aLoad, aStore, aAlloc, aBox, aBuild, aBuildSlice, aMakeSlice, aLen, aMax, aMin, aAppend, aCopy, aBuiltin, TD.isSlice, TD.isAgg, TD.known, TD.isSeq, partD, partOb, cellsAt, Blk.cells, if_true, if_false, splice, fillD, dl, byteD, Int.reduceBEq, Int.reduceBNe, beq_self_eq_true, retQ, retK, resD, resL, andR, elemCells, isByte, chunk, reduceCtorEq, okVal, okCell, List.replicate, ne_eq, Nat.reduceEqDiff, headIds_cons, IntWalk.toNatUp]
  simp (disch := (first | omega | (simp only [W0]; done) | (simp only [W0]; omega))) only [GDisk.d, h1, W1, ↓W2, unbyte, implies_true, ← List.map_take, ← List.map_drop, bne_self_eq_false, eqCells, flatTD, Nat.reducePow, ayield, eq_self, exists_eq_left', exists_eq_left, exists_eq', Int.reduceLE, Int.reduceLT, Nat.reduceLeDiff, Int.reduceToNat, Int.reduceAdd, Int.reduceSub, Int.reduceMul, Int.reduceNeg, Int.reduceEq, argEnv, aeval, get, put, ofVal, ofVals, List.map, cond_true, cond_false, Nat.reduceBEq, nexts, allocs, countAllocs, pad, Nat.reduceAdd, Nat.reduceMul, Nat.reduceSub, Nat.reduceLT, isVoid, aNilCheck, aExtract, aNilB, isNilD, notD, aCap, aClear, aAppendZ, aInt, aStr, aConv, aSlice, asNat?, cutTight, aIndexAddr, aFieldAddr, aField, aIndex, aLoad, aStore, aAlloc, aBox, aBuild, aBuildSlice, aMakeSlice, aLen, aMax, aMin, aAppend, aCopy, aBuiltin, TD.isSlice, TD.isAgg, TD.known, TD.isSeq, partD, partOb, cellsAt, Blk.cells, if_true, if_false, splice, fillD, dl, byteD, Int.reduceBEq, Int.reduceBNe, beq_self_eq_true, retQ, retK, resD, resL, andR, elemCells, isByte, chunk, reduceCtorEq, okVal, okCell, List.replicate, ne_eq, Nat.reduceEqDiff, headIds_cons, IntWalk.toNatUp]
  refine callN [] (.ref 5 0 d.files.length 3) (cloneF_ok d.files (by omega)) (Nat.zero_le _) rfl rfl (by simp only [List.all_cons, List.all_nil, niOut, niBlk, fniF, Bool.and_self]) (by simp) trivial (by simp only [List.all_cons, List.all_nil, bnd_dl _ _ _ nidF, Bool.and_self]) (by simp only [List.map_cons, List.map_nil, ren_dl _ _ _ nidF]) rfl ?_
  simp (disch := (first | omega | (simp only [W0]; done) | (simp only [W0]; omega))) only [setAll, W1, ↓W2, unbyte, implies_true, ← List.map_take, ← List.map_drop, bne_self_eq_false, eqCells, flatTD, Nat.reducePow, ayield, eq_self, exists_eq_left', exists_eq_left, exists_eq', Int.reduceLE, Int.reduceLT, Nat.reduceLeDiff, Int.reduceToNat, Int.reduceAdd, Int.reduceSub, Int.reduceMul, Int.reduceNeg, Int.reduceEq, argEnv, aeval, get, put, ofVal, ofVals, List.map, cond_true, cond_false, Nat.reduceBEq, nexts, allocs, countAllocs, pad, Nat.reduceAdd, Nat.reduceMul, Nat.reduceSub, Nat.reduceLT, isVoid, aNilCheck, aExtract, aNilB, isNilD, notD, aCap, aClear, aAppendZ, aInt, aStr, aConv, aSlice, asNat?, cutTight, aIndexAddr, aFieldAddr, aField, aIndex, aLoad, aStore, aAlloc, aBox, aBuild, aBuildSlice, aMakeSlice, aLen, aMax, aMin, aAppend, aCopy, aBuiltin, TD.isSlice, TD.isAgg, TD.known, TD.isSeq, partD, partOb, cellsAt, Blk.cells, if_true, if_false, splice, fillD, dl, byteD, Int.reduceBEq, Int.reduceBNe, beq_self_eq_true, retQ, retK, resD, resL, andR, elemCells, isByte, chunk, reduceCtorEq, okVal, okCell, List.replicate, ne_eq, Nat.reduceEqDiff, headIds_cons, IntWalk.toNatUp]
  refine callPeek (ffind_ok d.files name hu (by omega)) rfl ⟨Sub.ownF GFile.d 3 d.files lenF niF rfl rfl rfl, Sub.refl rfl, trivial⟩ ?_
  simp (disch := (first | omega | (simp only [W0]; done) | (simp only [W0]; omega))) only [W1, ↓W2, unbyte, implies_true, ← List.map_take, ← List.map_drop, bne_self_eq_false, eqCells, flatTD, Nat.reducePow, ayield, eq_self, exists_eq_left', exists_eq_left, exists_eq', Int.reduceLE, Int.reduceLT, Nat.reduceLeDiff, Int.reduceToNat, Int.reduceAdd, Int.reduceSub, Int.reduceMul, Int.reduceNeg, Int.reduceEq, argEnv, aeval, get, put, ofVal, ofVals, List.map, cond_true, cond_false, Nat.reduceBEq, nexts, allocs, countAllocs, pad, Nat.reduceAdd, Nat.reduceMul, Nat.reduceSub, Nat.reduceLT, isVoid, aNilCheck, aExtract, aNilB, isNilD, notD, aCap, aClear, aAppendZ, aInt, aStr, aConv, aSlice, asNat?, cutTight, aIndexAddr, aFieldAddr, aField, aIndex, aLoad, aStore, aAlloc, aBox, aBuild, aBuildSlice, aMakeSlice, aLen, aMax, aMin, aAppend, aCopy, aBuiltin, TD.isSlice, TD.isAgg, TD.known, TD.isSeq, partD, partOb, cellsAt, Blk.cells, if_true, if_false, splice, fillD, dl, byteD, Int.reduceBEq, Int.reduceBNe, beq_self_eq_true, retQ, retK, resD, resL, andR, elemCells, isByte, chunk, reduceCtorEq, okVal, okCell, List.replicate, ne_eq, Nat.reduceEqDiff, headIds_cons, IntWalk.toNatUp]
  by_cases h2 : R.2 = 0
  · have hy := hd.yes h2
    cases h3 : d.armed
    · exfalso
      apply hr
      unfold changeM
      rw [h1, h2, h3]
      rfl
    cases h4 : (d.left == 0)
    · exfalso
      apply hr
      unfold changeM
      rw [h1, h2, h3, h4]
      rfl
    have e : changeM d R = (⟨d.files, d.cap, d.armed, d.left, true⟩, 10) := by unfold changeM; rw [h1, h2, h3, h4]; rfl
    rw [e]
    refine callN [5] (.tup [.ref 6 0 R.1.length 3, .int .i64 0]) hy (by simp) rfl (by simp only [List.all_cons, List.all_nil, niBlk, fniF]; rfl) (by simp only [List.all_cons, List.all_nil, niOut, niBlk, fniF]; rfl) (by simp) ⟨rfl, trivial⟩ rfl rfl rfl ?_
    simp (disch := (first | omega | (simp only [W0]; done) | (simp only [W0]; omega))) only [setAll, h3, h4, W1, ↓W2, unbyte, implies_true, ← List.map_take, ← List.map_drop, bne_self_eq_false, eqCells, flatTD, Nat.reducePow, ayield, eq_self, exists_eq_left', exists_eq_left, exists_eq', Int.reduceLE, Int.reduceLT, Nat.reduceLeDiff, Int.reduceToNat, Int.reduceAdd, Int.reduceSub, Int.reduceMul, Int.reduceNeg, Int.reduceEq, argEnv, aeval, get, put, ofVal, ofVals, List.map, cond_true, cond_false, Nat.reduceBEq, nexts, allocs, countAllocs, pad, Nat.reduceAdd, Nat.reduceMul, Nat.reduceSub, Nat.reduceLT, isVoid, aNilCheck, aExtract, aNilB, isNilD, notD, aCap, aClear, aAppendZ, aInt, aStr, aConv, aSlice, asNat?, cutTight, aIndexAddr, aFieldAddr, aField, aIndex, aLoad, aStore, aAlloc, aBox, aBuild, aBuildSlice, aMakeSlice, aLen, aMax, aMin, aAppend, aCopy, aBuiltin, TD.isSlice, TD.isAgg, TD.known, TD.isSeq, partD, partOb, cellsAt, Blk.cells, if_true, if_false, splice, fillD, dl, byteD, Int.reduceBEq, Int.reduceBNe, beq_self_eq_true, retQ, retK, resD, resL, andR, elemCells, isByte, chunk, reduceCtorEq, okVal, okCell, List.replicate, ne_eq, Nat.reduceEqDiff, headIds_cons, IntWalk.toNatUp]
  · have hy := hd.no h2
    have hne : (R.2 != 0) = true := by simpa using h2
    have e : changeM d R = (d, R.2) := by
      have h5 : (R.2 == 0) = false := by simpa using h2
      unfold changeM
      rw [h1, h5]
      rfl
    rw [e]
    refine callN [5] (.tup [.nil, .int .i64 R.2]) hy (by simp) rfl (by simp only [List.all_cons, List.all_nil, niBlk, fniF]; rfl) (by simp only [List.all_cons, List.all_nil, niOut, niBlk, fniF]; rfl) (by simp) ⟨rfl, trivial⟩ rfl rfl rfl ?_
    simp (disch := (first | omega | (simp only [W0]; done) | (simp only [W0]; omega))) only [setAll, hne, GDisk.d, h1, W1, ↓W2, unbyte, implies_true, ← List.map_take, ← List.map_drop, bne_self_eq_false, eqCells, flatTD, Nat.reducePow, ayield, eq_self, exists_eq_left', exists_eq_left, exists_eq', Int.reduceLE, Int.reduceLT, Nat.reduceLeDiff, Int.reduceToNat, Int.reduceAdd, Int.reduceSub, Int.reduceMul, Int.reduceNeg, Int.reduceEq, argEnv, aeval, get, put, ofVal, ofVals, List.map, cond_true, cond_false, Nat.reduceBEq, nexts, allocs, countAllocs, pad, Nat.reduceAdd, Nat.reduceMul, Nat.reduceSub, Nat.reduceLT, isVoid, aNilCheck, aExtract, aNilB, isNilD, notD, aCap, aClear, aAppendZ, aInt, aStr, aConv, aSlice, asNat?, cutTight, aIndexAddr, aFieldAddr, aField, aIndex, aLoad, aStore, aAlloc, aBox, aBuild, aBuildSlice, aMakeSlice, aLen, aMax, aMin, aAppend, aCopy, aBuiltin, TD.isSlice, TD.isAgg, TD.known, TD.isSeq, partD, partOb, cellsAt, Blk.cells, if_true, if_false, splice, fillD, dl, byteD, Int.reduceBEq, Int.reduceBNe, beq_self_eq_true, retQ, retK, resD, resL, andR, elemCells, isByte, chunk, reduceCtorEq, okVal, okCell, List.replicate, ne_eq, Nat.reduceEqDiff, headIds_cons, IntWalk.toNatUp]

theorem change0_yes (d : GDisk) (name : List UInt8) (g : FuncId) (R : List GFile × Int) (hu : upF d.files) (hl : d.files.length ≤ 1000) (hk : okInt .i64 d.left ∧ 0 ≤ d.left) (hd : Does0 g d.files name R) (hr : (changeM d R).2 = 0) :
    EffN Try.prog 45 [d.d, .str name, .fn (.func g) []] [.live d.d.cells, .live zerosD] (.tup [.agg [.ref 2 0 (changeM d R).1.files.length 3, .int .i64 (changeM d R).1.cap, .bool (changeM d R).1.armed, .int .i64 (changeM d R).1.left, .bool (changeM d R).1.down], .int .i64 0]) [.live d.d.cells, .live zerosD, .live (flatD GFile.d (changeM d R).1.files)] := by
  refine own_new2 (niC d) rfl (fniF _) ?_
  refine callsD (rs := [.cell 6 27, .tmp 7]) tyOk mixed Try.func45 (by decide) rfl rfl (Nat.le_of_ble_eq_true rfl) (by decide) ?_
  obtain ⟨hk1, hk2⟩ := hk
  simp only [okInt, min_i64, max_i64] at hk1
  cases h1 : d.down
  case true =>
    have e : changeM d R = (d, 10) := by unfold changeM; rw [h1]; rfl
    rw [e] at hr
    exact absurd hr (show ¬ (10 : Int) = 0 by decide)
  have h2 : R.2 = 0 := by
    cases h5 : (R.2 == 0)
    · have e : changeM d R = (d, R.2) := by unfold changeM; rw [h1, h5]; rfl
      rw [e] at hr
      exact hr
    · simpa using h5
  simp (disch := (first | omega | (simp only [W0]; done) | (simp only [W0]; omega))) only [GDisk.d, h1, W1, ↓W2, unbyte, implies_true, ← List.map_take, ← List.map_drop, bne_self_eq_false, eqCells, flatTD, Nat.reducePow, ayield, eq_self, exists_eq_left', exists_eq_left, exists_eq', Int.reduceLE, Int.reduceLT, Nat.reduceLeDiff, Int.reduceToNat, Int.reduceAdd, Int.reduceSub, Int.reduceMul, Int.reduceNeg, Int.reduceEq, argEnv, aeval, get, put, ofVal, ofVals, List.map, cond_true, cond_false, Nat.reduceBEq, nexts, allocs, countAllocs, pad, Nat.reduceAdd, Nat.reduceMul, Nat.reduceSub, Nat.reduceLT, isVoid, aNilCheck, aExtract, aNilB, isNilD, notD, aCap, aClear, aAppendZ, aInt, aStr, aConv, aSlice, asNat?, cutTight, aIndexAddr, aFieldAddr, aField, aIndex, aLoad, aStore, aAlloc, aBox, aBuild, aBuildSlice, aMakeSlice, aLen, aMax, aMin, aAppend, aCopy, aBuiltin, TD.isSlice, TD.isAgg, TD.known, TD.isSeq, partD, partOb, cellsAt, Blk.cells, if_true, if_false, splice, fillD, dl, byteD, Int.reduceBEq, Int.reduceBNe, beq_self_eq_true, retQ, retK, resD, resL, andR, elemCells, isByte, chunk, reduceCtorEq, okVal, okCell, List.replicate, ne_eq, Nat.reduceEqDiff, headIds_cons, IntWalk.toNatUp]
  refine callN [] (.ref 5 0 d.files.length 3) (cloneF_ok d.files (by omega)) (Nat.zero_le _) rfl rfl (by simp only [List.all_cons, List.all_nil, niOut, niBlk, fniF, Bool.and_self]) (by simp) trivial (by simp only [List.all_cons, List.all_nil, bnd_dl _ _ _ nidF, Bool.and_self]) (by simp only [List.map_cons, List.map_nil, ren_dl _ _ _ nidF]) rfl ?_
  simp (disch := (first | omega | (simp only [W0]; done) | (simp only [W0]; omega))) only [setAll, W1, ↓W2, unbyte, implies_true, ← List.map_take, ← List.map_drop, bne_self_eq_false, eqCells, flatTD, Nat.reducePow, ayield, eq_self, exists_eq_left', exists_eq_left, exists_eq', Int.reduceLE, Int.reduceLT, Nat.reduceLeDiff, Int.reduceToNat, Int.reduceAdd, Int.reduceSub, Int.reduceMul, Int.reduceNeg, Int.reduceEq, argEnv, aeval, get, put, ofVal, ofVals, List.map, cond_true, cond_false, Nat.reduceBEq, nexts, allocs, countAllocs, pad, Nat.reduceAdd, Nat.reduceMul, Nat.reduceSub, Nat.reduceLT, isVoid, aNilCheck, aExtract, aNilB, isNilD, notD, aCap, aClear, aAppendZ, aInt, aStr, aConv, aSlice, asNat?, cutTight, aIndexAddr, aFieldAddr, aField, aIndex, aLoad, aStore, aAlloc, aBox, aBuild, aBuildSlice, aMakeSlice, aLen, aMax, aMin, aAppend, aCopy, aBuiltin, TD.isSlice, TD.isAgg, TD.known, TD.isSeq, partD, partOb, cellsAt, Blk.cells, if_true, if_false, splice, fillD, dl, byteD, Int.reduceBEq, Int.reduceBNe, beq_self_eq_true, retQ, retK, resD, resL, andR, elemCells, isByte, chunk, reduceCtorEq, okVal, okCell, List.replicate, ne_eq, Nat.reduceEqDiff, headIds_cons, IntWalk.toNatUp]
  refine callPeek (ffind_ok d.files name hu (by omega)) rfl ⟨Sub.ownF GFile.d 3 d.files lenF niF rfl rfl rfl, Sub.refl rfl, trivial⟩ ?_
  simp (disch := (first | omega | (simp only [W0]; done) | (simp only [W0]; omega))) only [W1, ↓W2, unbyte, implies_true, ← List.map_take, ← List.map_drop, bne_self_eq_false, eqCells, flatTD, Nat.reducePow, ayield, eq_self, exists_eq_left', exists_eq_left, exists_eq', Int.reduceLE, Int.reduceLT, Nat.reduceLeDiff, Int.reduceToNat, Int.reduceAdd, Int.reduceSub, Int.reduceMul, Int.reduceNeg, Int.reduceEq, argEnv, aeval, get, put, ofVal, ofVals, List.map, cond_true, cond_false, Nat.reduceBEq, nexts, allocs, countAllocs, pad, Nat.reduceAdd, Nat.reduceMul, Nat.reduceSub, Nat.reduceLT, isVoid, aNilCheck, aExtract, aNilB, isNilD, notD, aCap, aClear, aAppendZ, aInt, aStr, aConv, aSlice, asNat?, cutTight, aIndexAddr, aFieldAddr, aField, aIndex, aLoad, aStore, aAlloc, aBox, aBuild, aBuildSlice, aMakeSlice, aLen, aMax, aMin, aAppend, aCopy, aBuiltin, TD.isSlice, TD.isAgg, TD.known, TD.isSeq, partD, partOb, cellsAt, Blk.cells, if_true, if_false, splice, fillD, dl, byteD, Int.reduceBEq, Int.reduceBNe, beq_self_eq_true, retQ, retK, resD, resL, andR, elemCells, isByte, chunk, reduceCtorEq, okVal, okCell, List.replicate, ne_eq, Nat.reduceEqDiff, headIds_cons, IntWalk.toNatUp]
  refine callN [5] (.tup [.ref 6 0 R.1.length 3, .int .i64 0]) (hd.yes h2) (by simp) rfl (by simp only [List.all_cons, List.all_nil, niBlk, fniF]; rfl) (by simp only [List.all_cons, List.all_nil, niOut, niBlk, fniF]; rfl) (by simp) ⟨rfl, trivial⟩ rfl rfl rfl ?_
  cases h3 : d.armed
  · have e : changeM d R = (⟨R.1, d.cap, d.armed, d.left, d.down⟩, 0) := by unfold changeM; rw [h1, h2, h3]; rfl
    rw [e]
    simp (disch := (first | omega | (simp only [W0]; done) | (simp only [W0]; omega))) only [setAll, h3, h1, W1, ↓W2, unbyte, implies_true, ← List.map_take, ← List.map_drop, bne_self_eq_false, eqCells, flatTD, Nat.reducePow, ayield, eq_self, exists_eq_left', exists_eq_left, exists_eq', Int.reduceLE, Int.reduceLT, Nat.reduceLeDiff, Int.reduceToNat, Int.reduceAdd, Int.reduceSub, Int.reduceMul, Int.reduceNeg, Int.reduceEq, argEnv, aeval, get, put, ofVal, ofVals, List.map, cond_true, cond_false, Nat.reduceBEq, nexts, allocs, countAllocs, pad, Nat.reduceAdd, Nat.reduceMul, Nat.reduceSub, Nat.reduceLT, isVoid, aNilCheck, aExtract, aNilB, isNilD, notD, aCap, aClear, aAppendZ, aInt, aStr, aConv, aSlice, asNat?, cutTight, aIndexAddr, aFieldAddr, aField, aIndex, aLoad, aStore, aAlloc, aBox, aBuild, aBuildSlice, aMakeSlice, aLen, aMax, aMin, aAppend, aCopy, aBuiltin, TD.isSlice, TD.isAgg, TD.known, TD.isSeq, partD, partOb, cellsAt, Blk.cells, if_true, if_false, splice, fillD, dl, byteD, Int.reduceBEq, Int.reduceBNe, beq_self_eq_true, retQ, retK, resD, resL, andR, elemCells, isByte, chunk, reduceCtorEq, okVal, okCell, List.replicate, ne_eq, Nat.reduceEqDiff, headIds_cons, IntWalk.toNatUp]
    exact ⟨6, rfl, rfl, by decide⟩
  cases h4 : (d.left == 0)
  · have e : changeM d R = (⟨R.1, d.cap, d.armed, d.left - 1, d.down⟩, 0) := by unfold changeM; rw [h1, h2, h3, h4]; rfl
    rw [e]
    simp (disch := (first | omega | (simp only [W0]; done) | (simp only [W0]; omega))) only [setAll, h3, h4, h1, W1, ↓W2, unbyte, implies_true, ← List.map_take, ← List.map_drop, bne_self_eq_false, eqCells, flatTD, Nat.reducePow, ayield, eq_self, exists_eq_left', exists_eq_left, exists_eq', Int.reduceLE, Int.reduceLT, Nat.reduceLeDiff, Int.reduceToNat, Int.reduceAdd, Int.reduceSub, Int.reduceMul, Int.reduceNeg, Int.reduceEq, argEnv, aeval, get, put, ofVal, ofVals, List.map, cond_true, cond_false, Nat.reduceBEq, nexts, allocs, countAllocs, pad, Nat.reduceAdd, Nat.reduceMul, Nat.reduceSub, Nat.reduceLT, isVoid, aNilCheck, aExtract, aNilB, isNilD, notD, aCap, aClear, aAppendZ, aInt, aStr, aConv, aSlice, asNat?, cutTight, aIndexAddr, aFieldAddr, aField, aIndex, aLoad, aStore, aAlloc, aBox, aBuild, aBuildSlice, aMakeSlice, aLen, aMax, aMin, aAppend, aCopy, aBuiltin, TD.isSlice, TD.isAgg, TD.known, TD.isSeq, partD, partOb, cellsAt, Blk.cells, if_true, if_false, splice, fillD, dl, byteD, Int.reduceBEq, Int.reduceBNe, beq_self_eq_true, retQ, retK, resD, resL, andR, elemCells, isByte, chunk, reduceCtorEq, okVal, okCell, List.replicate, ne_eq, Nat.reduceEqDiff, headIds_cons, IntWalk.toNatUp]
    exact ⟨6, rfl, rfl, by decide⟩
  · have e : changeM d R = (⟨d.files, d.cap, d.armed, d.left, true⟩, 10) := by unfold changeM; rw [h1, h2, h3, h4]; rfl
    rw [e] at hr
    exact absurd hr (show ¬ (10 : Int) = 0 by decide)

/-- What a closure does that leaves the files, or makes others of them. -/
structure Does1 (g : FuncId) (l : List GFile) (name : List UInt8) (c1 : List D) (R : List GFile × Int) : Prop where
  no : R.2 ≠ 0 → EffN Try.prog g [.ref 0 0 l.length 3, .int .i64 (idxT l (cF name)), .bool (thereT l (cF name)), .ptr 1 0] [.live (flatD GFile.d l), .live c1] (.tup [.nil, .int .i64 R.2]) [.live (flatD GFile.d l), .live c1]
  yes : R.2 = 0 → EffN Try.prog g [.ref 0 0 l.length 3, .int .i64 (idxT l (cF name)), .bool (thereT l (cF name)), .ptr 1 0] [.live (flatD GFile.d l), .live c1] (.tup [.ref 2 0 R.1.length 3, .int .i64 0]) [.dead, .live c1, .live (flatD GFile.d R.1)]

theorem change1_no (d : GDisk) (name : List UInt8) (g : FuncId) (c1 : List D) (R : List GFile × Int) (hc : D.noIdsL c1 = true) (hu : upF d.files) (hl : d.files.length ≤ 1000) (hd : Does1 g d.files name c1 R) (hr : (changeM d R).2 ≠ 0) :
    EffN Try.prog 45 [d.d, .str name, .fn (.func g) [.ptr 1 0]] [.live d.d.cells, .live c1, .live zerosD] (.tup [(changeM d R).1.d, .int .i64 (changeM d R).2]) [.live d.d.cells, .live c1, .live zerosD] := by
  refine own_keep3 (niC d) hc rfl (by simp only [ni_tup, ni_consL, ni_nilL, GDisk.noIds, ni_int, Bool.and_self]) (by simp) ?_
  refine callsD (rs := [.cell 6 27, .tmp 7]) tyOk mixed Try.func45 (by decide) rfl rfl (Nat.le_of_ble_eq_true rfl) (by decide) ?_
  cases h1 : d.down
  case true =>
    have e : changeM d R = (d, 10) := by unfold changeM; rw [h1]; rfl
    rw [e]
    simp (disch := (first | omega | (simp only [W0]; done) | (simp only [W0]; omega))) only [GDisk.d, h1, W1, ↓W2, unbyte, implies_true, ← List.map_take, ← List.map_drop, bne_self_eq_false, eqCells, flatTD, Nat.reducePow, ayield, eq_self, exists_eq_left', exists_eq_left, exists_eq', Int.reduceLE, Int.reduceLT, Nat.reduceLeDiff, Int.reduceToNat, Int.reduceAdd, Int.reduceSub, Int.reduceMul, Int.reduceNeg, Int.reduceEq, argEnv, aeval, get, put, ofVal, ofVals, List.map, cond_true, cond_false, Nat.reduceBEq, nexts, allocs, countAllocs, pad, Nat.reduceAdd, Nat.reduceMul, Nat.reduceSub, Nat.reduceLT, isVoid, aNilCheck, aExtract, aNilB, isNilD, notD, aCap, aClear, aAppendZ, aInt, aStr, aConv, aSlice, asNat?, cutTight, aIndexAddr, aFieldAddr, aField, aIndex, aLoad, aStore, aAlloc, aBox, aBuild, aBuildSlice, aMakeSlice, aLen, aMax, aMin, aAppend, aCopy, aBuiltin, TD.isSlice, TD.isAgg, TD.known, TD.isSeq, partD, partOb, cellsAt, Blk.cells, if_true, if_false, splice, fillD, dl, byteD, Int.reduceBEq, Int.reduceBNe, beq_self_eq_true, retQ, retK, resD, resL, andR, elemCells, isByte, chunk, reduceCtorEq, okVal, okCell, List.replicate, ne_eq, Nat.reduceEqDiff, headIds_cons, IntWalk.toNatUp]
  simp (disch := (first | omega | (simp only [W0]; done) | (simp only [W0]; omega))) only [GDisk.d, h1, W1, ↓W2, unbyte, implies_true, ← List.map_take, ← List.map_drop, bne_self_eq_false, eqCells, flatTD, Nat.reducePow, ayield, eq_self, exists_eq_left', exists_eq_left, exists_eq', Int.reduceLE, Int.reduceLT, Nat.reduceLeDiff, Int.reduceToNat, Int.reduceAdd, Int.reduceSub, Int.reduceMul, Int.reduceNeg, Int.reduceEq, argEnv, aeval, get, put, ofVal, ofVals, List.map, cond_true, cond_false, Nat.reduceBEq, nexts, allocs, countAllocs, pad, Nat.reduceAdd, Nat.reduceMul, Nat.reduceSub, Nat.reduceLT, isVoid, aNilCheck, aExtract, aNilB, isNilD, notD, aCap, aClear, aAppendZ, aInt, aStr, aConv, aSlice, asNat?, cutTight, aIndexAddr, aFieldAddr, aField, aIndex, aLoad, aStore, aAlloc, aBox, aBuild, aBuildSlice, aMakeSlice, aLen, aMax, aMin, aAppend, aCopy, aBuiltin, TD.isSlice, TD.isAgg, TD.known, TD.isSeq, partD, partOb, cellsAt, Blk.cells, if_true, if_false, splice, fillD, dl, byteD, Int.reduceBEq, Int.reduceBNe, beq_self_eq_true, retQ, retK, resD, resL, andR, elemCells, isByte, chunk, reduceCtorEq, okVal, okCell, List.replicate, ne_eq, Nat.reduceEqDiff, headIds_cons, IntWalk.toNatUp]
  refine callN [] (.ref 6 0 d.files.length 3) (cloneF_ok d.files (by omega)) (Nat.zero_le _) rfl rfl (by simp only [List.all_cons, List.all_nil, niOut, niBlk, fniF, Bool.and_self]) (by simp) trivial (by simp only [List.all_cons, List.all_nil, bnd_dl _ _ _ nidF, Bool.and_self]) (by simp only [List.map_cons, List.map_nil, ren_dl _ _ _ nidF]) rfl ?_
  simp (disch := (first | omega | (simp only [W0]; done) | (simp only [W0]; omega))) only [setAll, W1, ↓W2, unbyte, implies_true, ← List.map_take, ← List.map_drop, bne_self_eq_false, eqCells, flatTD, Nat.reducePow, ayield, eq_self, exists_eq_left', exists_eq_left, exists_eq', Int.reduceLE, Int.reduceLT, Nat.reduceLeDiff, Int.reduceToNat, Int.reduceAdd, Int.reduceSub, Int.reduceMul, Int.reduceNeg, Int.reduceEq, argEnv, aeval, get, put, ofVal, ofVals, List.map, cond_true, cond_false, Nat.reduceBEq, nexts, allocs, countAllocs, pad, Nat.reduceAdd, Nat.reduceMul, Nat.reduceSub, Nat.reduceLT, isVoid, aNilCheck, aExtract, aNilB, isNilD, notD, aCap, aClear, aAppendZ, aInt, aStr, aConv, aSlice, asNat?, cutTight, aIndexAddr, aFieldAddr, aField, aIndex, aLoad, aStore, aAlloc, aBox, aBuild, aBuildSlice, aMakeSlice, aLen, aMax, aMin, aAppend, aCopy, aBuiltin, TD.isSlice, TD.isAgg, TD.known, TD.isSeq, partD, partOb, cellsAt, Blk.cells, if_true, if_false, splice, fillD, dl, byteD, Int.reduceBEq, Int.reduceBNe, beq_self_eq_true, retQ, retK, resD, resL, andR, elemCells, isByte, chunk, reduceCtorEq, okVal, okCell, List.replicate, ne_eq, Nat.reduceEqDiff, headIds_cons, IntWalk.toNatUp]
  refine callPeek (ffind_ok d.files name hu (by omega)) rfl ⟨Sub.ownF GFile.d 3 d.files lenF niF rfl rfl rfl, Sub.refl rfl, trivial⟩ ?_
  simp (disch := (first | omega | (simp only [W0]; done) | (simp only [W0]; omega))) only [W1, ↓W2, unbyte, implies_true, ← List.map_take, ← List.map_drop, bne_self_eq_false, eqCells, flatTD, Nat.reducePow, ayield, eq_self, exists_eq_left', exists_eq_left, exists_eq', Int.reduceLE, Int.reduceLT, Nat.reduceLeDiff, Int.reduceToNat, Int.reduceAdd, Int.reduceSub, Int.reduceMul, Int.reduceNeg, Int.reduceEq, argEnv, aeval, get, put, ofVal, ofVals, List.map, cond_true, cond_false, Nat.reduceBEq, nexts, allocs, countAllocs, pad, Nat.reduceAdd, Nat.reduceMul, Nat.reduceSub, Nat.reduceLT, isVoid, aNilCheck, aExtract, aNilB, isNilD, notD, aCap, aClear, aAppendZ, aInt, aStr, aConv, aSlice, asNat?, cutTight, aIndexAddr, aFieldAddr, aField, aIndex, aLoad, aStore, aAlloc, aBox, aBuild, aBuildSlice, aMakeSlice, aLen, aMax, aMin, aAppend, aCopy, aBuiltin, TD.isSlice, TD.isAgg, TD.known, TD.isSeq, partD, partOb, cellsAt, Blk.cells, if_true, if_false, splice, fillD, dl, byteD, Int.reduceBEq, Int.reduceBNe, beq_self_eq_true, retQ, retK, resD, resL, andR, elemCells, isByte, chunk, reduceCtorEq, okVal, okCell, List.replicate, ne_eq, Nat.reduceEqDiff, headIds_cons, IntWalk.toNatUp]
  by_cases h2 : R.2 = 0
  · have hy := hd.yes h2
    cases h3 : d.armed
    · exfalso
      apply hr
      unfold changeM
      rw [h1, h2, h3]
      rfl
    cases h4 : (d.left == 0)
    · exfalso
      apply hr
      unfold changeM
      rw [h1, h2, h3, h4]
      rfl
    have e : changeM d R = (⟨d.files, d.cap, d.armed, d.left, true⟩, 10) := by unfold changeM; rw [h1, h2, h3, h4]; rfl
    rw [e]
    refine callN [6, 1] (.tup [.ref 7 0 R.1.length 3, .int .i64 0]) hy (by simp) rfl (by simp only [List.all_cons, List.all_nil, niBlk, fniF, hc]; rfl) (by simp only [List.all_cons, List.all_nil, niOut, niBlk, fniF, hc]; rfl) (by simp) ⟨rfl, rfl, trivial⟩ rfl rfl rfl ?_
    simp (disch := (first | omega | (simp only [W0]; done) | (simp only [W0]; omega))) only [setAll, h3, h4, W1, ↓W2, unbyte, implies_true, ← List.map_take, ← List.map_drop, bne_self_eq_false, eqCells, flatTD, Nat.reducePow, ayield, eq_self, exists_eq_left', exists_eq_left, exists_eq', Int.reduceLE, Int.reduceLT, Nat.reduceLeDiff, Int.reduceToNat, Int.reduceAdd, Int.reduceSub, Int.reduceMul, Int.reduceNeg, Int.reduceEq, argEnv, aeval, get, put, ofVal, ofVals, List.map, cond_true, cond_false, Nat.reduceBEq, nexts, allocs, countAllocs, pad, Nat.reduceAdd, Nat.reduceMul, Nat.reduceSub, Nat.reduceLT, isVoid, aNilCheck, aExtract, aNilB, isNilD, notD, aCap, aClear, aAppendZ, aInt, aStr, aConv, aSlice, asNat?, cutTight, aIndexAddr, aFieldAddr, aField, aIndex, aLoad, aStore, aAlloc, aBox, aBuild, aBuildSlice, aMakeSlice, aLen, aMax, aMin, aAppend, aCopy, aBuiltin, TD.isSlice, TD.isAgg, TD.known, TD.isSeq, partD, partOb, cellsAt, Blk.cells, if_true, if_false, splice, fillD, dl, byteD, Int.reduceBEq, Int.reduceBNe, beq_self_eq_true, retQ, retK, resD, resL, andR, elemCells, isByte, chunk, reduceCtorEq, okVal, okCell, List.replicate, ne_eq, Nat.reduceEqDiff, headIds_cons, IntWalk.toNatUp]
  · have hy := hd.no h2
    have hne : (R.2 != 0) = true := by simpa using h2
    have e : changeM d R = (d, R.2) := by
      have h5 : (R.2 == 0) = false := by simpa using h2
      unfold changeM
      rw [h1, h5]
      rfl
    rw [e]
    refine callN [6, 1] (.tup [.nil, .int .i64 R.2]) hy (by simp) rfl (by simp only [List.all_cons, List.all_nil, niBlk, fniF, hc]; rfl) (by simp only [List.all_cons, List.all_nil, niOut, niBlk, fniF, hc]; rfl) (by simp) ⟨rfl, rfl, trivial⟩ rfl rfl rfl ?_
    simp (disch := (first | omega | (simp only [W0]; done) | (simp only [W0]; omega))) only [setAll, hne, GDisk.d, h1, W1, ↓W2, unbyte, implies_true, ← List.map_take, ← List.map_drop, bne_self_eq_false, eqCells, flatTD, Nat.reducePow, ayield, eq_self, exists_eq_left', exists_eq_left, exists_eq', Int.reduceLE, Int.reduceLT, Nat.reduceLeDiff, Int.reduceToNat, Int.reduceAdd, Int.reduceSub, Int.reduceMul, Int.reduceNeg, Int.reduceEq, argEnv, aeval, get, put, ofVal, ofVals, List.map, cond_true, cond_false, Nat.reduceBEq, nexts, allocs, countAllocs, pad, Nat.reduceAdd, Nat.reduceMul, Nat.reduceSub, Nat.reduceLT, isVoid, aNilCheck, aExtract, aNilB, isNilD, notD, aCap, aClear, aAppendZ, aInt, aStr, aConv, aSlice, asNat?, cutTight, aIndexAddr, aFieldAddr, aField, aIndex, aLoad, aStore, aAlloc, aBox, aBuild, aBuildSlice, aMakeSlice, aLen, aMax, aMin, aAppend, aCopy, aBuiltin, TD.isSlice, TD.isAgg, TD.known, TD.isSeq, partD, partOb, cellsAt, Blk.cells, if_true, if_false, splice, fillD, dl, byteD, Int.reduceBEq, Int.reduceBNe, beq_self_eq_true, retQ, retK, resD, resL, andR, elemCells, isByte, chunk, reduceCtorEq, okVal, okCell, List.replicate, ne_eq, Nat.reduceEqDiff, headIds_cons, IntWalk.toNatUp]

theorem change1_yes (d : GDisk) (name : List UInt8) (g : FuncId) (c1 : List D) (R : List GFile × Int) (hc : D.noIdsL c1 = true) (hu : upF d.files) (hl : d.files.length ≤ 1000) (hk : okInt .i64 d.left ∧ 0 ≤ d.left) (hd : Does1 g d.files name c1 R) (hr : (changeM d R).2 = 0) :
    EffN Try.prog 45 [d.d, .str name, .fn (.func g) [.ptr 1 0]] [.live d.d.cells, .live c1, .live zerosD] (.tup [.agg [.ref 3 0 (changeM d R).1.files.length 3, .int .i64 (changeM d R).1.cap, .bool (changeM d R).1.armed, .int .i64 (changeM d R).1.left, .bool (changeM d R).1.down], .int .i64 0]) [.live d.d.cells, .live c1, .live zerosD, .live (flatD GFile.d (changeM d R).1.files)] := by
  refine own_new3 (niC d) hc rfl (fniF _) ?_
  refine callsD (rs := [.cell 6 27, .tmp 7]) tyOk mixed Try.func45 (by decide) rfl rfl (Nat.le_of_ble_eq_true rfl) (by decide) ?_
  obtain ⟨hk1, hk2⟩ := hk
  simp only [okInt, min_i64, max_i64] at hk1
  cases h1 : d.down
  case true =>
    have e : changeM d R = (d, 10) := by unfold changeM; rw [h1]; rfl
    rw [e] at hr
    exact absurd hr (show ¬ (10 : Int) = 0 by decide)
  have h2 : R.2 = 0 := by
    cases h5 : (R.2 == 0)
    · have e : changeM d R = (d, R.2) := by unfold changeM; rw [h1, h5]; rfl
      rw [e] at hr
      exact hr
    · simpa using h5
  simp (disch := (first | omega | (simp only [W0]; done) | (simp only [W0]; omega))) only [GDisk.d, h1, W1, ↓W2, unbyte, implies_true, ← List.map_take, ← List.map_drop, bne_self_eq_false, eqCells, flatTD, Nat.reducePow, ayield, eq_self, exists_eq_left', exists_eq_left, exists_eq', Int.reduceLE, Int.reduceLT, Nat.reduceLeDiff, Int.reduceToNat, Int.reduceAdd, Int.reduceSub, Int.reduceMul, Int.reduceNeg, Int.reduceEq, argEnv, aeval, get, put, ofVal, ofVals, List.map, cond_true, cond_false, Nat.reduceBEq, nexts, allocs, countAllocs, pad, Nat.reduceAdd, Nat.reduceMul, Nat.reduceSub, Nat.reduceLT, isVoid, aNilCheck, aExtract, aNilB, isNilD, notD, aCap, aClear, aAppendZ, aInt, aStr, aConv, aSlice, asNat?, cutTight, aIndexAddr, aFieldAddr, aField, aIndex, aLoad, aStore, aAlloc, aBox, aBuild, aBuildSlice, aMakeSlice, aLen, aMax, aMin, aAppend, aCopy, aBuiltin, TD.isSlice, TD.isAgg, TD.known, TD.isSeq, partD, partOb, cellsAt, Blk.cells, if_true, if_false, splice, fillD, dl, byteD, Int.reduceBEq, Int.reduceBNe, beq_self_eq_true, retQ, retK, resD, resL, andR, elemCells, isByte, chunk, reduceCtorEq, okVal, okCell, List.replicate, ne_eq, Nat.reduceEqDiff, headIds_cons, IntWalk.toNatUp]
  refine callN [] (.ref 6 0 d.files.length 3) (cloneF_ok d.files (by omega)) (Nat.zero_le _) rfl rfl (by simp only [List.all_cons, List.all_nil, niOut, niBlk, fniF, Bool.and_self]) (by simp) trivial (by simp only [List.all_cons, List.all_nil, bnd_dl _ _ _ nidF, Bool.and_self]) (by simp only [List.map_cons, List.map_nil, ren_dl _ _ _ nidF]) rfl ?_
  simp (disch := (first | omega | (simp only [W0]; done) | (simp only [W0]; omega))) only [setAll, W1, ↓W2, unbyte, implies_true, ← List.map_take, ← List.map_drop, bne_self_eq_false, eqCells, flatTD, Nat.reducePow, ayield, eq_self, exists_eq_left', exists_eq_left, exists_eq', Int.reduceLE, Int.reduceLT, Nat.reduceLeDiff, Int.reduceToNat, Int.reduceAdd, Int.reduceSub, Int.reduceMul, Int.reduceNeg, Int.reduceEq, argEnv, aeval, get, put, ofVal, ofVals, List.map, cond_true, cond_false, Nat.reduceBEq, nexts, allocs, countAllocs, pad, Nat.reduceAdd, Nat.reduceMul, Nat.reduceSub, Nat.reduceLT, isVoid, aNilCheck, aExtract, aNilB, isNilD, notD, aCap, aClear, aAppendZ, aInt, aStr, aConv, aSlice, asNat?, cutTight, aIndexAddr, aFieldAddr, aField, aIndex, aLoad, aStore, aAlloc, aBox, aBuild, aBuildSlice, aMakeSlice, aLen, aMax, aMin, aAppend, aCopy, aBuiltin, TD.isSlice, TD.isAgg, TD.known, TD.isSeq, partD, partOb, cellsAt, Blk.cells, if_true, if_false, splice, fillD, dl, byteD, Int.reduceBEq, Int.reduceBNe, beq_self_eq_true, retQ, retK, resD, resL, andR, elemCells, isByte, chunk, reduceCtorEq, okVal, okCell, List.replicate, ne_eq, Nat.reduceEqDiff, headIds_cons, IntWalk.toNatUp]
  refine callPeek (ffind_ok d.files name hu (by omega)) rfl ⟨Sub.ownF GFile.d 3 d.files lenF niF rfl rfl rfl, Sub.refl rfl, trivial⟩ ?_
  simp (disch := (first | omega | (simp only [W0]; done) | (simp only [W0]; omega))) only [W1, ↓W2, unbyte, implies_true, ← List.map_take, ← List.map_drop, bne_self_eq_false, eqCells, flatTD, Nat.reducePow, ayield, eq_self, exists_eq_left', exists_eq_left, exists_eq', Int.reduceLE, Int.reduceLT, Nat.reduceLeDiff, Int.reduceToNat, Int.reduceAdd, Int.reduceSub, Int.reduceMul, Int.reduceNeg, Int.reduceEq, argEnv, aeval, get, put, ofVal, ofVals, List.map, cond_true, cond_false, Nat.reduceBEq, nexts, allocs, countAllocs, pad, Nat.reduceAdd, Nat.reduceMul, Nat.reduceSub, Nat.reduceLT, isVoid, aNilCheck, aExtract, aNilB, isNilD, notD, aCap, aClear, aAppendZ, aInt, aStr, aConv, aSlice, asNat?, cutTight, aIndexAddr, aFieldAddr, aField, aIndex, aLoad, aStore, aAlloc, aBox, aBuild, aBuildSlice, aMakeSlice, aLen, aMax, aMin, aAppend, aCopy, aBuiltin, TD.isSlice, TD.isAgg, TD.known, TD.isSeq, partD, partOb, cellsAt, Blk.cells, if_true, if_false, splice, fillD, dl, byteD, Int.reduceBEq, Int.reduceBNe, beq_self_eq_true, retQ, retK, resD, resL, andR, elemCells, isByte, chunk, reduceCtorEq, okVal, okCell, List.replicate, ne_eq, Nat.reduceEqDiff, headIds_cons, IntWalk.toNatUp]
  refine callN [6, 1] (.tup [.ref 7 0 R.1.length 3, .int .i64 0]) (hd.yes h2) (by simp) rfl (by simp only [List.all_cons, List.all_nil, niBlk, fniF, hc]; rfl) (by simp only [List.all_cons, List.all_nil, niOut, niBlk, fniF, hc]; rfl) (by simp) ⟨rfl, rfl, trivial⟩ rfl rfl rfl ?_
  cases h3 : d.armed
  · have e : changeM d R = (⟨R.1, d.cap, d.armed, d.left, d.down⟩, 0) := by unfold changeM; rw [h1, h2, h3]; rfl
    rw [e]
    simp (disch := (first | omega | (simp only [W0]; done) | (simp only [W0]; omega))) only [setAll, h3, h1, W1, ↓W2, unbyte, implies_true, ← List.map_take, ← List.map_drop, bne_self_eq_false, eqCells, flatTD, Nat.reducePow, ayield, eq_self, exists_eq_left', exists_eq_left, exists_eq', Int.reduceLE, Int.reduceLT, Nat.reduceLeDiff, Int.reduceToNat, Int.reduceAdd, Int.reduceSub, Int.reduceMul, Int.reduceNeg, Int.reduceEq, argEnv, aeval, get, put, ofVal, ofVals, List.map, cond_true, cond_false, Nat.reduceBEq, nexts, allocs, countAllocs, pad, Nat.reduceAdd, Nat.reduceMul, Nat.reduceSub, Nat.reduceLT, isVoid, aNilCheck, aExtract, aNilB, isNilD, notD, aCap, aClear, aAppendZ, aInt, aStr, aConv, aSlice, asNat?, cutTight, aIndexAddr, aFieldAddr, aField, aIndex, aLoad, aStore, aAlloc, aBox, aBuild, aBuildSlice, aMakeSlice, aLen, aMax, aMin, aAppend, aCopy, aBuiltin, TD.isSlice, TD.isAgg, TD.known, TD.isSeq, partD, partOb, cellsAt, Blk.cells, if_true, if_false, splice, fillD, dl, byteD, Int.reduceBEq, Int.reduceBNe, beq_self_eq_true, retQ, retK, resD, resL, andR, elemCells, isByte, chunk, reduceCtorEq, okVal, okCell, List.replicate, ne_eq, Nat.reduceEqDiff, headIds_cons, IntWalk.toNatUp]
    exact ⟨7, rfl, rfl, by decide⟩
  cases h4 : (d.left == 0)
  · have e : changeM d R = (⟨R.1, d.cap, d.armed, d.left - 1, d.down⟩, 0) := by unfold changeM; rw [h1, h2, h3, h4]; rfl
    rw [e]
    simp (disch := (first | omega | (simp only [W0]; done) | (simp only [W0]; omega))) only [setAll, h3, h4, h1, W1, ↓W2, unbyte, implies_true, ← List.map_take, ← List.map_drop, bne_self_eq_false, eqCells, flatTD, Nat.reducePow, ayield, eq_self, exists_eq_left', exists_eq_left, exists_eq', Int.reduceLE, Int.reduceLT, Nat.reduceLeDiff, Int.reduceToNat, Int.reduceAdd, Int.reduceSub, Int.reduceMul, Int.reduceNeg, Int.reduceEq, argEnv, aeval, get, put, ofVal, ofVals, List.map, cond_true, cond_false, Nat.reduceBEq, nexts, allocs, countAllocs, pad, Nat.reduceAdd, Nat.reduceMul, Nat.reduceSub, Nat.reduceLT, isVoid, aNilCheck, aExtract, aNilB, isNilD, notD, aCap, aClear, aAppendZ, aInt, aStr, aConv, aSlice, asNat?, cutTight, aIndexAddr, aFieldAddr, aField, aIndex, aLoad, aStore, aAlloc, aBox, aBuild, aBuildSlice, aMakeSlice, aLen, aMax, aMin, aAppend, aCopy, aBuiltin, TD.isSlice, TD.isAgg, TD.known, TD.isSeq, partD, partOb, cellsAt, Blk.cells, if_true, if_false, splice, fillD, dl, byteD, Int.reduceBEq, Int.reduceBNe, beq_self_eq_true, retQ, retK, resD, resL, andR, elemCells, isByte, chunk, reduceCtorEq, okVal, okCell, List.replicate, ne_eq, Nat.reduceEqDiff, headIds_cons, IntWalk.toNatUp]
    exact ⟨7, rfl, rfl, by decide⟩
  · have e : changeM d R = (⟨d.files, d.cap, d.armed, d.left, true⟩, 10) := by unfold changeM; rw [h1, h2, h3, h4]; rfl
    rw [e] at hr
    exact absurd hr (show ¬ (10 : Int) = 0 by decide)

/-- What a closure does that leaves the files, or makes others of them. -/
structure Does2 (g : FuncId) (d : GDisk) (l : List GFile) (name : List UInt8) (c1 : List D) (R : List GFile × Int) : Prop where
  no : R.2 ≠ 0 → EffN Try.prog g [.ref 0 0 l.length 3, .int .i64 (idxT l (cF name)), .bool (thereT l (cF name)), .ptr 1 0, .ptr 2 0] [.live (flatD GFile.d l), .live d.d.cells, .live c1] (.tup [.nil, .int .i64 R.2]) [.live (flatD GFile.d l), .live d.d.cells, .live c1]
  yes : R.2 = 0 → EffN Try.prog g [.ref 0 0 l.length 3, .int .i64 (idxT l (cF name)), .bool (thereT l (cF name)), .ptr 1 0, .ptr 2 0] [.live (flatD GFile.d l), .live d.d.cells, .live c1] (.tup [.ref 3 0 R.1.length 3, .int .i64 0]) [.dead, .live d.d.cells, .live c1, .live (flatD GFile.d R.1)]

theorem change2_no (d : GDisk) (name : List UInt8) (g : FuncId) (c1 : List D) (R : List GFile × Int) (hc : D.noIdsL c1 = true) (hu : upF d.files) (hl : d.files.length ≤ 1000) (hd : Does2 g d d.files name c1 R) (hr : (changeM d R).2 ≠ 0) :
    EffN Try.prog 45 [d.d, .str name, .fn (.func g) [.ptr 0 0, .ptr 1 0]] [.live d.d.cells, .live c1, .live zerosD] (.tup [(changeM d R).1.d, .int .i64 (changeM d R).2]) [.live d.d.cells, .live c1, .live zerosD] := by
  refine own_keep3 (niC d) hc rfl (by simp only [ni_tup, ni_consL, ni_nilL, GDisk.noIds, ni_int, Bool.and_self]) (by simp) ?_
  refine callsD (rs := [.cell 6 27, .tmp 7]) tyOk mixed Try.func45 (by decide) rfl rfl (Nat.le_of_ble_eq_true rfl) (by decide) ?_
  cases h1 : d.down
  case true =>
    have e : changeM d R = (d, 10) := by unfold changeM; rw [h1]; rfl
    rw [e]
    simp (disch := (first | omega | (simp only [W0]; done) | (simp only [W0]; omega))) only [GDisk.d, h1, W1, ↓W2, unbyte, implies_true, ← List.map_take, ← List.map_drop, bne_self_eq_false, eqCells, flatTD, Nat.reducePow, ayield, eq_self, exists_eq_left', exists_eq_left, exists_eq', Int.reduceLE, Int.reduceLT, Nat.reduceLeDiff, Int.reduceToNat, Int.reduceAdd, Int.reduceSub, Int.reduceMul, Int.reduceNeg, Int.reduceEq, argEnv, aeval, get, put, ofVal, ofVals, List.map, cond_true, cond_false, Nat.reduceBEq, nexts, allocs, countAllocs, pad, Nat.reduceAdd, Nat.reduceMul, Nat.reduceSub, Nat.reduceLT, isVoid, aNilCheck, aExtract, aNilB, isNilD, notD, aCap, aClear, aAppendZ, aInt, aStr, aConv, aSlice, asNat?, cutTight, aIndexAddr, aFieldAddr, aField, aIndex, aLoad, aStore, aAlloc, aBox, aBuild, aBuildSlice, aMakeSlice, aLen, aMax, aMin, aAppend, aCopy, aBuiltin, TD.isSlice, TD.isAgg, TD.known, TD.isSeq, partD, partOb, cellsAt, Blk.cells, if_true, if_false, splice, fillD, dl, byteD, Int.reduceBEq, Int.reduceBNe, beq_self_eq_true, retQ, retK, resD, resL, andR, elemCells, isByte, chunk, reduceCtorEq, okVal, okCell, List.replicate, ne_eq, Nat.reduceEqDiff, headIds_cons, IntWalk.toNatUp]
  simp (disch := (first | omega | (simp only [W0]; done) | (simp only [W0]; omega))) only [GDisk.d, h1, W1, ↓W2, unbyte, implies_true, ← List.map_take, ← List.map_drop, bne_self_eq_false, eqCells, flatTD, Nat.reducePow, ayield, eq_self, exists_eq_left', exists_eq_left, exists_eq', Int.reduceLE, Int.reduceLT, Nat.reduceLeDiff, Int.reduceToNat, Int.reduceAdd, Int.reduceSub, Int.reduceMul, Int.reduceNeg, Int.reduceEq, argEnv, aeval, get, put, ofVal, ofVals, List.map, cond_true, cond_false, Nat.reduceBEq, nexts, allocs, countAllocs, pad, Nat.reduceAdd, Nat.reduceMul, Nat.reduceSub, Nat.reduceLT, isVoid, aNilCheck, aExtract, aNilB, isNilD, notD, aCap, aClear, aAppendZ, aInt, aStr, aConv, aSlice, asNat?, cutTight, aIndexAddr, aFieldAddr, aField, aIndex, aLoad, aStore, aAlloc, aBox, aBuild, aBuildSlice, aMakeSlice, aLen, aMax, aMin, aAppend, aCopy, aBuiltin, TD.isSlice, TD.isAgg, TD.known, TD.isSeq, partD, partOb, cellsAt, Blk.cells, if_true, if_false, splice, fillD, dl, byteD, Int.reduceBEq, Int.reduceBNe, beq_self_eq_true, retQ, retK, resD, resL, andR, elemCells, isByte, chunk, reduceCtorEq, okVal, okCell, List.replicate, ne_eq, Nat.reduceEqDiff, headIds_cons, IntWalk.toNatUp]
  refine callN [] (.ref 6 0 d.files.length 3) (cloneF_ok d.files (by omega)) (Nat.zero_le _) rfl rfl (by simp only [List.all_cons, List.all_nil, niOut, niBlk, fniF, Bool.and_self]) (by simp) trivial (by simp only [List.all_cons, List.all_nil, bnd_dl _ _ _ nidF, Bool.and_self]) (by simp only [List.map_cons, List.map_nil, ren_dl _ _ _ nidF]) rfl ?_
  simp (disch := (first | omega | (simp only [W0]; done) | (simp only [W0]; omega))) only [setAll, W1, ↓W2, unbyte, implies_true, ← List.map_take, ← List.map_drop, bne_self_eq_false, eqCells, flatTD, Nat.reducePow, ayield, eq_self, exists_eq_left', exists_eq_left, exists_eq', Int.reduceLE, Int.reduceLT, Nat.reduceLeDiff, Int.reduceToNat, Int.reduceAdd, Int.reduceSub, Int.reduceMul, Int.reduceNeg, Int.reduceEq, argEnv, aeval, get, put, ofVal, ofVals, List.map, cond_true, cond_false, Nat.reduceBEq, nexts, allocs, countAllocs, pad, Nat.reduceAdd, Nat.reduceMul, Nat.reduceSub, Nat.reduceLT, isVoid, aNilCheck, aExtract, aNilB, isNilD, notD, aCap, aClear, aAppendZ, aInt, aStr, aConv, aSlice, asNat?, cutTight, aIndexAddr, aFieldAddr, aField, aIndex, aLoad, aStore, aAlloc, aBox, aBuild, aBuildSlice, aMakeSlice, aLen, aMax, aMin, aAppend, aCopy, aBuiltin, TD.isSlice, TD.isAgg, TD.known, TD.isSeq, partD, partOb, cellsAt, Blk.cells, if_true, if_false, splice, fillD, dl, byteD, Int.reduceBEq, Int.reduceBNe, beq_self_eq_true, retQ, retK, resD, resL, andR, elemCells, isByte, chunk, reduceCtorEq, okVal, okCell, List.replicate, ne_eq, Nat.reduceEqDiff, headIds_cons, IntWalk.toNatUp]
  refine callPeek (ffind_ok d.files name hu (by omega)) rfl ⟨Sub.ownF GFile.d 3 d.files lenF niF rfl rfl rfl, Sub.refl rfl, trivial⟩ ?_
  simp (disch := (first | omega | (simp only [W0]; done) | (simp only [W0]; omega))) only [W1, ↓W2, unbyte, implies_true, ← List.map_take, ← List.map_drop, bne_self_eq_false, eqCells, flatTD, Nat.reducePow, ayield, eq_self, exists_eq_left', exists_eq_left, exists_eq', Int.reduceLE, Int.reduceLT, Nat.reduceLeDiff, Int.reduceToNat, Int.reduceAdd, Int.reduceSub, Int.reduceMul, Int.reduceNeg, Int.reduceEq, argEnv, aeval, get, put, ofVal, ofVals, List.map, cond_true, cond_false, Nat.reduceBEq, nexts, allocs, countAllocs, pad, Nat.reduceAdd, Nat.reduceMul, Nat.reduceSub, Nat.reduceLT, isVoid, aNilCheck, aExtract, aNilB, isNilD, notD, aCap, aClear, aAppendZ, aInt, aStr, aConv, aSlice, asNat?, cutTight, aIndexAddr, aFieldAddr, aField, aIndex, aLoad, aStore, aAlloc, aBox, aBuild, aBuildSlice, aMakeSlice, aLen, aMax, aMin, aAppend, aCopy, aBuiltin, TD.isSlice, TD.isAgg, TD.known, TD.isSeq, partD, partOb, cellsAt, Blk.cells, if_true, if_false, splice, fillD, dl, byteD, Int.reduceBEq, Int.reduceBNe, beq_self_eq_true, retQ, retK, resD, resL, andR, elemCells, isByte, chunk, reduceCtorEq, okVal, okCell, List.replicate, ne_eq, Nat.reduceEqDiff, headIds_cons, IntWalk.toNatUp]
  by_cases h2 : R.2 = 0
  · have hy := hd.yes h2
    cases h3 : d.armed
    · exfalso
      apply hr
      unfold changeM
      rw [h1, h2, h3]
      rfl
    cases h4 : (d.left == 0)
    · exfalso
      apply hr
      unfold changeM
      rw [h1, h2, h3, h4]
      rfl
    have e : changeM d R = (⟨d.files, d.cap, d.armed, d.left, true⟩, 10) := by unfold changeM; rw [h1, h2, h3, h4]; rfl
    rw [e]
    refine callN [6, 0, 1] (.tup [.ref 7 0 R.1.length 3, .int .i64 0]) hy (by simp) rfl (by simp only [List.all_cons, List.all_nil, niBlk, fniF, hc, niC]; rfl) (by simp only [List.all_cons, List.all_nil, niOut, niBlk, fniF, hc, niC]; rfl) (by simp) ⟨rfl, by simp [GDisk.d, dl, cells_agg, h1, h3], rfl, trivial⟩ rfl rfl rfl ?_
    simp (disch := (first | omega | (simp only [W0]; done) | (simp only [W0]; omega))) only [setAll, h3, h4, h1, GDisk.d, cells_agg, dl, W1, ↓W2, unbyte, implies_true, ← List.map_take, ← List.map_drop, bne_self_eq_false, eqCells, flatTD, Nat.reducePow, ayield, eq_self, exists_eq_left', exists_eq_left, exists_eq', Int.reduceLE, Int.reduceLT, Nat.reduceLeDiff, Int.reduceToNat, Int.reduceAdd, Int.reduceSub, Int.reduceMul, Int.reduceNeg, Int.reduceEq, argEnv, aeval, get, put, ofVal, ofVals, List.map, cond_true, cond_false, Nat.reduceBEq, nexts, allocs, countAllocs, pad, Nat.reduceAdd, Nat.reduceMul, Nat.reduceSub, Nat.reduceLT, isVoid, aNilCheck, aExtract, aNilB, isNilD, notD, aCap, aClear, aAppendZ, aInt, aStr, aConv, aSlice, asNat?, cutTight, aIndexAddr, aFieldAddr, aField, aIndex, aLoad, aStore, aAlloc, aBox, aBuild, aBuildSlice, aMakeSlice, aLen, aMax, aMin, aAppend, aCopy, aBuiltin, TD.isSlice, TD.isAgg, TD.known, TD.isSeq, partD, partOb, cellsAt, Blk.cells, if_true, if_false, splice, fillD, dl, byteD, Int.reduceBEq, Int.reduceBNe, beq_self_eq_true, retQ, retK, resD, resL, andR, elemCells, isByte, chunk, reduceCtorEq, okVal, okCell, List.replicate, ne_eq, Nat.reduceEqDiff, headIds_cons, IntWalk.toNatUp]
  · have hy := hd.no h2
    have hne : (R.2 != 0) = true := by simpa using h2
    have e : changeM d R = (d, R.2) := by
      have h5 : (R.2 == 0) = false := by simpa using h2
      unfold changeM
      rw [h1, h5]
      rfl
    rw [e]
    refine callN [6, 0, 1] (.tup [.nil, .int .i64 R.2]) hy (by simp) rfl (by simp only [List.all_cons, List.all_nil, niBlk, fniF, hc, niC]; rfl) (by simp only [List.all_cons, List.all_nil, niOut, niBlk, fniF, hc, niC]; rfl) (by simp) ⟨rfl, by simp [GDisk.d, dl, cells_agg, h1], rfl, trivial⟩ rfl rfl rfl ?_
    simp (disch := (first | omega | (simp only [W0]; done) | (simp only [W0]; omega))) only [setAll, hne, GDisk.d, h1, W1, ↓W2, unbyte, implies_true, ← List.map_take, ← List.map_drop, bne_self_eq_false, eqCells, flatTD, Nat.reducePow, ayield, eq_self, exists_eq_left', exists_eq_left, exists_eq', Int.reduceLE, Int.reduceLT, Nat.reduceLeDiff, Int.reduceToNat, Int.reduceAdd, Int.reduceSub, Int.reduceMul, Int.reduceNeg, Int.reduceEq, argEnv, aeval, get, put, ofVal, ofVals, List.map, cond_true, cond_false, Nat.reduceBEq, nexts, allocs, countAllocs, pad, Nat.reduceAdd, Nat.reduceMul, Nat.reduceSub, Nat.reduceLT, isVoid, aNilCheck, aExtract, aNilB, isNilD, notD, aCap, aClear, aAppendZ, aInt, aStr, aConv, aSlice, asNat?, cutTight, aIndexAddr, aFieldAddr, aField, aIndex, aLoad, aStore, aAlloc, aBox, aBuild, aBuildSlice, aMakeSlice, aLen, aMax, aMin, aAppend, aCopy, aBuiltin, TD.isSlice, TD.isAgg, TD.known, TD.isSeq, partD, partOb, cellsAt, Blk.cells, if_true, if_false, splice, fillD, dl, byteD, Int.reduceBEq, Int.reduceBNe, beq_self_eq_true, retQ, retK, resD, resL, andR, elemCells, isByte, chunk, reduceCtorEq, okVal, okCell, List.replicate, ne_eq, Nat.reduceEqDiff, headIds_cons, IntWalk.toNatUp]

theorem change2_yes (d : GDisk) (name : List UInt8) (g : FuncId) (c1 : List D) (R : List GFile × Int) (hc : D.noIdsL c1 = true) (hu : upF d.files) (hl : d.files.length ≤ 1000) (hk : okInt .i64 d.left ∧ 0 ≤ d.left) (hd : Does2 g d d.files name c1 R) (hr : (changeM d R).2 = 0) :
    EffN Try.prog 45 [d.d, .str name, .fn (.func g) [.ptr 0 0, .ptr 1 0]] [.live d.d.cells, .live c1, .live zerosD] (.tup [.agg [.ref 3 0 (changeM d R).1.files.length 3, .int .i64 (changeM d R).1.cap, .bool (changeM d R).1.armed, .int .i64 (changeM d R).1.left, .bool (changeM d R).1.down], .int .i64 0]) [.live d.d.cells, .live c1, .live zerosD, .live (flatD GFile.d (changeM d R).1.files)] := by
  refine own_new3 (niC d) hc rfl (fniF _) ?_
  refine callsD (rs := [.cell 6 27, .tmp 7]) tyOk mixed Try.func45 (by decide) rfl rfl (Nat.le_of_ble_eq_true rfl) (by decide) ?_
  obtain ⟨hk1, hk2⟩ := hk
  simp only [okInt, min_i64, max_i64] at hk1
  cases h1 : d.down
  case true =>
    have e : changeM d R = (d, 10) := by unfold changeM; rw [h1]; rfl
    rw [e] at hr
    exact absurd hr (show ¬ (10 : Int) = 0 by decide)
  have h2 : R.2 = 0 := by
    cases h5 : (R.2 == 0)
    · have e : changeM d R = (d, R.2) := by unfold changeM; rw [h1, h5]; rfl
      rw [e] at hr
      exact hr
    · simpa using h5
  simp (disch := (first | omega | (simp only [W0]; done) | (simp only [W0]; omega))) only [GDisk.d, h1, W1, ↓W2, unbyte, implies_true, ← List.map_take, ← List.map_drop, bne_self_eq_false, eqCells, flatTD, Nat.reducePow, ayield, eq_self, exists_eq_left', exists_eq_left, exists_eq', Int.reduceLE, Int.reduceLT, Nat.reduceLeDiff, Int.reduceToNat, Int.reduceAdd, Int.reduceSub, Int.reduceMul, Int.reduceNeg, Int.reduceEq, argEnv, aeval, get, put, ofVal, ofVals, List.map, cond_true, cond_false, Nat.reduceBEq, nexts, allocs, countAllocs, pad, Nat.reduceAdd, Nat.reduceMul, Nat.reduceSub, Nat.reduceLT, isVoid, aNilCheck, aExtract, aNilB, isNilD, notD, aCap, aClear, aAppendZ, aInt, aStr, aConv, aSlice, asNat?, cutTight, aIndexAddr, aFieldAddr, aField, aIndex, aLoad, aStore, aAlloc, aBox, aBuild, aBuildSlice, aMakeSlice, aLen, aMax, aMin, aAppend, aCopy, aBuiltin, TD.isSlice, TD.isAgg, TD.known, TD.isSeq, partD, partOb, cellsAt, Blk.cells, if_true, if_false, splice, fillD, dl, byteD, Int.reduceBEq, Int.reduceBNe, beq_self_eq_true, retQ, retK, resD, resL, andR, elemCells, isByte, chunk, reduceCtorEq, okVal, okCell, List.replicate, ne_eq, Nat.reduceEqDiff, headIds_cons, IntWalk.toNatUp]
  refine callN [] (.ref 6 0 d.files.length 3) (cloneF_ok d.files (by omega)) (Nat.zero_le _) rfl rfl (by simp only [List.all_cons, List.all_nil, niOut, niBlk, fniF, Bool.and_self]) (by simp) trivial (by simp only [List.all_cons, List.all_nil, bnd_dl _ _ _ nidF, Bool.and_self]) (by simp only [List.map_cons, List.map_nil, ren_dl _ _ _ nidF]) rfl ?_
  simp (disch := (first | omega | (simp only [W0]; done) | (simp only [W0]; omega))) only [setAll, W1, ↓W2, unbyte, implies_true, ← List.map_take, ← List.map_drop, bne_self_eq_false, eqCells, flatTD, Nat.reducePow, ayield, eq_self, exists_eq_left', exists_eq_left, exists_eq', Int.reduceLE, Int.reduceLT, Nat.reduceLeDiff, Int.reduceToNat, Int.reduceAdd, Int.reduceSub, Int.reduceMul, Int.reduceNeg, Int.reduceEq, argEnv, aeval, get, put, ofVal, ofVals, List.map, cond_true, cond_false, Nat.reduceBEq, nexts, allocs, countAllocs, pad, Nat.reduceAdd, Nat.reduceMul, Nat.reduceSub, Nat.reduceLT, isVoid, aNilCheck, aExtract, aNilB, isNilD, notD, aCap, aClear, aAppendZ, aInt, aStr, aConv, aSlice, asNat?, cutTight, aIndexAddr, aFieldAddr, aField, aIndex, aLoad, aStore, aAlloc, aBox, aBuild, aBuildSlice, aMakeSlice, aLen, aMax, aMin, aAppend, aCopy, aBuiltin, TD.isSlice, TD.isAgg, TD.known, TD.isSeq, partD, partOb, cellsAt, Blk.cells, if_true, if_false, splice, fillD, dl, byteD, Int.reduceBEq, Int.reduceBNe, beq_self_eq_true, retQ, retK, resD, resL, andR, elemCells, isByte, chunk, reduceCtorEq, okVal, okCell, List.replicate, ne_eq, Nat.reduceEqDiff, headIds_cons, IntWalk.toNatUp]
  refine callPeek (ffind_ok d.files name hu (by omega)) rfl ⟨Sub.ownF GFile.d 3 d.files lenF niF rfl rfl rfl, Sub.refl rfl, trivial⟩ ?_
  simp (disch := (first | omega | (simp only [W0]; done) | (simp only [W0]; omega))) only [W1, ↓W2, unbyte, implies_true, ← List.map_take, ← List.map_drop, bne_self_eq_false, eqCells, flatTD, Nat.reducePow, ayield, eq_self, exists_eq_left', exists_eq_left, exists_eq', Int.reduceLE, Int.reduceLT, Nat.reduceLeDiff, Int.reduceToNat, Int.reduceAdd, Int.reduceSub, Int.reduceMul, Int.reduceNeg, Int.reduceEq, argEnv, aeval, get, put, ofVal, ofVals, List.map, cond_true, cond_false, Nat.reduceBEq, nexts, allocs, countAllocs, pad, Nat.reduceAdd, Nat.reduceMul, Nat.reduceSub, Nat.reduceLT, isVoid, aNilCheck, aExtract, aNilB, isNilD, notD, aCap, aClear, aAppendZ, aInt, aStr, aConv, aSlice, asNat?, cutTight, aIndexAddr, aFieldAddr, aField, aIndex, aLoad, aStore, aAlloc, aBox, aBuild, aBuildSlice, aMakeSlice, aLen, aMax, aMin, aAppend, aCopy, aBuiltin, TD.isSlice, TD.isAgg, TD.known, TD.isSeq, partD, partOb, cellsAt, Blk.cells, if_true, if_false, splice, fillD, dl, byteD, Int.reduceBEq, Int.reduceBNe, beq_self_eq_true, retQ, retK, resD, resL, andR, elemCells, isByte, chunk, reduceCtorEq, okVal, okCell, List.replicate, ne_eq, Nat.reduceEqDiff, headIds_cons, IntWalk.toNatUp]
  refine callN [6, 0, 1] (.tup [.ref 7 0 R.1.length 3, .int .i64 0]) (hd.yes h2) (by simp) rfl (by simp only [List.all_cons, List.all_nil, niBlk, fniF, hc, niC]; rfl) (by simp only [List.all_cons, List.all_nil, niOut, niBlk, fniF, hc, niC]; rfl) (by simp) ⟨rfl, by simp [GDisk.d, dl, cells_agg, h1], rfl, trivial⟩ rfl rfl rfl ?_
  cases h3 : d.armed
  · have e : changeM d R = (⟨R.1, d.cap, d.armed, d.left, d.down⟩, 0) := by unfold changeM; rw [h1, h2, h3]; rfl
    rw [e]
    simp (disch := (first | omega | (simp only [W0]; done) | (simp only [W0]; omega))) only [setAll, h3, h1, GDisk.d, cells_agg, dl, W1, ↓W2, unbyte, implies_true, ← List.map_take, ← List.map_drop, bne_self_eq_false, eqCells, flatTD, Nat.reducePow, ayield, eq_self, exists_eq_left', exists_eq_left, exists_eq', Int.reduceLE, Int.reduceLT, Nat.reduceLeDiff, Int.reduceToNat, Int.reduceAdd, Int.reduceSub, Int.reduceMul, Int.reduceNeg, Int.reduceEq, argEnv, aeval, get, put, ofVal, ofVals, List.map, cond_true, cond_false, Nat.reduceBEq, nexts, allocs, countAllocs, pad, Nat.reduceAdd, Nat.reduceMul, Nat.reduceSub, Nat.reduceLT, isVoid, aNilCheck, aExtract, aNilB, isNilD, notD, aCap, aClear, aAppendZ, aInt, aStr, aConv, aSlice, asNat?, cutTight, aIndexAddr, aFieldAddr, aField, aIndex, aLoad, aStore, aAlloc, aBox, aBuild, aBuildSlice, aMakeSlice, aLen, aMax, aMin, aAppend, aCopy, aBuiltin, TD.isSlice, TD.isAgg, TD.known, TD.isSeq, partD, partOb, cellsAt, Blk.cells, if_true, if_false, splice, fillD, dl, byteD, Int.reduceBEq, Int.reduceBNe, beq_self_eq_true, retQ, retK, resD, resL, andR, elemCells, isByte, chunk, reduceCtorEq, okVal, okCell, List.replicate, ne_eq, Nat.reduceEqDiff, headIds_cons, IntWalk.toNatUp]
    exact ⟨7, rfl, rfl, by decide⟩
  cases h4 : (d.left == 0)
  · have e : changeM d R = (⟨R.1, d.cap, d.armed, d.left - 1, d.down⟩, 0) := by unfold changeM; rw [h1, h2, h3, h4]; rfl
    rw [e]
    simp (disch := (first | omega | (simp only [W0]; done) | (simp only [W0]; omega))) only [setAll, h3, h4, h1, GDisk.d, cells_agg, dl, W1, ↓W2, unbyte, implies_true, ← List.map_take, ← List.map_drop, bne_self_eq_false, eqCells, flatTD, Nat.reducePow, ayield, eq_self, exists_eq_left', exists_eq_left, exists_eq', Int.reduceLE, Int.reduceLT, Nat.reduceLeDiff, Int.reduceToNat, Int.reduceAdd, Int.reduceSub, Int.reduceMul, Int.reduceNeg, Int.reduceEq, argEnv, aeval, get, put, ofVal, ofVals, List.map, cond_true, cond_false, Nat.reduceBEq, nexts, allocs, countAllocs, pad, Nat.reduceAdd, Nat.reduceMul, Nat.reduceSub, Nat.reduceLT, isVoid, aNilCheck, aExtract, aNilB, isNilD, notD, aCap, aClear, aAppendZ, aInt, aStr, aConv, aSlice, asNat?, cutTight, aIndexAddr, aFieldAddr, aField, aIndex, aLoad, aStore, aAlloc, aBox, aBuild, aBuildSlice, aMakeSlice, aLen, aMax, aMin, aAppend, aCopy, aBuiltin, TD.isSlice, TD.isAgg, TD.known, TD.isSeq, partD, partOb, cellsAt, Blk.cells, if_true, if_false, splice, fillD, dl, byteD, Int.reduceBEq, Int.reduceBNe, beq_self_eq_true, retQ, retK, resD, resL, andR, elemCells, isByte, chunk, reduceCtorEq, okVal, okCell, List.replicate, ne_eq, Nat.reduceEqDiff, headIds_cons, IntWalk.toNatUp]
    exact ⟨7, rfl, rfl, by decide⟩
  · have e : changeM d R = (⟨d.files, d.cap, d.armed, d.left, true⟩, 10) := by unfold changeM; rw [h1, h2, h3, h4]; rfl
    rw [e] at hr
    exact absurd hr (show ¬ (10 : Int) = 0 by decide)

theorem create_wrap (d : GDisk) (name : List UInt8) (hn : name.length ≤ reach) (hu : upF d.files) (hl : d.files.length ≤ 1000) (hk : okInt .i64 d.left ∧ 0 ≤ d.left) (hd : Does1 46 d.files name ([.str name]) (createA d.files name)) :
    PureF Try.prog 25 [d.d, .str name] (chD (changeM d (createA d.files name))) := by
  refine pureD (rs := [.cell 4 27, .tmp 5]) tyOk mixed Try.func25 (by decide) rfl rfl (Nat.le_of_ble_eq_true rfl) (by decide) ?_
  have hb : [d.d, .str name, .fn (.func 46) [.ptr 1 0]].all (D.bnd 3) = true := by
    simp only [List.all_cons, List.all_nil, bnd_noIds _ _ (GDisk.noIds d)]
    rfl
  have hm : [d.d, .str name, .fn (.func 46) [.ptr 1 0]] = [d.d, .str name, .fn (.func 46) [.ptr 1 0]].map (D.ren [0, 1, 2]) := by
    simp only [List.map_cons, List.map_nil, ren_noIds _ _ (GDisk.noIds d)]
    rfl
  simp (disch := (first | omega | (simp only [W0]; done) | (simp only [W0]; omega))) only [GDisk.d, W1, ↓W2, unbyte, implies_true, ← List.map_take, ← List.map_drop, bne_self_eq_false, eqCells, flatTD, Nat.reducePow, ayield, eq_self, exists_eq_left', exists_eq_left, exists_eq', Int.reduceLE, Int.reduceLT, Nat.reduceLeDiff, Int.reduceToNat, Int.reduceAdd, Int.reduceSub, Int.reduceMul, Int.reduceNeg, Int.reduceEq, argEnv, aeval, get, put, ofVal, ofVals, List.map, cond_true, cond_false, Nat.reduceBEq, nexts, allocs, countAllocs, pad, Nat.reduceAdd, Nat.reduceMul, Nat.reduceSub, Nat.reduceLT, isVoid, aNilCheck, aExtract, aNilB, isNilD, notD, aCap, aClear, aAppendZ, aInt, aStr, aConv, aSlice, asNat?, cutTight, aIndexAddr, aFieldAddr, aField, aIndex, aLoad, aStore, aAlloc, aBox, aBuild, aBuildSlice, aMakeSlice, aLen, aMax, aMin, aAppend, aCopy, aBuiltin, TD.isSlice, TD.isAgg, TD.known, TD.isSeq, partD, partOb, cellsAt, Blk.cells, if_true, if_false, splice, fillD, dl, byteD, Int.reduceBEq, Int.reduceBNe, beq_self_eq_true, retQ, retK, resD, resL, andR, elemCells, isByte, chunk, reduceCtorEq, okVal, okCell, List.replicate, ne_eq, Nat.reduceEqDiff, headIds_cons, IntWalk.toNatUp]
  by_cases hr : (changeM d (createA d.files name)).2 = 0
  · have hy := change1_yes d name _ ([.str name]) _ rfl hu hl hk hd hr
    obtain ⟨X, hX⟩ : ∃ X, changeM d (createA d.files name) = X := ⟨_, rfl⟩
    rw [hX] at hy hr ⊢
    refine callN [0, 1, 2] (.tup [.agg [.ref 3 0 X.1.files.length 3, .int .i64 X.1.cap, .bool X.1.armed, .int .i64 X.1.left, .bool X.1.down], .int .i64 0]) hy (by simp) rfl (by simp only [List.all_cons, List.all_nil, niBlk, niC]; rfl) (by simp only [List.all_cons, List.all_nil, niOut, niBlk, niC, fniF]; rfl) (by simp) ⟨rfl, rfl, rfl, trivial⟩ hb hm rfl ?_
    simp (disch := (first | omega | (simp only [W0]; done) | (simp only [W0]; omega))) only [setAll, zerosD, W1, ↓W2, unbyte, implies_true, ← List.map_take, ← List.map_drop, bne_self_eq_false, eqCells, flatTD, Nat.reducePow, ayield, eq_self, exists_eq_left', exists_eq_left, exists_eq', Int.reduceLE, Int.reduceLT, Nat.reduceLeDiff, Int.reduceToNat, Int.reduceAdd, Int.reduceSub, Int.reduceMul, Int.reduceNeg, Int.reduceEq, argEnv, aeval, get, put, ofVal, ofVals, List.map, cond_true, cond_false, Nat.reduceBEq, nexts, allocs, countAllocs, pad, Nat.reduceAdd, Nat.reduceMul, Nat.reduceSub, Nat.reduceLT, isVoid, aNilCheck, aExtract, aNilB, isNilD, notD, aCap, aClear, aAppendZ, aInt, aStr, aConv, aSlice, asNat?, cutTight, aIndexAddr, aFieldAddr, aField, aIndex, aLoad, aStore, aAlloc, aBox, aBuild, aBuildSlice, aMakeSlice, aLen, aMax, aMin, aAppend, aCopy, aBuiltin, TD.isSlice, TD.isAgg, TD.known, TD.isSeq, partD, partOb, cellsAt, Blk.cells, if_true, if_false, splice, fillD, dl, byteD, Int.reduceBEq, Int.reduceBNe, beq_self_eq_true, retQ, retK, resD, resL, andR, elemCells, isByte, chunk, reduceCtorEq, okVal, okCell, List.replicate, ne_eq, Nat.reduceEqDiff, headIds_cons, IntWalk.toNatUp]
    exact Sub.tup ⟨Sub.agg ⟨Sub.ownF GFile.d 3 _ lenF niF rfl rfl rfl, Sub.refl rfl, Sub.refl rfl, Sub.refl rfl, Sub.refl rfl, trivial⟩, Sub.int hr.symm, trivial⟩
  · have hy := change1_no d name _ ([.str name]) _ rfl hu hl hd hr
    obtain ⟨X, hX⟩ : ∃ X, changeM d (createA d.files name) = X := ⟨_, rfl⟩
    rw [hX] at hy hr ⊢
    refine callN [0, 1, 2] (.tup [X.1.d, .int .i64 X.2]) hy (by simp) (bnd_noIds _ _ (chNi _ _)) (by simp only [List.all_cons, List.all_nil, niBlk, niC]; rfl) (by simp only [List.all_cons, List.all_nil, niOut, niBlk, niC]; rfl) (by simp) ⟨rfl, rfl, rfl, trivial⟩ hb hm (ren_noIds _ _ (chNi _ _)) ?_
    simp (disch := (first | omega | (simp only [W0]; done) | (simp only [W0]; omega))) only [setAll, zerosD, GDisk.d, W1, ↓W2, unbyte, implies_true, ← List.map_take, ← List.map_drop, bne_self_eq_false, eqCells, flatTD, Nat.reducePow, ayield, eq_self, exists_eq_left', exists_eq_left, exists_eq', Int.reduceLE, Int.reduceLT, Nat.reduceLeDiff, Int.reduceToNat, Int.reduceAdd, Int.reduceSub, Int.reduceMul, Int.reduceNeg, Int.reduceEq, argEnv, aeval, get, put, ofVal, ofVals, List.map, cond_true, cond_false, Nat.reduceBEq, nexts, allocs, countAllocs, pad, Nat.reduceAdd, Nat.reduceMul, Nat.reduceSub, Nat.reduceLT, isVoid, aNilCheck, aExtract, aNilB, isNilD, notD, aCap, aClear, aAppendZ, aInt, aStr, aConv, aSlice, asNat?, cutTight, aIndexAddr, aFieldAddr, aField, aIndex, aLoad, aStore, aAlloc, aBox, aBuild, aBuildSlice, aMakeSlice, aLen, aMax, aMin, aAppend, aCopy, aBuiltin, TD.isSlice, TD.isAgg, TD.known, TD.isSeq, partD, partOb, cellsAt, Blk.cells, if_true, if_false, splice, fillD, dl, byteD, Int.reduceBEq, Int.reduceBNe, beq_self_eq_true, retQ, retK, resD, resL, andR, elemCells, isByte, chunk, reduceCtorEq, okVal, okCell, List.replicate, ne_eq, Nat.reduceEqDiff, headIds_cons, IntWalk.toNatUp]
    exact Sub.refl (chNi _ _)

theorem append_wrap (d : GDisk) (name data : List UInt8) (hn : data.length ≤ reach) (hu : upF d.files) (hl : d.files.length ≤ 1000) (hk : okInt .i64 d.left ∧ 0 ≤ d.left) (hd : Does2 48 d d.files name ([.str data]) (appendA d.files d.cap name data)) :
    PureF Try.prog 26 [d.d, .str name, .str data] (chD (changeM d (appendA d.files d.cap name data))) := by
  refine pureD (rs := [.cell 6 27, .tmp 7]) tyOk mixed Try.func26 (by decide) rfl rfl (Nat.le_of_ble_eq_true rfl) (by decide) ?_
  have hb : [d.d, .str name, .fn (.func 48) [.ptr 0 0, .ptr 1 0]].all (D.bnd 3) = true := by
    simp only [List.all_cons, List.all_nil, bnd_noIds _ _ (GDisk.noIds d)]
    rfl
  have hm : [d.d, .str name, .fn (.func 48) [.ptr 0 0, .ptr 1 0]] = [d.d, .str name, .fn (.func 48) [.ptr 0 0, .ptr 1 0]].map (D.ren [0, 1, 2]) := by
    simp only [List.map_cons, List.map_nil, ren_noIds _ _ (GDisk.noIds d)]
    rfl
  simp (disch := (first | omega | (simp only [W0]; done) | (simp only [W0]; omega))) only [GDisk.d, W1, ↓W2, unbyte, implies_true, ← List.map_take, ← List.map_drop, bne_self_eq_false, eqCells, flatTD, Nat.reducePow, ayield, eq_self, exists_eq_left', exists_eq_left, exists_eq', Int.reduceLE, Int.reduceLT, Nat.reduceLeDiff, Int.reduceToNat, Int.reduceAdd, Int.reduceSub, Int.reduceMul, Int.reduceNeg, Int.reduceEq, argEnv, aeval, get, put, ofVal, ofVals, List.map, cond_true, cond_false, Nat.reduceBEq, nexts, allocs, countAllocs, pad, Nat.reduceAdd, Nat.reduceMul, Nat.reduceSub, Nat.reduceLT, isVoid, aNilCheck, aExtract, aNilB, isNilD, notD, aCap, aClear, aAppendZ, aInt, aStr, aConv, aSlice, asNat?, cutTight, aIndexAddr, aFieldAddr, aField, aIndex, aLoad, aStore, aAlloc, aBox, aBuild, aBuildSlice, aMakeSlice, aLen, aMax, aMin, aAppend, aCopy, aBuiltin, TD.isSlice, TD.isAgg, TD.known, TD.isSeq, partD, partOb, cellsAt, Blk.cells, if_true, if_false, splice, fillD, dl, byteD, Int.reduceBEq, Int.reduceBNe, beq_self_eq_true, retQ, retK, resD, resL, andR, elemCells, isByte, chunk, reduceCtorEq, okVal, okCell, List.replicate, ne_eq, Nat.reduceEqDiff, headIds_cons, IntWalk.toNatUp]
  by_cases hr : (changeM d (appendA d.files d.cap name data)).2 = 0
  · have hy := change2_yes d name _ ([.str data]) _ rfl hu hl hk hd hr
    obtain ⟨X, hX⟩ : ∃ X, changeM d (appendA d.files d.cap name data) = X := ⟨_, rfl⟩
    rw [hX] at hy hr ⊢
    refine callN [0, 1, 2] (.tup [.agg [.ref 3 0 X.1.files.length 3, .int .i64 X.1.cap, .bool X.1.armed, .int .i64 X.1.left, .bool X.1.down], .int .i64 0]) hy (by simp) rfl (by simp only [List.all_cons, List.all_nil, niBlk, niC]; rfl) (by simp only [List.all_cons, List.all_nil, niOut, niBlk, niC, fniF]; rfl) (by simp) ⟨rfl, rfl, rfl, trivial⟩ hb hm rfl ?_
    simp (disch := (first | omega | (simp only [W0]; done) | (simp only [W0]; omega))) only [setAll, zerosD, W1, ↓W2, unbyte, implies_true, ← List.map_take, ← List.map_drop, bne_self_eq_false, eqCells, flatTD, Nat.reducePow, ayield, eq_self, exists_eq_left', exists_eq_left, exists_eq', Int.reduceLE, Int.reduceLT, Nat.reduceLeDiff, Int.reduceToNat, Int.reduceAdd, Int.reduceSub, Int.reduceMul, Int.reduceNeg, Int.reduceEq, argEnv, aeval, get, put, ofVal, ofVals, List.map, cond_true, cond_false, Nat.reduceBEq, nexts, allocs, countAllocs, pad, Nat.reduceAdd, Nat.reduceMul, Nat.reduceSub, Nat.reduceLT, isVoid, aNilCheck, aExtract, aNilB, isNilD, notD, aCap, aClear, aAppendZ, aInt, aStr, aConv, aSlice, asNat?, cutTight, aIndexAddr, aFieldAddr, aField, aIndex, aLoad, aStore, aAlloc, aBox, aBuild, aBuildSlice, aMakeSlice, aLen, aMax, aMin, aAppend, aCopy, aBuiltin, TD.isSlice, TD.isAgg, TD.known, TD.isSeq, partD, partOb, cellsAt, Blk.cells, if_true, if_false, splice, fillD, dl, byteD, Int.reduceBEq, Int.reduceBNe, beq_self_eq_true, retQ, retK, resD, resL, andR, elemCells, isByte, chunk, reduceCtorEq, okVal, okCell, List.replicate, ne_eq, Nat.reduceEqDiff, headIds_cons, IntWalk.toNatUp]
    exact Sub.tup ⟨Sub.agg ⟨Sub.ownF GFile.d 3 _ lenF niF rfl rfl rfl, Sub.refl rfl, Sub.refl rfl, Sub.refl rfl, Sub.refl rfl, trivial⟩, Sub.int hr.symm, trivial⟩
  · have hy := change2_no d name _ ([.str data]) _ rfl hu hl hd hr
    obtain ⟨X, hX⟩ : ∃ X, changeM d (appendA d.files d.cap name data) = X := ⟨_, rfl⟩
    rw [hX] at hy hr ⊢
    refine callN [0, 1, 2] (.tup [X.1.d, .int .i64 X.2]) hy (by simp) (bnd_noIds _ _ (chNi _ _)) (by simp only [List.all_cons, List.all_nil, niBlk, niC]; rfl) (by simp only [List.all_cons, List.all_nil, niOut, niBlk, niC]; rfl) (by simp) ⟨rfl, rfl, rfl, trivial⟩ hb hm (ren_noIds _ _ (chNi _ _)) ?_
    simp (disch := (first | omega | (simp only [W0]; done) | (simp only [W0]; omega))) only [setAll, zerosD, GDisk.d, W1, ↓W2, unbyte, implies_true, ← List.map_take, ← List.map_drop, bne_self_eq_false, eqCells, flatTD, Nat.reducePow, ayield, eq_self, exists_eq_left', exists_eq_left, exists_eq', Int.reduceLE, Int.reduceLT, Nat.reduceLeDiff, Int.reduceToNat, Int.reduceAdd, Int.reduceSub, Int.reduceMul, Int.reduceNeg, Int.reduceEq, argEnv, aeval, get, put, ofVal, ofVals, List.map, cond_true, cond_false, Nat.reduceBEq, nexts, allocs, countAllocs, pad, Nat.reduceAdd, Nat.reduceMul, Nat.reduceSub, Nat.reduceLT, isVoid, aNilCheck, aExtract, aNilB, isNilD, notD, aCap, aClear, aAppendZ, aInt, aStr, aConv, aSlice, asNat?, cutTight, aIndexAddr, aFieldAddr, aField, aIndex, aLoad, aStore, aAlloc, aBox, aBuild, aBuildSlice, aMakeSlice, aLen, aMax, aMin, aAppend, aCopy, aBuiltin, TD.isSlice, TD.isAgg, TD.known, TD.isSeq, partD, partOb, cellsAt, Blk.cells, if_true, if_false, splice, fillD, dl, byteD, Int.reduceBEq, Int.reduceBNe, beq_self_eq_true, retQ, retK, resD, resL, andR, elemCells, isByte, chunk, reduceCtorEq, okVal, okCell, List.replicate, ne_eq, Nat.reduceEqDiff, headIds_cons, IntWalk.toNatUp]
    exact Sub.refl (chNi _ _)

theorem sync_wrap (d : GDisk) (name : List UInt8) (hu : upF d.files) (hl : d.files.length ≤ 1000) (hk : okInt .i64 d.left ∧ 0 ≤ d.left) (hd : Does0 49 d.files name (syncA d.files name)) :
    PureF Try.prog 27 [d.d, .str name] (chD (changeM d (syncA d.files name))) := by
  refine pureD (rs := [.cell 4 27, .tmp 5]) tyOk mixed Try.func27 (by decide) rfl rfl (Nat.le_of_ble_eq_true rfl) (by decide) ?_
  have hb : [d.d, .str name, .fn (.func 49) []].all (D.bnd 2) = true := by
    simp only [List.all_cons, List.all_nil, bnd_noIds _ _ (GDisk.noIds d)]
    rfl
  have hm : [d.d, .str name, .fn (.func 49) []] = [d.d, .str name, .fn (.func 49) []].map (D.ren [0, 1]) := by
    simp only [List.map_cons, List.map_nil, ren_noIds _ _ (GDisk.noIds d)]
    rfl
  simp (disch := (first | omega | (simp only [W0]; done) | (simp only [W0]; omega))) only [GDisk.d, W1, ↓W2, unbyte, implies_true, ← List.map_take, ← List.map_drop, bne_self_eq_false, eqCells, flatTD, Nat.reducePow, ayield, eq_self, exists_eq_left', exists_eq_left, exists_eq', Int.reduceLE, Int.reduceLT, Nat.reduceLeDiff, Int.reduceToNat, Int.reduceAdd, Int.reduceSub, Int.reduceMul, Int.reduceNeg, Int.reduceEq, argEnv, aeval, get, put, ofVal, ofVals, List.map, cond_true, cond_false, Nat.reduceBEq, nexts, allocs, countAllocs, pad, Nat.reduceAdd, Nat.reduceMul, Nat.reduceSub, Nat.reduceLT, isVoid, aNilCheck, aExtract, aNilB, isNilD, notD, aCap, aClear, aAppendZ, aInt, aStr, aConv, aSlice, asNat?, cutTight, aIndexAddr, aFieldAddr, aField, aIndex, aLoad, aStore, aAlloc, aBox, aBuild, aBuildSlice, aMakeSlice, aLen, aMax, aMin, aAppend, aCopy, aBuiltin, TD.isSlice, TD.isAgg, TD.known, TD.isSeq, partD, partOb, cellsAt, Blk.cells, if_true, if_false, splice, fillD, dl, byteD, Int.reduceBEq, Int.reduceBNe, beq_self_eq_true, retQ, retK, resD, resL, andR, elemCells, isByte, chunk, reduceCtorEq, okVal, okCell, List.replicate, ne_eq, Nat.reduceEqDiff, headIds_cons, IntWalk.toNatUp]
  by_cases hr : (changeM d (syncA d.files name)).2 = 0
  · have hy := change0_yes d name _ _ hu hl hk hd hr
    obtain ⟨X, hX⟩ : ∃ X, changeM d (syncA d.files name) = X := ⟨_, rfl⟩
    rw [hX] at hy hr ⊢
    refine callN [0, 1] (.tup [.agg [.ref 2 0 X.1.files.length 3, .int .i64 X.1.cap, .bool X.1.armed, .int .i64 X.1.left, .bool X.1.down], .int .i64 0]) hy (by simp) rfl (by simp only [List.all_cons, List.all_nil, niBlk, niC]; rfl) (by simp only [List.all_cons, List.all_nil, niOut, niBlk, niC, fniF]; rfl) (by simp) ⟨rfl, rfl, trivial⟩ hb hm rfl ?_
    simp (disch := (first | omega | (simp only [W0]; done) | (simp only [W0]; omega))) only [setAll, zerosD, W1, ↓W2, unbyte, implies_true, ← List.map_take, ← List.map_drop, bne_self_eq_false, eqCells, flatTD, Nat.reducePow, ayield, eq_self, exists_eq_left', exists_eq_left, exists_eq', Int.reduceLE, Int.reduceLT, Nat.reduceLeDiff, Int.reduceToNat, Int.reduceAdd, Int.reduceSub, Int.reduceMul, Int.reduceNeg, Int.reduceEq, argEnv, aeval, get, put, ofVal, ofVals, List.map, cond_true, cond_false, Nat.reduceBEq, nexts, allocs, countAllocs, pad, Nat.reduceAdd, Nat.reduceMul, Nat.reduceSub, Nat.reduceLT, isVoid, aNilCheck, aExtract, aNilB, isNilD, notD, aCap, aClear, aAppendZ, aInt, aStr, aConv, aSlice, asNat?, cutTight, aIndexAddr, aFieldAddr, aField, aIndex, aLoad, aStore, aAlloc, aBox, aBuild, aBuildSlice, aMakeSlice, aLen, aMax, aMin, aAppend, aCopy, aBuiltin, TD.isSlice, TD.isAgg, TD.known, TD.isSeq, partD, partOb, cellsAt, Blk.cells, if_true, if_false, splice, fillD, dl, byteD, Int.reduceBEq, Int.reduceBNe, beq_self_eq_true, retQ, retK, resD, resL, andR, elemCells, isByte, chunk, reduceCtorEq, okVal, okCell, List.replicate, ne_eq, Nat.reduceEqDiff, headIds_cons, IntWalk.toNatUp]
    exact Sub.tup ⟨Sub.agg ⟨Sub.ownF GFile.d 3 _ lenF niF rfl rfl rfl, Sub.refl rfl, Sub.refl rfl, Sub.refl rfl, Sub.refl rfl, trivial⟩, Sub.int hr.symm, trivial⟩
  · have hy := change0_no d name _ _ hu hl hd hr
    obtain ⟨X, hX⟩ : ∃ X, changeM d (syncA d.files name) = X := ⟨_, rfl⟩
    rw [hX] at hy hr ⊢
    refine callN [0, 1] (.tup [X.1.d, .int .i64 X.2]) hy (by simp) (bnd_noIds _ _ (chNi _ _)) (by simp only [List.all_cons, List.all_nil, niBlk, niC]; rfl) (by simp only [List.all_cons, List.all_nil, niOut, niBlk, niC]; rfl) (by simp) ⟨rfl, rfl, trivial⟩ hb hm (ren_noIds _ _ (chNi _ _)) ?_
    simp (disch := (first | omega | (simp only [W0]; done) | (simp only [W0]; omega))) only [setAll, zerosD, GDisk.d, W1, ↓W2, unbyte, implies_true, ← List.map_take, ← List.map_drop, bne_self_eq_false, eqCells, flatTD, Nat.reducePow, ayield, eq_self, exists_eq_left', exists_eq_left, exists_eq', Int.reduceLE, Int.reduceLT, Nat.reduceLeDiff, Int.reduceToNat, Int.reduceAdd, Int.reduceSub, Int.reduceMul, Int.reduceNeg, Int.reduceEq, argEnv, aeval, get, put, ofVal, ofVals, List.map, cond_true, cond_false, Nat.reduceBEq, nexts, allocs, countAllocs, pad, Nat.reduceAdd, Nat.reduceMul, Nat.reduceSub, Nat.reduceLT, isVoid, aNilCheck, aExtract, aNilB, isNilD, notD, aCap, aClear, aAppendZ, aInt, aStr, aConv, aSlice, asNat?, cutTight, aIndexAddr, aFieldAddr, aField, aIndex, aLoad, aStore, aAlloc, aBox, aBuild, aBuildSlice, aMakeSlice, aLen, aMax, aMin, aAppend, aCopy, aBuiltin, TD.isSlice, TD.isAgg, TD.known, TD.isSeq, partD, partOb, cellsAt, Blk.cells, if_true, if_false, splice, fillD, dl, byteD, Int.reduceBEq, Int.reduceBNe, beq_self_eq_true, retQ, retK, resD, resL, andR, elemCells, isByte, chunk, reduceCtorEq, okVal, okCell, List.replicate, ne_eq, Nat.reduceEqDiff, headIds_cons, IntWalk.toNatUp]
    exact Sub.refl (chNi _ _)

theorem cut_wrap (d : GDisk) (name : List UInt8) (n : Int) (hu : upF d.files) (hl : d.files.length ≤ 1000) (hk : okInt .i64 d.left ∧ 0 ≤ d.left) (hd : Does1 50 d.files name ([.int .i64 n]) (cutA d.files name n)) :
    PureF Try.prog 28 [d.d, .str name, .int .i64 n] (chD (changeM d (cutA d.files name n))) := by
  refine pureD (rs := [.cell 6 27, .tmp 7]) tyOk mixed Try.func28 (by decide) rfl rfl (Nat.le_of_ble_eq_true rfl) (by decide) ?_
  have hb : [d.d, .str name, .fn (.func 50) [.ptr 1 0]].all (D.bnd 3) = true := by
    simp only [List.all_cons, List.all_nil, bnd_noIds _ _ (GDisk.noIds d)]
    rfl
  have hm : [d.d, .str name, .fn (.func 50) [.ptr 1 0]] = [d.d, .str name, .fn (.func 50) [.ptr 1 0]].map (D.ren [0, 1, 2]) := by
    simp only [List.map_cons, List.map_nil, ren_noIds _ _ (GDisk.noIds d)]
    rfl
  simp (disch := (first | omega | (simp only [W0]; done) | (simp only [W0]; omega))) only [GDisk.d, W1, ↓W2, unbyte, implies_true, ← List.map_take, ← List.map_drop, bne_self_eq_false, eqCells, flatTD, Nat.reducePow, ayield, eq_self, exists_eq_left', exists_eq_left, exists_eq', Int.reduceLE, Int.reduceLT, Nat.reduceLeDiff, Int.reduceToNat, Int.reduceAdd, Int.reduceSub, Int.reduceMul, Int.reduceNeg, Int.reduceEq, argEnv, aeval, get, put, ofVal, ofVals, List.map, cond_true, cond_false, Nat.reduceBEq, nexts, allocs, countAllocs, pad, Nat.reduceAdd, Nat.reduceMul, Nat.reduceSub, Nat.reduceLT, isVoid, aNilCheck, aExtract, aNilB, isNilD, notD, aCap, aClear, aAppendZ, aInt, aStr, aConv, aSlice, asNat?, cutTight, aIndexAddr, aFieldAddr, aField, aIndex, aLoad, aStore, aAlloc, aBox, aBuild, aBuildSlice, aMakeSlice, aLen, aMax, aMin, aAppend, aCopy, aBuiltin, TD.isSlice, TD.isAgg, TD.known, TD.isSeq, partD, partOb, cellsAt, Blk.cells, if_true, if_false, splice, fillD, dl, byteD, Int.reduceBEq, Int.reduceBNe, beq_self_eq_true, retQ, retK, resD, resL, andR, elemCells, isByte, chunk, reduceCtorEq, okVal, okCell, List.replicate, ne_eq, Nat.reduceEqDiff, headIds_cons, IntWalk.toNatUp]
  by_cases hr : (changeM d (cutA d.files name n)).2 = 0
  · have hy := change1_yes d name _ ([.int .i64 n]) _ rfl hu hl hk hd hr
    obtain ⟨X, hX⟩ : ∃ X, changeM d (cutA d.files name n) = X := ⟨_, rfl⟩
    rw [hX] at hy hr ⊢
    refine callN [0, 1, 2] (.tup [.agg [.ref 3 0 X.1.files.length 3, .int .i64 X.1.cap, .bool X.1.armed, .int .i64 X.1.left, .bool X.1.down], .int .i64 0]) hy (by simp) rfl (by simp only [List.all_cons, List.all_nil, niBlk, niC]; rfl) (by simp only [List.all_cons, List.all_nil, niOut, niBlk, niC, fniF]; rfl) (by simp) ⟨rfl, rfl, rfl, trivial⟩ hb hm rfl ?_
    simp (disch := (first | omega | (simp only [W0]; done) | (simp only [W0]; omega))) only [setAll, zerosD, W1, ↓W2, unbyte, implies_true, ← List.map_take, ← List.map_drop, bne_self_eq_false, eqCells, flatTD, Nat.reducePow, ayield, eq_self, exists_eq_left', exists_eq_left, exists_eq', Int.reduceLE, Int.reduceLT, Nat.reduceLeDiff, Int.reduceToNat, Int.reduceAdd, Int.reduceSub, Int.reduceMul, Int.reduceNeg, Int.reduceEq, argEnv, aeval, get, put, ofVal, ofVals, List.map, cond_true, cond_false, Nat.reduceBEq, nexts, allocs, countAllocs, pad, Nat.reduceAdd, Nat.reduceMul, Nat.reduceSub, Nat.reduceLT, isVoid, aNilCheck, aExtract, aNilB, isNilD, notD, aCap, aClear, aAppendZ, aInt, aStr, aConv, aSlice, asNat?, cutTight, aIndexAddr, aFieldAddr, aField, aIndex, aLoad, aStore, aAlloc, aBox, aBuild, aBuildSlice, aMakeSlice, aLen, aMax, aMin, aAppend, aCopy, aBuiltin, TD.isSlice, TD.isAgg, TD.known, TD.isSeq, partD, partOb, cellsAt, Blk.cells, if_true, if_false, splice, fillD, dl, byteD, Int.reduceBEq, Int.reduceBNe, beq_self_eq_true, retQ, retK, resD, resL, andR, elemCells, isByte, chunk, reduceCtorEq, okVal, okCell, List.replicate, ne_eq, Nat.reduceEqDiff, headIds_cons, IntWalk.toNatUp]
    exact Sub.tup ⟨Sub.agg ⟨Sub.ownF GFile.d 3 _ lenF niF rfl rfl rfl, Sub.refl rfl, Sub.refl rfl, Sub.refl rfl, Sub.refl rfl, trivial⟩, Sub.int hr.symm, trivial⟩
  · have hy := change1_no d name _ ([.int .i64 n]) _ rfl hu hl hd hr
    obtain ⟨X, hX⟩ : ∃ X, changeM d (cutA d.files name n) = X := ⟨_, rfl⟩
    rw [hX] at hy hr ⊢
    refine callN [0, 1, 2] (.tup [X.1.d, .int .i64 X.2]) hy (by simp) (bnd_noIds _ _ (chNi _ _)) (by simp only [List.all_cons, List.all_nil, niBlk, niC]; rfl) (by simp only [List.all_cons, List.all_nil, niOut, niBlk, niC]; rfl) (by simp) ⟨rfl, rfl, rfl, trivial⟩ hb hm (ren_noIds _ _ (chNi _ _)) ?_
    simp (disch := (first | omega | (simp only [W0]; done) | (simp only [W0]; omega))) only [setAll, zerosD, GDisk.d, W1, ↓W2, unbyte, implies_true, ← List.map_take, ← List.map_drop, bne_self_eq_false, eqCells, flatTD, Nat.reducePow, ayield, eq_self, exists_eq_left', exists_eq_left, exists_eq', Int.reduceLE, Int.reduceLT, Nat.reduceLeDiff, Int.reduceToNat, Int.reduceAdd, Int.reduceSub, Int.reduceMul, Int.reduceNeg, Int.reduceEq, argEnv, aeval, get, put, ofVal, ofVals, List.map, cond_true, cond_false, Nat.reduceBEq, nexts, allocs, countAllocs, pad, Nat.reduceAdd, Nat.reduceMul, Nat.reduceSub, Nat.reduceLT, isVoid, aNilCheck, aExtract, aNilB, isNilD, notD, aCap, aClear, aAppendZ, aInt, aStr, aConv, aSlice, asNat?, cutTight, aIndexAddr, aFieldAddr, aField, aIndex, aLoad, aStore, aAlloc, aBox, aBuild, aBuildSlice, aMakeSlice, aLen, aMax, aMin, aAppend, aCopy, aBuiltin, TD.isSlice, TD.isAgg, TD.known, TD.isSeq, partD, partOb, cellsAt, Blk.cells, if_true, if_false, splice, fillD, dl, byteD, Int.reduceBEq, Int.reduceBNe, beq_self_eq_true, retQ, retK, resD, resL, andR, elemCells, isByte, chunk, reduceCtorEq, okVal, okCell, List.replicate, ne_eq, Nat.reduceEqDiff, headIds_cons, IntWalk.toNatUp]
    exact Sub.refl (chNi _ _)

theorem rename_wrap (d : GDisk) (name to : List UInt8) (hn : to.length ≤ reach) (hu : upF d.files) (hl : d.files.length ≤ 1000) (hk : okInt .i64 d.left ∧ 0 ≤ d.left) (hd : Does1 51 d.files name ([.str to]) (renameA d.files name to)) :
    PureF Try.prog 29 [d.d, .str name, .str to] (chD (changeM d (renameA d.files name to))) := by
  refine pureD (rs := [.cell 6 27, .tmp 7]) tyOk mixed Try.func29 (by decide) rfl rfl (Nat.le_of_ble_eq_true rfl) (by decide) ?_
  have hb : [d.d, .str name, .fn (.func 51) [.ptr 1 0]].all (D.bnd 3) = true := by
    simp only [List.all_cons, List.all_nil, bnd_noIds _ _ (GDisk.noIds d)]
    rfl
  have hm : [d.d, .str name, .fn (.func 51) [.ptr 1 0]] = [d.d, .str name, .fn (.func 51) [.ptr 1 0]].map (D.ren [0, 1, 2]) := by
    simp only [List.map_cons, List.map_nil, ren_noIds _ _ (GDisk.noIds d)]
    rfl
  simp (disch := (first | omega | (simp only [W0]; done) | (simp only [W0]; omega))) only [GDisk.d, W1, ↓W2, unbyte, implies_true, ← List.map_take, ← List.map_drop, bne_self_eq_false, eqCells, flatTD, Nat.reducePow, ayield, eq_self, exists_eq_left', exists_eq_left, exists_eq', Int.reduceLE, Int.reduceLT, Nat.reduceLeDiff, Int.reduceToNat, Int.reduceAdd, Int.reduceSub, Int.reduceMul, Int.reduceNeg, Int.reduceEq, argEnv, aeval, get, put, ofVal, ofVals, List.map, cond_true, cond_false, Nat.reduceBEq, nexts, allocs, countAllocs, pad, Nat.reduceAdd, Nat.reduceMul, Nat.reduceSub, Nat.reduceLT, isVoid, aNilCheck, aExtract, aNilB, isNilD, notD, aCap, aClear, aAppendZ, aInt, aStr, aConv, aSlice, asNat?, cutTight, aIndexAddr, aFieldAddr, aField, aIndex, aLoad, aStore, aAlloc, aBox, aBuild, aBuildSlice, aMakeSlice, aLen, aMax, aMin, aAppend, aCopy, aBuiltin, TD.isSlice, TD.isAgg, TD.known, TD.isSeq, partD, partOb, cellsAt, Blk.cells, if_true, if_false, splice, fillD, dl, byteD, Int.reduceBEq, Int.reduceBNe, beq_self_eq_true, retQ, retK, resD, resL, andR, elemCells, isByte, chunk, reduceCtorEq, okVal, okCell, List.replicate, ne_eq, Nat.reduceEqDiff, headIds_cons, IntWalk.toNatUp]
  by_cases hr : (changeM d (renameA d.files name to)).2 = 0
  · have hy := change1_yes d name _ ([.str to]) _ rfl hu hl hk hd hr
    obtain ⟨X, hX⟩ : ∃ X, changeM d (renameA d.files name to) = X := ⟨_, rfl⟩
    rw [hX] at hy hr ⊢
    refine callN [0, 1, 2] (.tup [.agg [.ref 3 0 X.1.files.length 3, .int .i64 X.1.cap, .bool X.1.armed, .int .i64 X.1.left, .bool X.1.down], .int .i64 0]) hy (by simp) rfl (by simp only [List.all_cons, List.all_nil, niBlk, niC]; rfl) (by simp only [List.all_cons, List.all_nil, niOut, niBlk, niC, fniF]; rfl) (by simp) ⟨rfl, rfl, rfl, trivial⟩ hb hm rfl ?_
    simp (disch := (first | omega | (simp only [W0]; done) | (simp only [W0]; omega))) only [setAll, zerosD, W1, ↓W2, unbyte, implies_true, ← List.map_take, ← List.map_drop, bne_self_eq_false, eqCells, flatTD, Nat.reducePow, ayield, eq_self, exists_eq_left', exists_eq_left, exists_eq', Int.reduceLE, Int.reduceLT, Nat.reduceLeDiff, Int.reduceToNat, Int.reduceAdd, Int.reduceSub, Int.reduceMul, Int.reduceNeg, Int.reduceEq, argEnv, aeval, get, put, ofVal, ofVals, List.map, cond_true, cond_false, Nat.reduceBEq, nexts, allocs, countAllocs, pad, Nat.reduceAdd, Nat.reduceMul, Nat.reduceSub, Nat.reduceLT, isVoid, aNilCheck, aExtract, aNilB, isNilD, notD, aCap, aClear, aAppendZ, aInt, aStr, aConv, aSlice, asNat?, cutTight, aIndexAddr, aFieldAddr, aField, aIndex, aLoad, aStore, aAlloc, aBox, aBuild, aBuildSlice, aMakeSlice, aLen, aMax, aMin, aAppend, aCopy, aBuiltin, TD.isSlice, TD.isAgg, TD.known, TD.isSeq, partD, partOb, cellsAt, Blk.cells, if_true, if_false, splice, fillD, dl, byteD, Int.reduceBEq, Int.reduceBNe, beq_self_eq_true, retQ, retK, resD, resL, andR, elemCells, isByte, chunk, reduceCtorEq, okVal, okCell, List.replicate, ne_eq, Nat.reduceEqDiff, headIds_cons, IntWalk.toNatUp]
    exact Sub.tup ⟨Sub.agg ⟨Sub.ownF GFile.d 3 _ lenF niF rfl rfl rfl, Sub.refl rfl, Sub.refl rfl, Sub.refl rfl, Sub.refl rfl, trivial⟩, Sub.int hr.symm, trivial⟩
  · have hy := change1_no d name _ ([.str to]) _ rfl hu hl hd hr
    obtain ⟨X, hX⟩ : ∃ X, changeM d (renameA d.files name to) = X := ⟨_, rfl⟩
    rw [hX] at hy hr ⊢
    refine callN [0, 1, 2] (.tup [X.1.d, .int .i64 X.2]) hy (by simp) (bnd_noIds _ _ (chNi _ _)) (by simp only [List.all_cons, List.all_nil, niBlk, niC]; rfl) (by simp only [List.all_cons, List.all_nil, niOut, niBlk, niC]; rfl) (by simp) ⟨rfl, rfl, rfl, trivial⟩ hb hm (ren_noIds _ _ (chNi _ _)) ?_
    simp (disch := (first | omega | (simp only [W0]; done) | (simp only [W0]; omega))) only [setAll, zerosD, GDisk.d, W1, ↓W2, unbyte, implies_true, ← List.map_take, ← List.map_drop, bne_self_eq_false, eqCells, flatTD, Nat.reducePow, ayield, eq_self, exists_eq_left', exists_eq_left, exists_eq', Int.reduceLE, Int.reduceLT, Nat.reduceLeDiff, Int.reduceToNat, Int.reduceAdd, Int.reduceSub, Int.reduceMul, Int.reduceNeg, Int.reduceEq, argEnv, aeval, get, put, ofVal, ofVals, List.map, cond_true, cond_false, Nat.reduceBEq, nexts, allocs, countAllocs, pad, Nat.reduceAdd, Nat.reduceMul, Nat.reduceSub, Nat.reduceLT, isVoid, aNilCheck, aExtract, aNilB, isNilD, notD, aCap, aClear, aAppendZ, aInt, aStr, aConv, aSlice, asNat?, cutTight, aIndexAddr, aFieldAddr, aField, aIndex, aLoad, aStore, aAlloc, aBox, aBuild, aBuildSlice, aMakeSlice, aLen, aMax, aMin, aAppend, aCopy, aBuiltin, TD.isSlice, TD.isAgg, TD.known, TD.isSeq, partD, partOb, cellsAt, Blk.cells, if_true, if_false, splice, fillD, dl, byteD, Int.reduceBEq, Int.reduceBNe, beq_self_eq_true, retQ, retK, resD, resL, andR, elemCells, isByte, chunk, reduceCtorEq, okVal, okCell, List.replicate, ne_eq, Nat.reduceEqDiff, headIds_cons, IntWalk.toNatUp]
    exact Sub.refl (chNi _ _)

theorem delete_wrap (d : GDisk) (name : List UInt8) (hu : upF d.files) (hl : d.files.length ≤ 1000) (hk : okInt .i64 d.left ∧ 0 ≤ d.left) (hd : Does0 53 d.files name (deleteA d.files name)) :
    PureF Try.prog 30 [d.d, .str name] (chD (changeM d (deleteA d.files name))) := by
  refine pureD (rs := [.cell 4 27, .tmp 5]) tyOk mixed Try.func30 (by decide) rfl rfl (Nat.le_of_ble_eq_true rfl) (by decide) ?_
  have hb : [d.d, .str name, .fn (.func 53) []].all (D.bnd 2) = true := by
    simp only [List.all_cons, List.all_nil, bnd_noIds _ _ (GDisk.noIds d)]
    rfl
  have hm : [d.d, .str name, .fn (.func 53) []] = [d.d, .str name, .fn (.func 53) []].map (D.ren [0, 1]) := by
    simp only [List.map_cons, List.map_nil, ren_noIds _ _ (GDisk.noIds d)]
    rfl
  simp (disch := (first | omega | (simp only [W0]; done) | (simp only [W0]; omega))) only [GDisk.d, W1, ↓W2, unbyte, implies_true, ← List.map_take, ← List.map_drop, bne_self_eq_false, eqCells, flatTD, Nat.reducePow, ayield, eq_self, exists_eq_left', exists_eq_left, exists_eq', Int.reduceLE, Int.reduceLT, Nat.reduceLeDiff, Int.reduceToNat, Int.reduceAdd, Int.reduceSub, Int.reduceMul, Int.reduceNeg, Int.reduceEq, argEnv, aeval, get, put, ofVal, ofVals, List.map, cond_true, cond_false, Nat.reduceBEq, nexts, allocs, countAllocs, pad, Nat.reduceAdd, Nat.reduceMul, Nat.reduceSub, Nat.reduceLT, isVoid, aNilCheck, aExtract, aNilB, isNilD, notD, aCap, aClear, aAppendZ, aInt, aStr, aConv, aSlice, asNat?, cutTight, aIndexAddr, aFieldAddr, aField, aIndex, aLoad, aStore, aAlloc, aBox, aBuild, aBuildSlice, aMakeSlice, aLen, aMax, aMin, aAppend, aCopy, aBuiltin, TD.isSlice, TD.isAgg, TD.known, TD.isSeq, partD, partOb, cellsAt, Blk.cells, if_true, if_false, splice, fillD, dl, byteD, Int.reduceBEq, Int.reduceBNe, beq_self_eq_true, retQ, retK, resD, resL, andR, elemCells, isByte, chunk, reduceCtorEq, okVal, okCell, List.replicate, ne_eq, Nat.reduceEqDiff, headIds_cons, IntWalk.toNatUp]
  by_cases hr : (changeM d (deleteA d.files name)).2 = 0
  · have hy := change0_yes d name _ _ hu hl hk hd hr
    obtain ⟨X, hX⟩ : ∃ X, changeM d (deleteA d.files name) = X := ⟨_, rfl⟩
    rw [hX] at hy hr ⊢
    refine callN [0, 1] (.tup [.agg [.ref 2 0 X.1.files.length 3, .int .i64 X.1.cap, .bool X.1.armed, .int .i64 X.1.left, .bool X.1.down], .int .i64 0]) hy (by simp) rfl (by simp only [List.all_cons, List.all_nil, niBlk, niC]; rfl) (by simp only [List.all_cons, List.all_nil, niOut, niBlk, niC, fniF]; rfl) (by simp) ⟨rfl, rfl, trivial⟩ hb hm rfl ?_
    simp (disch := (first | omega | (simp only [W0]; done) | (simp only [W0]; omega))) only [setAll, zerosD, W1, ↓W2, unbyte, implies_true, ← List.map_take, ← List.map_drop, bne_self_eq_false, eqCells, flatTD, Nat.reducePow, ayield, eq_self, exists_eq_left', exists_eq_left, exists_eq', Int.reduceLE, Int.reduceLT, Nat.reduceLeDiff, Int.reduceToNat, Int.reduceAdd, Int.reduceSub, Int.reduceMul, Int.reduceNeg, Int.reduceEq, argEnv, aeval, get, put, ofVal, ofVals, List.map, cond_true, cond_false, Nat.reduceBEq, nexts, allocs, countAllocs, pad, Nat.reduceAdd, Nat.reduceMul, Nat.reduceSub, Nat.reduceLT, isVoid, aNilCheck, aExtract, aNilB, isNilD, notD, aCap, aClear, aAppendZ, aInt, aStr, aConv, aSlice, asNat?, cutTight, aIndexAddr, aFieldAddr, aField, aIndex, aLoad, aStore, aAlloc, aBox, aBuild, aBuildSlice, aMakeSlice, aLen, aMax, aMin, aAppend, aCopy, aBuiltin, TD.isSlice, TD.isAgg, TD.known, TD.isSeq, partD, partOb, cellsAt, Blk.cells, if_true, if_false, splice, fillD, dl, byteD, Int.reduceBEq, Int.reduceBNe, beq_self_eq_true, retQ, retK, resD, resL, andR, elemCells, isByte, chunk, reduceCtorEq, okVal, okCell, List.replicate, ne_eq, Nat.reduceEqDiff, headIds_cons, IntWalk.toNatUp]
    exact Sub.tup ⟨Sub.agg ⟨Sub.ownF GFile.d 3 _ lenF niF rfl rfl rfl, Sub.refl rfl, Sub.refl rfl, Sub.refl rfl, Sub.refl rfl, trivial⟩, Sub.int hr.symm, trivial⟩
  · have hy := change0_no d name _ _ hu hl hd hr
    obtain ⟨X, hX⟩ : ∃ X, changeM d (deleteA d.files name) = X := ⟨_, rfl⟩
    rw [hX] at hy hr ⊢
    refine callN [0, 1] (.tup [X.1.d, .int .i64 X.2]) hy (by simp) (bnd_noIds _ _ (chNi _ _)) (by simp only [List.all_cons, List.all_nil, niBlk, niC]; rfl) (by simp only [List.all_cons, List.all_nil, niOut, niBlk, niC]; rfl) (by simp) ⟨rfl, rfl, trivial⟩ hb hm (ren_noIds _ _ (chNi _ _)) ?_
    simp (disch := (first | omega | (simp only [W0]; done) | (simp only [W0]; omega))) only [setAll, zerosD, GDisk.d, W1, ↓W2, unbyte, implies_true, ← List.map_take, ← List.map_drop, bne_self_eq_false, eqCells, flatTD, Nat.reducePow, ayield, eq_self, exists_eq_left', exists_eq_left, exists_eq', Int.reduceLE, Int.reduceLT, Nat.reduceLeDiff, Int.reduceToNat, Int.reduceAdd, Int.reduceSub, Int.reduceMul, Int.reduceNeg, Int.reduceEq, argEnv, aeval, get, put, ofVal, ofVals, List.map, cond_true, cond_false, Nat.reduceBEq, nexts, allocs, countAllocs, pad, Nat.reduceAdd, Nat.reduceMul, Nat.reduceSub, Nat.reduceLT, isVoid, aNilCheck, aExtract, aNilB, isNilD, notD, aCap, aClear, aAppendZ, aInt, aStr, aConv, aSlice, asNat?, cutTight, aIndexAddr, aFieldAddr, aField, aIndex, aLoad, aStore, aAlloc, aBox, aBuild, aBuildSlice, aMakeSlice, aLen, aMax, aMin, aAppend, aCopy, aBuiltin, TD.isSlice, TD.isAgg, TD.known, TD.isSeq, partD, partOb, cellsAt, Blk.cells, if_true, if_false, splice, fillD, dl, byteD, Int.reduceBEq, Int.reduceBNe, beq_self_eq_true, retQ, retK, resD, resL, andR, elemCells, isByte, chunk, reduceCtorEq, okVal, okCell, List.replicate, ne_eq, Nat.reduceEqDiff, headIds_cons, IntWalk.toNatUp]
    exact Sub.refl (chNi _ _)

end Go.Proofs.Ytlkffgmejcgdbaa
