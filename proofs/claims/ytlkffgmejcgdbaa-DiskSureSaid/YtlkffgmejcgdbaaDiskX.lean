/- The laws of a disk: what is sure stays. -/
import Derived.Test.YtlkffgmejcgdbaaDiskL
namespace Go.Proofs.Ytlkffgmejcgdbaa
set_option linter.all false
-- bundled

set_option maxRecDepth 100000
set_option pp.deepTerms.threshold 50

/-- What is sure of a file stands at its beginning still. -/
def Kept (f : GFile) (l : List GFile) : Prop := ∃ g, getF l f.name = some g ∧ f.sure ≤ g.data.length ∧ g.data.take f.sure.toNat = f.data.take f.sure.toNat
theorem kept_self {n : Nat} {l : List GFile} (h : FineL n l) {f : GFile} (hf : f ∈ l) : Kept f l := ⟨f, get_self h.up hf, (h.got (get_self h.up hf)).2.2.2.1, rfl⟩
theorem kept_change {d : GDisk} {R : List GFile × Int} {f : GFile} (h : Kept f d.files) (hR : R.2 = 0 → Kept f R.1) : Kept f (changeM d R).1.files := by
  unfold changeM
  cases h1 : d.down
  case true => exact h
  cases h2 : (R.2 == 0)
  case false => exact h
  have h2' : R.2 = 0 := by simpa using h2
  cases h3 : d.armed
  case false => exact hR h2'
  cases h4 : (d.left == 0)
  case true => exact h
  exact hR h2'
theorem crash_get : ∀ (l : List GFile) (k : List Int) (i : Nat) (hi : i < l.length) (hi2 : i < (crashF l k).length), (crashF l k)[i] = crash1 l[i] (k.getD i 0)
  | [], _, i, hi, _ => absurd hi (Nat.not_lt_zero i)
  | f :: l, k, 0, _, _ => by cases k <;> rfl
  | f :: l, k, i + 1, hi, hi2 => by
    have h := crash_get l k.tail i (by simpa using hi) (by rw [crashF_len]; simpa using hi)
    have e : (crashF (f :: l) k)[i + 1] = (crashF l k.tail)[i]'(by rw [crashF_len]; simpa using hi) := rfl
    rw [e, h, List.getElem_cons_succ]
    cases k <;> rfl
theorem kept_do {n : Nat} {d : GDisk} (h : Fine n d) {a : GAct} (hk : ¬ (3 ≤ a.kind ∧ a.kind ≤ 5)) {f : GFile} (hf : f ∈ d.files) : Kept f (doM d a).1.files := by
  have hself := kept_self h.files hf
  have hgs := get_self h.files.up hf
  have hgot := h.files.got hgs
  have hup := h.files.up
  by_cases k0 : a.kind = 0
  · rw [do_act (by omega)]
    refine kept_change hself fun hR => ?_
    unfold actA at hR ⊢
    rw [if_pos k0] at hR ⊢
    unfold createA at hR ⊢
    cases h1 : namedB a.name
    · rw [h1] at hR; exact absurd hR (show ¬ (1 : Int) = 0 by decide)
    cases h2 : getF d.files a.name with
    | some g => rw [h1, h2] at hR; exact absurd hR (show ¬ (8 : Int) = 0 by decide)
    | none =>
      show Kept f (withF d.files ⟨a.name, [], 0⟩)
      refine ⟨f, ?_, hgot.2.2.2.1, rfl⟩
      rw [get_with hup, if_neg, hgs]
      intro e
      dsimp only at e
      rw [e, hgs] at h2
      cases h2
  by_cases k1 : a.kind = 1
  · rw [do_act (by omega)]
    refine kept_change hself fun hR => ?_
    unfold actA at hR ⊢
    rw [if_neg k0, if_pos k1] at hR ⊢
    unfold appendA at hR ⊢
    cases h2 : getF d.files a.name with
    | none => rw [h2] at hR; exact absurd hR (show ¬ (7 : Int) = 0 by decide)
    | some g =>
      rw [h2] at hR
      dsimp only at hR ⊢
      split at hR
      · exact absurd hR (show ¬ (9 : Int) = 0 by decide)
      · rename_i h3
        rw [if_neg h3]
        dsimp only
        by_cases e : g.name = f.name
        · have hg := (get_mem h2).2
          have : g = f := by
            rw [← hg, e, hgs] at h2
            exact (Option.some.inj h2).symm
          subst this
          refine ⟨_, by rw [get_with hup, if_pos rfl], ?_, ?_⟩
          · simp only [List.length_append]; omega
          · dsimp only
            rw [List.take_append_of_le_length (by omega)]
        · refine ⟨f, ?_, hgot.2.2.2.1, rfl⟩
          rw [get_with hup, if_neg e, hgs]
  by_cases k2 : a.kind = 2
  · rw [do_act (by omega)]
    refine kept_change hself fun hR => ?_
    unfold actA at hR ⊢
    rw [if_neg k0, if_neg k1, if_pos k2] at hR ⊢
    unfold syncA at hR ⊢
    cases h2 : getF d.files a.name with
    | none => rw [h2] at hR; exact absurd hR (show ¬ (7 : Int) = 0 by decide)
    | some g =>
      dsimp only
      by_cases e : g.name = f.name
      · have hg := (get_mem h2).2
        have : g = f := by
          rw [← hg, e, hgs] at h2
          exact (Option.some.inj h2).symm
        subst this
        refine ⟨_, by rw [get_with hup, if_pos rfl], ?_, ?_⟩
        · exact hgot.2.2.2.1
        · rfl
      · refine ⟨f, ?_, hgot.2.2.2.1, rfl⟩
        rw [get_with hup, if_neg e, hgs]
  by_cases k6 : a.kind = 6
  · rw [do_arm k6]
    exact hself
  by_cases k7 : a.kind = 7
  · rw [do_limit k7]
    exact hself
  rw [do_crash (by omega)]
  show Kept f (crashF d.files a.keep)
  obtain ⟨i, hi, rfl⟩ := List.mem_iff_getElem.1 hf
  have hi2 : i < (crashF d.files a.keep).length := by rw [crashF_len]; exact hi
  have hg := crash_get d.files a.keep i hi hi2
  have hm : crash1 d.files[i] (a.keep.getD i 0) ∈ crashF d.files a.keep := hg ▸ List.getElem_mem hi2
  have ho := crash1_ok (h.files.ok _ hf) (a.keep.getD i 0)
  obtain ⟨c1, c2, c3, c4, c5⟩ := ho
  refine ⟨crash1 d.files[i] (a.keep.getD i 0), get_self (f := crash1 d.files[i] (a.keep.getD i 0)) (crash_up _ a.keep hup) hm, by omega, ?_⟩
  rw [c5, List.take_take, Nat.min_eq_left (by omega)]
theorem kept_read {f : GFile} {l : List GFile} (h : Kept f l) : (readM l f.name).2 = 0 ∧ f.sure ≤ (readM l f.name).1.length ∧ (readM l f.name).1.take f.sure.toNat = f.data.take f.sure.toNat := by
  obtain ⟨g, h1, h2, h3⟩ := h
  unfold readM
  rw [h1]
  exact ⟨rfl, h2, h3⟩
theorem crash1_again {f : GFile} (h : okFB f = true) (c c' : Int) : crash1 (crash1 f c) c' = crash1 f c := by
  obtain ⟨h1, h2, h3, h4, h5⟩ := crash1_ok h c
  obtain ⟨Y, hY⟩ : ∃ Y, crash1 f c = Y := ⟨_, rfl⟩
  rw [hY] at h3 ⊢
  have e : max 0 (min c' ((Y.data.length : Int) - Y.sure)) = 0 := by omega
  unfold crash1
  rw [e, Int.add_zero, h3, Int.toNat_natCast, List.take_length, ← h3]
theorem crash_again : ∀ (l : List GFile) (k : List Int), (∀ f, f ∈ l → okFB f = true) → crashF (crashF l k) k = crashF l k
  | [], _, _ => rfl
  | f :: l, k, h => by
    have h1 := crash1_again (h f (by simp)) (k.headD 0) (k.headD 0)
    have h2 := crash_again l k.tail fun g hg => h g (List.mem_cons_of_mem _ hg)
    show crash1 (crash1 f (k.headD 0)) (k.headD 0) :: crashF (crashF l k.tail) k.tail = _
    rw [h1, h2]
    rfl

theorem diskSure (l : List GAct) (keep : List Int) (hl : okL GAct.ok l) (hkp : okL (okInt .i64) keep) : PureF Try.prog 4 [dl 5 GAct.d l, dl 1 (D.int .i64) keep] (.bool true) := by
  refine pureD (rs := [.tmp 4]) tyOk mixed Try.func4 (by decide) rfl rfl (Nat.le_of_ble_eq_true rfl) (by decide) ?_
  have hs := short_ok l hl
  simp only [dl] at hs
  simp (disch := (first | omega | (simp only [W0]; done) | (simp only [W0]; omega))) only [W1, ↓W2, unbyte, implies_true, ← List.map_take, ← List.map_drop, bne_self_eq_false, eqCells, flatTD, Nat.reducePow, ayield, eq_self, exists_eq_left', exists_eq_left, exists_eq', Int.reduceLE, Int.reduceLT, Nat.reduceLeDiff, Int.reduceToNat, Int.reduceAdd, Int.reduceSub, Int.reduceMul, Int.reduceNeg, Int.reduceEq, argEnv, aeval, get, put, ofVal, ofVals, List.map, cond_true, cond_false, Nat.reduceBEq, nexts, allocs, countAllocs, pad, Nat.reduceAdd, Nat.reduceMul, Nat.reduceSub, Nat.reduceLT, isVoid, aNilCheck, aExtract, aNilB, isNilD, notD, aCap, aClear, aAppendZ, aInt, aStr, aConv, aSlice, asNat?, cutTight, aIndexAddr, aFieldAddr, aField, aIndex, aLoad, aStore, aAlloc, aBox, aBuild, aBuildSlice, aMakeSlice, aLen, aMax, aMin, aAppend, aCopy, aBuiltin, TD.isSlice, TD.isAgg, TD.known, TD.isSeq, partD, partOb, cellsAt, Blk.cells, if_true, if_false, splice, fillD, dl, byteD, Int.reduceBEq, Int.reduceBNe, beq_self_eq_true, retQ, retK, resD, resL, andR, elemCells, isByte, chunk, reduceCtorEq, okVal, okCell, List.replicate, ne_eq, Nat.reduceEqDiff, headIds_cons, IntWalk.toNatUp]
  refine callP hs (aniL5 _) ?_
  cases c0 : shortL l
  · simp (disch := (first | omega | (simp only [W0]; done) | (simp only [W0]; omega))) only [W1, ↓W2, unbyte, implies_true, ← List.map_take, ← List.map_drop, bne_self_eq_false, eqCells, flatTD, Nat.reducePow, ayield, eq_self, exists_eq_left', exists_eq_left, exists_eq', Int.reduceLE, Int.reduceLT, Nat.reduceLeDiff, Int.reduceToNat, Int.reduceAdd, Int.reduceSub, Int.reduceMul, Int.reduceNeg, Int.reduceEq, argEnv, aeval, get, put, ofVal, ofVals, List.map, cond_true, cond_false, Nat.reduceBEq, nexts, allocs, countAllocs, pad, Nat.reduceAdd, Nat.reduceMul, Nat.reduceSub, Nat.reduceLT, isVoid, aNilCheck, aExtract, aNilB, isNilD, notD, aCap, aClear, aAppendZ, aInt, aStr, aConv, aSlice, asNat?, cutTight, aIndexAddr, aFieldAddr, aField, aIndex, aLoad, aStore, aAlloc, aBox, aBuild, aBuildSlice, aMakeSlice, aLen, aMax, aMin, aAppend, aCopy, aBuiltin, TD.isSlice, TD.isAgg, TD.known, TD.isSeq, partD, partOb, cellsAt, Blk.cells, if_true, if_false, splice, fillD, dl, byteD, Int.reduceBEq, Int.reduceBNe, beq_self_eq_true, retQ, retK, resD, resL, andR, elemCells, isByte, chunk, reduceCtorEq, okVal, okCell, List.replicate, ne_eq, Nat.reduceEqDiff, headIds_cons, IntWalk.toNatUp]
    refine callP awake06 rfl ?_
    simp (disch := (first | omega | (simp only [W0]; done) | (simp only [W0]; omega))) only [W1, ↓W2, unbyte, implies_true, ← List.map_take, ← List.map_drop, bne_self_eq_false, eqCells, flatTD, Nat.reducePow, ayield, eq_self, exists_eq_left', exists_eq_left, exists_eq', Int.reduceLE, Int.reduceLT, Nat.reduceLeDiff, Int.reduceToNat, Int.reduceAdd, Int.reduceSub, Int.reduceMul, Int.reduceNeg, Int.reduceEq, argEnv, aeval, get, put, ofVal, ofVals, List.map, cond_true, cond_false, Nat.reduceBEq, nexts, allocs, countAllocs, pad, Nat.reduceAdd, Nat.reduceMul, Nat.reduceSub, Nat.reduceLT, isVoid, aNilCheck, aExtract, aNilB, isNilD, notD, aCap, aClear, aAppendZ, aInt, aStr, aConv, aSlice, asNat?, cutTight, aIndexAddr, aFieldAddr, aField, aIndex, aLoad, aStore, aAlloc, aBox, aBuild, aBuildSlice, aMakeSlice, aLen, aMax, aMin, aAppend, aCopy, aBuiltin, TD.isSlice, TD.isAgg, TD.known, TD.isSeq, partD, partOb, cellsAt, Blk.cells, if_true, if_false, splice, fillD, dl, byteD, Int.reduceBEq, Int.reduceBNe, beq_self_eq_true, retQ, retK, resD, resL, andR, elemCells, isByte, chunk, reduceCtorEq, okVal, okCell, List.replicate, ne_eq, Nat.reduceEqDiff, headIds_cons, IntWalk.toNatUp]
    exact Sub.refl rfl
  obtain ⟨hll, hsa⟩ := short_iff c0 hl
  simp (disch := (first | omega | (simp only [W0]; done) | (simp only [W0]; omega))) only [W1, ↓W2, unbyte, implies_true, ← List.map_take, ← List.map_drop, bne_self_eq_false, eqCells, flatTD, Nat.reducePow, ayield, eq_self, exists_eq_left', exists_eq_left, exists_eq', Int.reduceLE, Int.reduceLT, Nat.reduceLeDiff, Int.reduceToNat, Int.reduceAdd, Int.reduceSub, Int.reduceMul, Int.reduceNeg, Int.reduceEq, argEnv, aeval, get, put, ofVal, ofVals, List.map, cond_true, cond_false, Nat.reduceBEq, nexts, allocs, countAllocs, pad, Nat.reduceAdd, Nat.reduceMul, Nat.reduceSub, Nat.reduceLT, isVoid, aNilCheck, aExtract, aNilB, isNilD, notD, aCap, aClear, aAppendZ, aInt, aStr, aConv, aSlice, asNat?, cutTight, aIndexAddr, aFieldAddr, aField, aIndex, aLoad, aStore, aAlloc, aBox, aBuild, aBuildSlice, aMakeSlice, aLen, aMax, aMin, aAppend, aCopy, aBuiltin, TD.isSlice, TD.isAgg, TD.known, TD.isSeq, partD, partOb, cellsAt, Blk.cells, if_true, if_false, splice, fillD, dl, byteD, Int.reduceBEq, Int.reduceBNe, beq_self_eq_true, retQ, retK, resD, resL, andR, elemCells, isByte, chunk, reduceCtorEq, okVal, okCell, List.replicate, ne_eq, Nat.reduceEqDiff, headIds_cons, IntWalk.toNatUp]
  refine loopR (fun i : Nat => [(0, .sl 5 (l.map GAct.d) false), (1, .sl 1 (keep.map (D.int .i64)) false), (5, .ptr 0 0), (6, .int .i64 i)]) (fun i => [.live (cD (stP l i))]) (fun i => i ≤ l.length) (fun i => l.length - i) 0 (Nat.zero_le _) ?_ ?_
  · refine fitsL ?_ ?_
    · simp only [leEnv_nil', leEnv_cons', leD_self, leD_nilref, leD_nilsl, leD_uncap, leD_loose, le1_self, le1_nilref, le1_nilsl, leC_nil', leC_cons', leB_self, leB_live', leH_nil', leH_cons', get, cond_true, cond_false, Nat.reduceBEq, List.replicate, List.cons_append, List.nil_append, and_self, List.map_nil, List.length_nil, List.take_zero, List.flatMap_nil, Int.natCast_zero]
    · simp only [leEnv_nil', leEnv_cons', leD_self, leD_nilref, leD_nilsl, leD_uncap, leD_loose, le1_self, le1_nilref, le1_nilsl, leC_nil', leC_cons', leB_self, leB_live', leH_nil', leH_cons', get, cond_true, cond_false, Nat.reduceBEq, List.replicate, List.cons_append, List.nil_append, and_self, List.map_nil, List.length_nil, List.take_zero, List.flatMap_nil, cD, stP, zeroDisk, List.map_nil]
  intro i hi
  have hF := stP_fine hsa i hi
  obtain ⟨d, hd⟩ : ∃ d, stP l i = d := ⟨_, rfl⟩
  rw [hd] at hF
  have hdl : d.files.length ≤ 60 := by have := hF.files.len; omega
  cases h1 : decide ((i : Int) < (l.length : Int))
  · have g1 := crash_ok d keep (by omega) hkp (hF.data (by omega)) hF.files.ok
    have n1 : [d.d, dl 1 (D.int .i64) keep].all D.noIds = true := by simp only [List.all_cons, List.all_nil, GDisk.noIds, dl, ni_sl, noL _ (ni_int _), Bool.and_self]
    have hFc : Fine i (crashM d keep) := ⟨crash_fine hF.files keep, hF.cap, (show okInt .i64 0 ∧ (0 : Int) ≤ 0 from ⟨⟨by decide, by decide⟩, by decide⟩)⟩
    have g2 := crash_ok (crashM d keep) keep (by have := hFc.files.len; omega) hkp (hFc.data (by omega)) hFc.files.ok
    have hagain : crashM (crashM d keep) keep = crashM d keep := by
      show (⟨crashF (crashF d.files keep) keep, d.cap, false, 0, false⟩ : GDisk) = ⟨crashF d.files keep, d.cap, false, 0, false⟩
      rw [crash_again _ _ hF.files.ok]
    rw [hagain] at g2
    have g3 := same_refl (crashM d keep) (by have := hFc.files.len; omega)
    have n2 : [(crashM d keep).d, dl 1 (D.int .i64) keep].all D.noIds = true := by simp only [List.all_cons, List.all_nil, GDisk.noIds, dl, ni_sl, noL _ (ni_int _), Bool.and_self]
    have n3 := ani2 (crashM d keep) (crashM d keep)
    obtain ⟨C, hC⟩ : ∃ C, crashF d.files keep = C := ⟨_, rfl⟩
    have hCl : C.length = d.files.length := by rw [← hC, crashF_len]
    have eC : (crashM d keep) = ⟨C, d.cap, false, 0, false⟩ := by unfold crashM; rw [hC]
    rw [eC] at g1 g2 g3 n2 n3
    simp only [GDisk.d, dl] at g1 g2 g3 n1 n2 n3
    simp (disch := (first | omega | (simp only [W0]; done) | (simp only [W0]; omega))) only [h1, hd, cD, W1, ↓W2, unbyte, implies_true, ← List.map_take, ← List.map_drop, bne_self_eq_false, eqCells, flatTD, Nat.reducePow, ayield, eq_self, exists_eq_left', exists_eq_left, exists_eq', Int.reduceLE, Int.reduceLT, Nat.reduceLeDiff, Int.reduceToNat, Int.reduceAdd, Int.reduceSub, Int.reduceMul, Int.reduceNeg, Int.reduceEq, argEnv, aeval, get, put, ofVal, ofVals, List.map, cond_true, cond_false, Nat.reduceBEq, nexts, allocs, countAllocs, pad, Nat.reduceAdd, Nat.reduceMul, Nat.reduceSub, Nat.reduceLT, isVoid, aNilCheck, aExtract, aNilB, isNilD, notD, aCap, aClear, aAppendZ, aInt, aStr, aConv, aSlice, asNat?, cutTight, aIndexAddr, aFieldAddr, aField, aIndex, aLoad, aStore, aAlloc, aBox, aBuild, aBuildSlice, aMakeSlice, aLen, aMax, aMin, aAppend, aCopy, aBuiltin, TD.isSlice, TD.isAgg, TD.known, TD.isSeq, partD, partOb, cellsAt, Blk.cells, if_true, if_false, splice, fillD, dl, byteD, Int.reduceBEq, Int.reduceBNe, beq_self_eq_true, retQ, retK, resD, resL, andR, elemCells, isByte, chunk, reduceCtorEq, okVal, okCell, List.replicate, ne_eq, Nat.reduceEqDiff, headIds_cons, IntWalk.toNatUp]
    refine callP g1 n1 ?_
    simp (disch := (first | omega | (simp only [W0]; done) | (simp only [W0]; omega))) only [hCl, bne_self_eq_false, W1, ↓W2, unbyte, implies_true, ← List.map_take, ← List.map_drop, bne_self_eq_false, eqCells, flatTD, Nat.reducePow, ayield, eq_self, exists_eq_left', exists_eq_left, exists_eq', Int.reduceLE, Int.reduceLT, Nat.reduceLeDiff, Int.reduceToNat, Int.reduceAdd, Int.reduceSub, Int.reduceMul, Int.reduceNeg, Int.reduceEq, argEnv, aeval, get, put, ofVal, ofVals, List.map, cond_true, cond_false, Nat.reduceBEq, nexts, allocs, countAllocs, pad, Nat.reduceAdd, Nat.reduceMul, Nat.reduceSub, Nat.reduceLT, isVoid, aNilCheck, aExtract, aNilB, isNilD, notD, aCap, aClear, aAppendZ, aInt, aStr, aConv, aSlice, asNat?, cutTight, aIndexAddr, aFieldAddr, aField, aIndex, aLoad, aStore, aAlloc, aBox, aBuild, aBuildSlice, aMakeSlice, aLen, aMax, aMin, aAppend, aCopy, aBuiltin, TD.isSlice, TD.isAgg, TD.known, TD.isSeq, partD, partOb, cellsAt, Blk.cells, if_true, if_false, splice, fillD, dl, byteD, Int.reduceBEq, Int.reduceBNe, beq_self_eq_true, retQ, retK, resD, resL, andR, elemCells, isByte, chunk, reduceCtorEq, okVal, okCell, List.replicate, ne_eq, Nat.reduceEqDiff, headIds_cons, IntWalk.toNatUp]
    have hdn := niC' d
    have hcn := niC' ⟨C, d.cap, false, 0, false⟩
    dsimp only at hcn
    refine loopR (fun k : Nat => [(1, .sl 1 (keep.map (D.int .i64)) false), (5, .ptr 0 0), (13, .ptr 1 0), (14, .int .i64 k)]) (fun _ => [.live [D.sl 3 (d.files.map GFile.d) false, D.int .i64 d.cap, D.bool d.armed, D.int .i64 d.left, D.bool d.down], .live [D.sl 3 (C.map GFile.d) false, D.int .i64 d.cap, D.bool false, D.int .i64 0, D.bool false]]) (fun k => k ≤ d.files.length) (fun k => d.files.length - k) 0 (Nat.zero_le _) ?_ ?_
    · refine fitsR [0, 1] ?_ ?_ (by simp [liveIds]) rfl
      · simp only [Int.natCast_add, Int.cast_ofNat_Int, fe_nil, fe_data, fe_ref, fe_refc, fe_ptr, fh_nil, fh_dead, fh_live, fh_froz, liveIds, ni_int, ni_bool, ni_str, ni_agg, ni_nil, ni_sl, ni_cp, ni_nilp, ni_fn, ni_nilf, ni_tup, ni_niface, ni_iface, ni_nilL, ni_consL, Bool.and_self, List.length_cons, List.length_nil, get, cond_true, cond_false, Nat.reduceBEq, List.getElem?_cons_zero, List.getElem?_cons_succ, true_and, and_true, eq_self, List.getD_cons_zero, List.getD_cons_succ, Nat.reduceAdd, Nat.reduceLT, noL _ (ni_int _), Int.natCast_zero]
      · rw [fh_live _ _ _ _ _ _ hdn, fh_live _ _ _ _ _ _ hcn]
        exact ⟨rfl, rfl, trivial⟩
    intro k hk
    cases h2 : decide ((k : Int) < (d.files.length : Int))
    · simp (disch := (first | omega | (simp only [W0]; done) | (simp only [W0]; omega))) only [hCl, h2, W1, ↓W2, unbyte, implies_true, ← List.map_take, ← List.map_drop, bne_self_eq_false, eqCells, flatTD, Nat.reducePow, ayield, eq_self, exists_eq_left', exists_eq_left, exists_eq', Int.reduceLE, Int.reduceLT, Nat.reduceLeDiff, Int.reduceToNat, Int.reduceAdd, Int.reduceSub, Int.reduceMul, Int.reduceNeg, Int.reduceEq, argEnv, aeval, get, put, ofVal, ofVals, List.map, cond_true, cond_false, Nat.reduceBEq, nexts, allocs, countAllocs, pad, Nat.reduceAdd, Nat.reduceMul, Nat.reduceSub, Nat.reduceLT, isVoid, aNilCheck, aExtract, aNilB, isNilD, notD, aCap, aClear, aAppendZ, aInt, aStr, aConv, aSlice, asNat?, cutTight, aIndexAddr, aFieldAddr, aField, aIndex, aLoad, aStore, aAlloc, aBox, aBuild, aBuildSlice, aMakeSlice, aLen, aMax, aMin, aAppend, aCopy, aBuiltin, TD.isSlice, TD.isAgg, TD.known, TD.isSeq, partD, partOb, cellsAt, Blk.cells, if_true, if_false, splice, fillD, dl, byteD, Int.reduceBEq, Int.reduceBNe, beq_self_eq_true, retQ, retK, resD, resL, andR, elemCells, isByte, chunk, reduceCtorEq, okVal, okCell, List.replicate, ne_eq, Nat.reduceEqDiff, headIds_cons, IntWalk.toNatUp]
      refine draw_fast 0 ?_ ?_
      · decide +kernel
      simp (disch := (first | omega | (simp only [W0]; done) | (simp only [W0]; omega))) only [W1, ↓W2, unbyte, implies_true, ← List.map_take, ← List.map_drop, bne_self_eq_false, eqCells, flatTD, Nat.reducePow, ayield, eq_self, exists_eq_left', exists_eq_left, exists_eq', Int.reduceLE, Int.reduceLT, Nat.reduceLeDiff, Int.reduceToNat, Int.reduceAdd, Int.reduceSub, Int.reduceMul, Int.reduceNeg, Int.reduceEq, argEnv, aeval, get, put, ofVal, ofVals, List.map, cond_true, cond_false, Nat.reduceBEq, nexts, allocs, countAllocs, pad, Nat.reduceAdd, Nat.reduceMul, Nat.reduceSub, Nat.reduceLT, isVoid, aNilCheck, aExtract, aNilB, isNilD, notD, aCap, aClear, aAppendZ, aInt, aStr, aConv, aSlice, asNat?, cutTight, aIndexAddr, aFieldAddr, aField, aIndex, aLoad, aStore, aAlloc, aBox, aBuild, aBuildSlice, aMakeSlice, aLen, aMax, aMin, aAppend, aCopy, aBuiltin, TD.isSlice, TD.isAgg, TD.known, TD.isSeq, partD, partOb, cellsAt, Blk.cells, if_true, if_false, splice, fillD, dl, byteD, Int.reduceBEq, Int.reduceBNe, beq_self_eq_true, retQ, retK, resD, resL, andR, elemCells, isByte, chunk, reduceCtorEq, okVal, okCell, List.replicate, ne_eq, Nat.reduceEqDiff, headIds_cons, IntWalk.toNatUp]
      refine tcP awake06 rfl ?_
      simp (disch := (first | omega | (simp only [W0]; done) | (simp only [W0]; omega))) only [W1, ↓W2, unbyte, implies_true, ← List.map_take, ← List.map_drop, bne_self_eq_false, eqCells, flatTD, Nat.reducePow, ayield, eq_self, exists_eq_left', exists_eq_left, exists_eq', Int.reduceLE, Int.reduceLT, Nat.reduceLeDiff, Int.reduceToNat, Int.reduceAdd, Int.reduceSub, Int.reduceMul, Int.reduceNeg, Int.reduceEq, argEnv, aeval, get, put, ofVal, ofVals, List.map, cond_true, cond_false, Nat.reduceBEq, nexts, allocs, countAllocs, pad, Nat.reduceAdd, Nat.reduceMul, Nat.reduceSub, Nat.reduceLT, isVoid, aNilCheck, aExtract, aNilB, isNilD, notD, aCap, aClear, aAppendZ, aInt, aStr, aConv, aSlice, asNat?, cutTight, aIndexAddr, aFieldAddr, aField, aIndex, aLoad, aStore, aAlloc, aBox, aBuild, aBuildSlice, aMakeSlice, aLen, aMax, aMin, aAppend, aCopy, aBuiltin, TD.isSlice, TD.isAgg, TD.known, TD.isSeq, partD, partOb, cellsAt, Blk.cells, if_true, if_false, splice, fillD, dl, byteD, Int.reduceBEq, Int.reduceBNe, beq_self_eq_true, retQ, retK, resD, resL, andR, elemCells, isByte, chunk, reduceCtorEq, okVal, okCell, List.replicate, ne_eq, Nat.reduceEqDiff, headIds_cons, IntWalk.toNatUp]
      refine tcP g2 n2 ?_
      simp (disch := (first | omega | (simp only [W0]; done) | (simp only [W0]; omega))) only [W1, ↓W2, unbyte, implies_true, ← List.map_take, ← List.map_drop, bne_self_eq_false, eqCells, flatTD, Nat.reducePow, ayield, eq_self, exists_eq_left', exists_eq_left, exists_eq', Int.reduceLE, Int.reduceLT, Nat.reduceLeDiff, Int.reduceToNat, Int.reduceAdd, Int.reduceSub, Int.reduceMul, Int.reduceNeg, Int.reduceEq, argEnv, aeval, get, put, ofVal, ofVals, List.map, cond_true, cond_false, Nat.reduceBEq, nexts, allocs, countAllocs, pad, Nat.reduceAdd, Nat.reduceMul, Nat.reduceSub, Nat.reduceLT, isVoid, aNilCheck, aExtract, aNilB, isNilD, notD, aCap, aClear, aAppendZ, aInt, aStr, aConv, aSlice, asNat?, cutTight, aIndexAddr, aFieldAddr, aField, aIndex, aLoad, aStore, aAlloc, aBox, aBuild, aBuildSlice, aMakeSlice, aLen, aMax, aMin, aAppend, aCopy, aBuiltin, TD.isSlice, TD.isAgg, TD.known, TD.isSeq, partD, partOb, cellsAt, Blk.cells, if_true, if_false, splice, fillD, dl, byteD, Int.reduceBEq, Int.reduceBNe, beq_self_eq_true, retQ, retK, resD, resL, andR, elemCells, isByte, chunk, reduceCtorEq, okVal, okCell, List.replicate, ne_eq, Nat.reduceEqDiff, headIds_cons, IntWalk.toNatUp]
      refine tcP g3 n3 ?_
      simp (disch := (first | omega | (simp only [W0]; done) | (simp only [W0]; omega))) only [W1, ↓W2, unbyte, implies_true, ← List.map_take, ← List.map_drop, bne_self_eq_false, eqCells, flatTD, Nat.reducePow, ayield, eq_self, exists_eq_left', exists_eq_left, exists_eq', Int.reduceLE, Int.reduceLT, Nat.reduceLeDiff, Int.reduceToNat, Int.reduceAdd, Int.reduceSub, Int.reduceMul, Int.reduceNeg, Int.reduceEq, argEnv, aeval, get, put, ofVal, ofVals, List.map, cond_true, cond_false, Nat.reduceBEq, nexts, allocs, countAllocs, pad, Nat.reduceAdd, Nat.reduceMul, Nat.reduceSub, Nat.reduceLT, isVoid, aNilCheck, aExtract, aNilB, isNilD, notD, aCap, aClear, aAppendZ, aInt, aStr, aConv, aSlice, asNat?, cutTight, aIndexAddr, aFieldAddr, aField, aIndex, aLoad, aStore, aAlloc, aBox, aBuild, aBuildSlice, aMakeSlice, aLen, aMax, aMin, aAppend, aCopy, aBuiltin, TD.isSlice, TD.isAgg, TD.known, TD.isSeq, partD, partOb, cellsAt, Blk.cells, if_true, if_false, splice, fillD, dl, byteD, Int.reduceBEq, Int.reduceBNe, beq_self_eq_true, retQ, retK, resD, resL, andR, elemCells, isByte, chunk, reduceCtorEq, okVal, okCell, List.replicate, ne_eq, Nat.reduceEqDiff, headIds_cons, IntWalk.toNatUp]
      refine tend_fast ?_ ?_
      · decide +kernel
      simp (disch := (first | omega | (simp only [W0]; done) | (simp only [W0]; omega))) only [W1, ↓W2, unbyte, implies_true, ← List.map_take, ← List.map_drop, bne_self_eq_false, eqCells, flatTD, Nat.reducePow, ayield, eq_self, exists_eq_left', exists_eq_left, exists_eq', Int.reduceLE, Int.reduceLT, Nat.reduceLeDiff, Int.reduceToNat, Int.reduceAdd, Int.reduceSub, Int.reduceMul, Int.reduceNeg, Int.reduceEq, argEnv, aeval, get, put, ofVal, ofVals, List.map, cond_true, cond_false, Nat.reduceBEq, nexts, allocs, countAllocs, pad, Nat.reduceAdd, Nat.reduceMul, Nat.reduceSub, Nat.reduceLT, isVoid, aNilCheck, aExtract, aNilB, isNilD, notD, aCap, aClear, aAppendZ, aInt, aStr, aConv, aSlice, asNat?, cutTight, aIndexAddr, aFieldAddr, aField, aIndex, aLoad, aStore, aAlloc, aBox, aBuild, aBuildSlice, aMakeSlice, aLen, aMax, aMin, aAppend, aCopy, aBuiltin, TD.isSlice, TD.isAgg, TD.known, TD.isSeq, partD, partOb, cellsAt, Blk.cells, if_true, if_false, splice, fillD, dl, byteD, Int.reduceBEq, Int.reduceBNe, beq_self_eq_true, retQ, retK, resD, resL, andR, elemCells, isByte, chunk, reduceCtorEq, okVal, okCell, List.replicate, ne_eq, Nat.reduceEqDiff, headIds_cons, IntWalk.toNatUp]
      exact Sub.refl rfl
    have h2' := of_decide_eq_true h2
    have hkl : k < d.files.length := by omega
    have hkC : k < C.length := by omega
    obtain ⟨f, hf⟩ : ∃ f, d.files[k] = f := ⟨_, rfl⟩
    obtain ⟨g, hg⟩ : ∃ g, C[k] = g := ⟨_, rfl⟩
    have hgf : g = crash1 f (keep.getD k 0) := by
      subst hC
      rw [← hg, crash_get d.files keep k hkl hkC, hf]
    have hfo := hF.files.ok f (hf ▸ List.getElem_mem hkl)
    have hfd := hF.files.data f (hf ▸ List.getElem_mem hkl)
    obtain ⟨q1, q2, q3, q4, q5⟩ := crash1_ok hfo (keep.getD k 0)
    have q0 : g.name = f.name := by rw [hgf]; rfl
    rw [← hgf] at q1 q2 q3 q4 q5
    have e1 : (g.sure != (g.data.length : Int)) = false := by simpa using q3
    have e2 : decide (g.sure < f.sure) = false := decide_eq_false (by omega)
    have e3 : decide ((g.data.length : Int) > (f.data.length : Int)) = false := decide_eq_false (by omega)
    have q6 : List.take g.data.length f.data = g.data := q5.symm
    simp (disch := (first | omega | (simp only [W0]; done) | (simp only [W0]; omega))) only [hCl, h2, W1, ↓W2, unbyte, implies_true, ← List.map_take, ← List.map_drop, bne_self_eq_false, eqCells, flatTD, Nat.reducePow, ayield, eq_self, exists_eq_left', exists_eq_left, exists_eq', Int.reduceLE, Int.reduceLT, Nat.reduceLeDiff, Int.reduceToNat, Int.reduceAdd, Int.reduceSub, Int.reduceMul, Int.reduceNeg, Int.reduceEq, argEnv, aeval, get, put, ofVal, ofVals, List.map, cond_true, cond_false, Nat.reduceBEq, nexts, allocs, countAllocs, pad, Nat.reduceAdd, Nat.reduceMul, Nat.reduceSub, Nat.reduceLT, isVoid, aNilCheck, aExtract, aNilB, isNilD, notD, aCap, aClear, aAppendZ, aInt, aStr, aConv, aSlice, asNat?, cutTight, aIndexAddr, aFieldAddr, aField, aIndex, aLoad, aStore, aAlloc, aBox, aBuild, aBuildSlice, aMakeSlice, aLen, aMax, aMin, aAppend, aCopy, aBuiltin, TD.isSlice, TD.isAgg, TD.known, TD.isSeq, partD, partOb, cellsAt, Blk.cells, if_true, if_false, splice, fillD, dl, byteD, Int.reduceBEq, Int.reduceBNe, beq_self_eq_true, retQ, retK, resD, resL, andR, elemCells, isByte, chunk, reduceCtorEq, okVal, okCell, List.replicate, ne_eq, Nat.reduceEqDiff, headIds_cons, IntWalk.toNatUp]
    refine draw_fast 0 ?_ ?_
    · decide +kernel
    simp (disch := (first | omega | (simp only [W0]; done) | (simp only [W0]; omega))) only [hf, hg, GFile.d, W1, ↓W2, unbyte, implies_true, ← List.map_take, ← List.map_drop, bne_self_eq_false, eqCells, flatTD, Nat.reducePow, ayield, eq_self, exists_eq_left', exists_eq_left, exists_eq', Int.reduceLE, Int.reduceLT, Nat.reduceLeDiff, Int.reduceToNat, Int.reduceAdd, Int.reduceSub, Int.reduceMul, Int.reduceNeg, Int.reduceEq, argEnv, aeval, get, put, ofVal, ofVals, List.map, cond_true, cond_false, Nat.reduceBEq, nexts, allocs, countAllocs, pad, Nat.reduceAdd, Nat.reduceMul, Nat.reduceSub, Nat.reduceLT, isVoid, aNilCheck, aExtract, aNilB, isNilD, notD, aCap, aClear, aAppendZ, aInt, aStr, aConv, aSlice, asNat?, cutTight, aIndexAddr, aFieldAddr, aField, aIndex, aLoad, aStore, aAlloc, aBox, aBuild, aBuildSlice, aMakeSlice, aLen, aMax, aMin, aAppend, aCopy, aBuiltin, TD.isSlice, TD.isAgg, TD.known, TD.isSeq, partD, partOb, cellsAt, Blk.cells, if_true, if_false, splice, fillD, dl, byteD, Int.reduceBEq, Int.reduceBNe, beq_self_eq_true, retQ, retK, resD, resL, andR, elemCells, isByte, chunk, reduceCtorEq, okVal, okCell, List.replicate, ne_eq, Nat.reduceEqDiff, headIds_cons, IntWalk.toNatUp]
    refine tend_fast ?_ ?_
    · decide +kernel
    simp (disch := (first | omega | (simp only [W0]; done) | (simp only [W0]; omega))) only [W1, ↓W2, unbyte, implies_true, ← List.map_take, ← List.map_drop, bne_self_eq_false, eqCells, flatTD, Nat.reducePow, ayield, eq_self, exists_eq_left', exists_eq_left, exists_eq', Int.reduceLE, Int.reduceLT, Nat.reduceLeDiff, Int.reduceToNat, Int.reduceAdd, Int.reduceSub, Int.reduceMul, Int.reduceNeg, Int.reduceEq, argEnv, aeval, get, put, ofVal, ofVals, List.map, cond_true, cond_false, Nat.reduceBEq, nexts, allocs, countAllocs, pad, Nat.reduceAdd, Nat.reduceMul, Nat.reduceSub, Nat.reduceLT, isVoid, aNilCheck, aExtract, aNilB, isNilD, notD, aCap, aClear, aAppendZ, aInt, aStr, aConv, aSlice, asNat?, cutTight, aIndexAddr, aFieldAddr, aField, aIndex, aLoad, aStore, aAlloc, aBox, aBuild, aBuildSlice, aMakeSlice, aLen, aMax, aMin, aAppend, aCopy, aBuiltin, TD.isSlice, TD.isAgg, TD.known, TD.isSeq, partD, partOb, cellsAt, Blk.cells, if_true, if_false, splice, fillD, dl, byteD, Int.reduceBEq, Int.reduceBNe, beq_self_eq_true, retQ, retK, resD, resL, andR, elemCells, isByte, chunk, reduceCtorEq, okVal, okCell, List.replicate, ne_eq, Nat.reduceEqDiff, headIds_cons, IntWalk.toNatUp]
    refine draw_fast 0 ?_ ?_
    · decide +kernel
    simp (disch := (first | omega | (simp only [W0]; done) | (simp only [W0]; omega))) only [q0, bne_self_eq_false, beq_self_eq_true, Bool.not_true, e1, e2, e3, q6, W1, ↓W2, unbyte, implies_true, ← List.map_take, ← List.map_drop, bne_self_eq_false, eqCells, flatTD, Nat.reducePow, ayield, eq_self, exists_eq_left', exists_eq_left, exists_eq', Int.reduceLE, Int.reduceLT, Nat.reduceLeDiff, Int.reduceToNat, Int.reduceAdd, Int.reduceSub, Int.reduceMul, Int.reduceNeg, Int.reduceEq, argEnv, aeval, get, put, ofVal, ofVals, List.map, cond_true, cond_false, Nat.reduceBEq, nexts, allocs, countAllocs, pad, Nat.reduceAdd, Nat.reduceMul, Nat.reduceSub, Nat.reduceLT, isVoid, aNilCheck, aExtract, aNilB, isNilD, notD, aCap, aClear, aAppendZ, aInt, aStr, aConv, aSlice, asNat?, cutTight, aIndexAddr, aFieldAddr, aField, aIndex, aLoad, aStore, aAlloc, aBox, aBuild, aBuildSlice, aMakeSlice, aLen, aMax, aMin, aAppend, aCopy, aBuiltin, TD.isSlice, TD.isAgg, TD.known, TD.isSeq, partD, partOb, cellsAt, Blk.cells, if_true, if_false, splice, fillD, dl, byteD, Int.reduceBEq, Int.reduceBNe, beq_self_eq_true, retQ, retK, resD, resL, andR, elemCells, isByte, chunk, reduceCtorEq, okVal, okCell, List.replicate, ne_eq, Nat.reduceEqDiff, headIds_cons, IntWalk.toNatUp]
    refine tend_fast ?_ ?_
    · decide +kernel
    simp (disch := (first | omega | (simp only [W0]; done) | (simp only [W0]; omega))) only [W1, ↓W2, unbyte, implies_true, ← List.map_take, ← List.map_drop, bne_self_eq_false, eqCells, flatTD, Nat.reducePow, ayield, eq_self, exists_eq_left', exists_eq_left, exists_eq', Int.reduceLE, Int.reduceLT, Nat.reduceLeDiff, Int.reduceToNat, Int.reduceAdd, Int.reduceSub, Int.reduceMul, Int.reduceNeg, Int.reduceEq, argEnv, aeval, get, put, ofVal, ofVals, List.map, cond_true, cond_false, Nat.reduceBEq, nexts, allocs, countAllocs, pad, Nat.reduceAdd, Nat.reduceMul, Nat.reduceSub, Nat.reduceLT, isVoid, aNilCheck, aExtract, aNilB, isNilD, notD, aCap, aClear, aAppendZ, aInt, aStr, aConv, aSlice, asNat?, cutTight, aIndexAddr, aFieldAddr, aField, aIndex, aLoad, aStore, aAlloc, aBox, aBuild, aBuildSlice, aMakeSlice, aLen, aMax, aMin, aAppend, aCopy, aBuiltin, TD.isSlice, TD.isAgg, TD.known, TD.isSeq, partD, partOb, cellsAt, Blk.cells, if_true, if_false, splice, fillD, dl, byteD, Int.reduceBEq, Int.reduceBNe, beq_self_eq_true, retQ, retK, resD, resL, andR, elemCells, isByte, chunk, reduceCtorEq, okVal, okCell, List.replicate, ne_eq, Nat.reduceEqDiff, headIds_cons, IntWalk.toNatUp]
    refine ⟨k + 1, by omega, by omega, fitsR [0, 1] ?_ ?_ (by simp [liveIds]) rfl⟩
    · simp only [Int.natCast_add, Int.cast_ofNat_Int, fe_nil, fe_data, fe_ref, fe_refc, fe_ptr, fh_nil, fh_dead, fh_live, fh_froz, liveIds, ni_int, ni_bool, ni_str, ni_agg, ni_nil, ni_sl, ni_cp, ni_nilp, ni_fn, ni_nilf, ni_tup, ni_niface, ni_iface, ni_nilL, ni_consL, Bool.and_self, List.length_cons, List.length_nil, get, cond_true, cond_false, Nat.reduceBEq, List.getElem?_cons_zero, List.getElem?_cons_succ, true_and, and_true, eq_self, List.getD_cons_zero, List.getD_cons_succ, Nat.reduceAdd, Nat.reduceLT, noL _ (ni_int _)]
    · rw [fh_live _ _ _ _ _ _ hdn, fh_live _ _ _ _ _ _ hcn]
      exact ⟨rfl, rfl, trivial⟩
  have h1' := of_decide_eq_true h1
  have hil : i < l.length := by omega
  obtain ⟨a, ha⟩ : ∃ a, l[i] = a := ⟨_, rfl⟩
  have hA := hsa a (ha ▸ List.getElem_mem hil)
  have hnx := stP_succ hil ha
  rw [hd] at hnx
  have hF2 := do_fine hF hA
  have hkeptD : ∀ f, f ∈ d.files → ¬ (3 ≤ a.kind ∧ a.kind ≤ 5) → Kept f (doM d a).1.files := fun f hf hk => kept_do hF hk hf
  have g1 := do_ok i d a (by omega) hF hA
  have n1 := aniA d a
  obtain ⟨X, hX⟩ : ∃ X, doM d a = X := ⟨_, rfl⟩
  rw [hX] at g1 hnx hF2 hkeptD
  have hXl : X.1.files.length ≤ 1000 := by have := hF2.files.len; omega
  simp only [GDisk.d, dl, GAct.d, chD] at g1 n1
  have hdn := niC' d
  have hxn := niC' X.1
  simp (disch := (first | omega | (simp only [W0]; done) | (simp only [W0]; omega))) only [h1, ha, hd, cD, GAct.d, W1, ↓W2, unbyte, implies_true, ← List.map_take, ← List.map_drop, bne_self_eq_false, eqCells, flatTD, Nat.reducePow, ayield, eq_self, exists_eq_left', exists_eq_left, exists_eq', Int.reduceLE, Int.reduceLT, Nat.reduceLeDiff, Int.reduceToNat, Int.reduceAdd, Int.reduceSub, Int.reduceMul, Int.reduceNeg, Int.reduceEq, argEnv, aeval, get, put, ofVal, ofVals, List.map, cond_true, cond_false, Nat.reduceBEq, nexts, allocs, countAllocs, pad, Nat.reduceAdd, Nat.reduceMul, Nat.reduceSub, Nat.reduceLT, isVoid, aNilCheck, aExtract, aNilB, isNilD, notD, aCap, aClear, aAppendZ, aInt, aStr, aConv, aSlice, asNat?, cutTight, aIndexAddr, aFieldAddr, aField, aIndex, aLoad, aStore, aAlloc, aBox, aBuild, aBuildSlice, aMakeSlice, aLen, aMax, aMin, aAppend, aCopy, aBuiltin, TD.isSlice, TD.isAgg, TD.known, TD.isSeq, partD, partOb, cellsAt, Blk.cells, if_true, if_false, splice, fillD, dl, byteD, Int.reduceBEq, Int.reduceBNe, beq_self_eq_true, retQ, retK, resD, resL, andR, elemCells, isByte, chunk, reduceCtorEq, okVal, okCell, List.replicate, ne_eq, Nat.reduceEqDiff, headIds_cons, IntWalk.toNatUp]
  refine draw_fast 0 ?_ ?_
  · decide +kernel
  simp (disch := (first | omega | (simp only [W0]; done) | (simp only [W0]; omega))) only [ha, GAct.d, W1, ↓W2, unbyte, implies_true, ← List.map_take, ← List.map_drop, bne_self_eq_false, eqCells, flatTD, Nat.reducePow, ayield, eq_self, exists_eq_left', exists_eq_left, exists_eq', Int.reduceLE, Int.reduceLT, Nat.reduceLeDiff, Int.reduceToNat, Int.reduceAdd, Int.reduceSub, Int.reduceMul, Int.reduceNeg, Int.reduceEq, argEnv, aeval, get, put, ofVal, ofVals, List.map, cond_true, cond_false, Nat.reduceBEq, nexts, allocs, countAllocs, pad, Nat.reduceAdd, Nat.reduceMul, Nat.reduceSub, Nat.reduceLT, isVoid, aNilCheck, aExtract, aNilB, isNilD, notD, aCap, aClear, aAppendZ, aInt, aStr, aConv, aSlice, asNat?, cutTight, aIndexAddr, aFieldAddr, aField, aIndex, aLoad, aStore, aAlloc, aBox, aBuild, aBuildSlice, aMakeSlice, aLen, aMax, aMin, aAppend, aCopy, aBuiltin, TD.isSlice, TD.isAgg, TD.known, TD.isSeq, partD, partOb, cellsAt, Blk.cells, if_true, if_false, splice, fillD, dl, byteD, Int.reduceBEq, Int.reduceBNe, beq_self_eq_true, retQ, retK, resD, resL, andR, elemCells, isByte, chunk, reduceCtorEq, okVal, okCell, List.replicate, ne_eq, Nat.reduceEqDiff, headIds_cons, IntWalk.toNatUp]
  refine tcP g1 n1 ?_
  simp (disch := (first | omega | (simp only [W0]; done) | (simp only [W0]; omega))) only [W1, ↓W2, unbyte, implies_true, ← List.map_take, ← List.map_drop, bne_self_eq_false, eqCells, flatTD, Nat.reducePow, ayield, eq_self, exists_eq_left', exists_eq_left, exists_eq', Int.reduceLE, Int.reduceLT, Nat.reduceLeDiff, Int.reduceToNat, Int.reduceAdd, Int.reduceSub, Int.reduceMul, Int.reduceNeg, Int.reduceEq, argEnv, aeval, get, put, ofVal, ofVals, List.map, cond_true, cond_false, Nat.reduceBEq, nexts, allocs, countAllocs, pad, Nat.reduceAdd, Nat.reduceMul, Nat.reduceSub, Nat.reduceLT, isVoid, aNilCheck, aExtract, aNilB, isNilD, notD, aCap, aClear, aAppendZ, aInt, aStr, aConv, aSlice, asNat?, cutTight, aIndexAddr, aFieldAddr, aField, aIndex, aLoad, aStore, aAlloc, aBox, aBuild, aBuildSlice, aMakeSlice, aLen, aMax, aMin, aAppend, aCopy, aBuiltin, TD.isSlice, TD.isAgg, TD.known, TD.isSeq, partD, partOb, cellsAt, Blk.cells, if_true, if_false, splice, fillD, dl, byteD, Int.reduceBEq, Int.reduceBNe, beq_self_eq_true, retQ, retK, resD, resL, andR, elemCells, isByte, chunk, reduceCtorEq, okVal, okCell, List.replicate, ne_eq, Nat.reduceEqDiff, headIds_cons, IntWalk.toNatUp]
  refine tend_fast ?_ ?_
  · decide +kernel
  simp (disch := (first | omega | (simp only [W0]; done) | (simp only [W0]; omega))) only [W1, ↓W2, unbyte, implies_true, ← List.map_take, ← List.map_drop, bne_self_eq_false, eqCells, flatTD, Nat.reducePow, ayield, eq_self, exists_eq_left', exists_eq_left, exists_eq', Int.reduceLE, Int.reduceLT, Nat.reduceLeDiff, Int.reduceToNat, Int.reduceAdd, Int.reduceSub, Int.reduceMul, Int.reduceNeg, Int.reduceEq, argEnv, aeval, get, put, ofVal, ofVals, List.map, cond_true, cond_false, Nat.reduceBEq, nexts, allocs, countAllocs, pad, Nat.reduceAdd, Nat.reduceMul, Nat.reduceSub, Nat.reduceLT, isVoid, aNilCheck, aExtract, aNilB, isNilD, notD, aCap, aClear, aAppendZ, aInt, aStr, aConv, aSlice, asNat?, cutTight, aIndexAddr, aFieldAddr, aField, aIndex, aLoad, aStore, aAlloc, aBox, aBuild, aBuildSlice, aMakeSlice, aLen, aMax, aMin, aAppend, aCopy, aBuiltin, TD.isSlice, TD.isAgg, TD.known, TD.isSeq, partD, partOb, cellsAt, Blk.cells, if_true, if_false, splice, fillD, dl, byteD, Int.reduceBEq, Int.reduceBNe, beq_self_eq_true, retQ, retK, resD, resL, andR, elemCells, isByte, chunk, reduceCtorEq, okVal, okCell, List.replicate, ne_eq, Nat.reduceEqDiff, headIds_cons, IntWalk.toNatUp]
  refine loopR (fun k : Nat => [(0, .sl 5 (l.map GAct.d) false), (1, .sl 1 (keep.map (D.int .i64)) false), (5, .ptr 0 0), (6, .int .i64 i), (7, .ptr 1 0), (9, .int .i64 k)]) (fun _ => [.live [D.sl 3 (d.files.map GFile.d) false, D.int .i64 d.cap, D.bool d.armed, D.int .i64 d.left, D.bool d.down], .live [D.sl 3 (X.1.files.map GFile.d) false, D.int .i64 X.1.cap, D.bool X.1.armed, D.int .i64 X.1.left, D.bool X.1.down]]) (fun k => k ≤ d.files.length) (fun k => d.files.length - k) 0 (Nat.zero_le _) ?_ ?_
  · refine fitsR [0, 1] ?_ ?_ (by simp [liveIds]) rfl
    · simp only [Int.natCast_add, Int.cast_ofNat_Int, fe_nil, fe_data, fe_ref, fe_refc, fe_ptr, fh_nil, fh_dead, fh_live, fh_froz, liveIds, ni_int, ni_bool, ni_str, ni_agg, ni_nil, ni_sl, ni_cp, ni_nilp, ni_fn, ni_nilf, ni_tup, ni_niface, ni_iface, ni_nilL, ni_consL, Bool.and_self, List.length_cons, List.length_nil, get, cond_true, cond_false, Nat.reduceBEq, List.getElem?_cons_zero, List.getElem?_cons_succ, true_and, and_true, eq_self, List.getD_cons_zero, List.getD_cons_succ, Nat.reduceAdd, Nat.reduceLT, noL _ (ni_int _), noL _ GAct.noIds, Int.natCast_zero]
    · rw [fh_live _ _ _ _ _ _ hdn, fh_live _ _ _ _ _ _ hxn]
      exact ⟨rfl, rfl, trivial⟩
  intro k hk
  cases h2 : decide ((k : Int) < (d.files.length : Int))
  · simp (disch := (first | omega | (simp only [W0]; done) | (simp only [W0]; omega))) only [h2, W1, ↓W2, unbyte, implies_true, ← List.map_take, ← List.map_drop, bne_self_eq_false, eqCells, flatTD, Nat.reducePow, ayield, eq_self, exists_eq_left', exists_eq_left, exists_eq', Int.reduceLE, Int.reduceLT, Nat.reduceLeDiff, Int.reduceToNat, Int.reduceAdd, Int.reduceSub, Int.reduceMul, Int.reduceNeg, Int.reduceEq, argEnv, aeval, get, put, ofVal, ofVals, List.map, cond_true, cond_false, Nat.reduceBEq, nexts, allocs, countAllocs, pad, Nat.reduceAdd, Nat.reduceMul, Nat.reduceSub, Nat.reduceLT, isVoid, aNilCheck, aExtract, aNilB, isNilD, notD, aCap, aClear, aAppendZ, aInt, aStr, aConv, aSlice, asNat?, cutTight, aIndexAddr, aFieldAddr, aField, aIndex, aLoad, aStore, aAlloc, aBox, aBuild, aBuildSlice, aMakeSlice, aLen, aMax, aMin, aAppend, aCopy, aBuiltin, TD.isSlice, TD.isAgg, TD.known, TD.isSeq, partD, partOb, cellsAt, Blk.cells, if_true, if_false, splice, fillD, dl, byteD, Int.reduceBEq, Int.reduceBNe, beq_self_eq_true, retQ, retK, resD, resL, andR, elemCells, isByte, chunk, reduceCtorEq, okVal, okCell, List.replicate, ne_eq, Nat.reduceEqDiff, headIds_cons, IntWalk.toNatUp]
    refine ⟨i + 1, by omega, by omega, fitsR [0] ?_ ?_ (by simp [liveIds]) rfl⟩
    · simp only [Int.natCast_add, Int.cast_ofNat_Int, fe_nil, fe_data, fe_ref, fe_refc, fe_ptr, fh_nil, fh_dead, fh_live, fh_froz, liveIds, ni_int, ni_bool, ni_str, ni_agg, ni_nil, ni_sl, ni_cp, ni_nilp, ni_fn, ni_nilf, ni_tup, ni_niface, ni_iface, ni_nilL, ni_consL, Bool.and_self, List.length_cons, List.length_nil, get, cond_true, cond_false, Nat.reduceBEq, List.getElem?_cons_zero, List.getElem?_cons_succ, true_and, and_true, eq_self, List.getD_cons_zero, List.getD_cons_succ, Nat.reduceAdd, Nat.reduceLT, noL _ (ni_int _), noL _ GAct.noIds]
    · rw [hnx, fh_live _ _ _ _ _ _ hxn]
      exact ⟨rfl, trivial⟩
  have h2' := of_decide_eq_true h2
  have hkl : k < d.files.length := by omega
  have e100 : decide ((k : Int) < 100) = true := decide_eq_true (by omega)
  obtain ⟨f, hf⟩ : ∃ f, d.files[k] = f := ⟨_, rfl⟩
  have hfm : f ∈ d.files := hf ▸ List.getElem_mem hkl
  have next : ∃ k', k' ≤ d.files.length ∧ d.files.length - k' < d.files.length - k ∧ k' = k + 1 := ⟨k + 1, by omega, by omega, rfl⟩
  cases c1 : decide (a.kind ≥ 3)
  case true =>
    cases c2 : decide (a.kind ≤ 5)
    case true =>
      simp (disch := (first | omega | (simp only [W0]; done) | (simp only [W0]; omega))) only [h2, e100, hf, GFile.d, ha, GAct.d, c1, c2, W1, ↓W2, unbyte, implies_true, ← List.map_take, ← List.map_drop, bne_self_eq_false, eqCells, flatTD, Nat.reducePow, ayield, eq_self, exists_eq_left', exists_eq_left, exists_eq', Int.reduceLE, Int.reduceLT, Nat.reduceLeDiff, Int.reduceToNat, Int.reduceAdd, Int.reduceSub, Int.reduceMul, Int.reduceNeg, Int.reduceEq, argEnv, aeval, get, put, ofVal, ofVals, List.map, cond_true, cond_false, Nat.reduceBEq, nexts, allocs, countAllocs, pad, Nat.reduceAdd, Nat.reduceMul, Nat.reduceSub, Nat.reduceLT, isVoid, aNilCheck, aExtract, aNilB, isNilD, notD, aCap, aClear, aAppendZ, aInt, aStr, aConv, aSlice, asNat?, cutTight, aIndexAddr, aFieldAddr, aField, aIndex, aLoad, aStore, aAlloc, aBox, aBuild, aBuildSlice, aMakeSlice, aLen, aMax, aMin, aAppend, aCopy, aBuiltin, TD.isSlice, TD.isAgg, TD.known, TD.isSeq, partD, partOb, cellsAt, Blk.cells, if_true, if_false, splice, fillD, dl, byteD, Int.reduceBEq, Int.reduceBNe, beq_self_eq_true, retQ, retK, resD, resL, andR, elemCells, isByte, chunk, reduceCtorEq, okVal, okCell, List.replicate, ne_eq, Nat.reduceEqDiff, headIds_cons, IntWalk.toNatUp]
      refine ⟨k + 1, by omega, by omega, fitsR [0, 1] ?_ ?_ (by simp [liveIds]) rfl⟩
      · simp only [Int.natCast_add, Int.cast_ofNat_Int, fe_nil, fe_data, fe_ref, fe_refc, fe_ptr, fh_nil, fh_dead, fh_live, fh_froz, liveIds, ni_int, ni_bool, ni_str, ni_agg, ni_nil, ni_sl, ni_cp, ni_nilp, ni_fn, ni_nilf, ni_tup, ni_niface, ni_iface, ni_nilL, ni_consL, Bool.and_self, List.length_cons, List.length_nil, get, cond_true, cond_false, Nat.reduceBEq, List.getElem?_cons_zero, List.getElem?_cons_succ, true_and, and_true, eq_self, List.getD_cons_zero, List.getD_cons_succ, Nat.reduceAdd, Nat.reduceLT, noL _ (ni_int _), noL _ GAct.noIds]
      · rw [fh_live _ _ _ _ _ _ hdn, fh_live _ _ _ _ _ _ hxn]
        exact ⟨rfl, rfl, trivial⟩
    have hK := kept_read (hkeptD f hfm (by have := of_decide_eq_false c2; omega))
    obtain ⟨r1, r2, r3⟩ := hK
    have g2 := read_ok X.1 f.name hF2.files.up hXl
    have n2 := aniN X.1 f.name
    obtain ⟨R, hR⟩ : ∃ R, readM X.1.files f.name = R := ⟨_, rfl⟩
    rw [hR] at g2 r1 r2 r3
    obtain ⟨s1, s2⟩ := okFB_sure (hF.files.ok f hfm)
    have hfd := hF.files.data f hfm
    have e1 : (R.2 != 0) = false := by rw [r1]; rfl
    have e2 : decide (f.sure > (f.data.length : Int)) = false := decide_eq_false (by omega)
    have e3 : decide ((R.1.length : Int) < f.sure) = false := decide_eq_false (by omega)
    simp only [GDisk.d, dl] at g2
    simp (disch := (first | omega | (simp only [W0]; done) | (simp only [W0]; omega))) only [h2, e100, hf, GFile.d, ha, GAct.d, c1, c2, W1, ↓W2, unbyte, implies_true, ← List.map_take, ← List.map_drop, bne_self_eq_false, eqCells, flatTD, Nat.reducePow, ayield, eq_self, exists_eq_left', exists_eq_left, exists_eq', Int.reduceLE, Int.reduceLT, Nat.reduceLeDiff, Int.reduceToNat, Int.reduceAdd, Int.reduceSub, Int.reduceMul, Int.reduceNeg, Int.reduceEq, argEnv, aeval, get, put, ofVal, ofVals, List.map, cond_true, cond_false, Nat.reduceBEq, nexts, allocs, countAllocs, pad, Nat.reduceAdd, Nat.reduceMul, Nat.reduceSub, Nat.reduceLT, isVoid, aNilCheck, aExtract, aNilB, isNilD, notD, aCap, aClear, aAppendZ, aInt, aStr, aConv, aSlice, asNat?, cutTight, aIndexAddr, aFieldAddr, aField, aIndex, aLoad, aStore, aAlloc, aBox, aBuild, aBuildSlice, aMakeSlice, aLen, aMax, aMin, aAppend, aCopy, aBuiltin, TD.isSlice, TD.isAgg, TD.known, TD.isSeq, partD, partOb, cellsAt, Blk.cells, if_true, if_false, splice, fillD, dl, byteD, Int.reduceBEq, Int.reduceBNe, beq_self_eq_true, retQ, retK, resD, resL, andR, elemCells, isByte, chunk, reduceCtorEq, okVal, okCell, List.replicate, ne_eq, Nat.reduceEqDiff, headIds_cons, IntWalk.toNatUp]
    refine callP g2 n2 ?_
    simp (disch := (first | omega | (simp only [W0]; done) | (simp only [W0]; omega))) only [W1, ↓W2, unbyte, implies_true, ← List.map_take, ← List.map_drop, bne_self_eq_false, eqCells, flatTD, Nat.reducePow, ayield, eq_self, exists_eq_left', exists_eq_left, exists_eq', Int.reduceLE, Int.reduceLT, Nat.reduceLeDiff, Int.reduceToNat, Int.reduceAdd, Int.reduceSub, Int.reduceMul, Int.reduceNeg, Int.reduceEq, argEnv, aeval, get, put, ofVal, ofVals, List.map, cond_true, cond_false, Nat.reduceBEq, nexts, allocs, countAllocs, pad, Nat.reduceAdd, Nat.reduceMul, Nat.reduceSub, Nat.reduceLT, isVoid, aNilCheck, aExtract, aNilB, isNilD, notD, aCap, aClear, aAppendZ, aInt, aStr, aConv, aSlice, asNat?, cutTight, aIndexAddr, aFieldAddr, aField, aIndex, aLoad, aStore, aAlloc, aBox, aBuild, aBuildSlice, aMakeSlice, aLen, aMax, aMin, aAppend, aCopy, aBuiltin, TD.isSlice, TD.isAgg, TD.known, TD.isSeq, partD, partOb, cellsAt, Blk.cells, if_true, if_false, splice, fillD, dl, byteD, Int.reduceBEq, Int.reduceBNe, beq_self_eq_true, retQ, retK, resD, resL, andR, elemCells, isByte, chunk, reduceCtorEq, okVal, okCell, List.replicate, ne_eq, Nat.reduceEqDiff, headIds_cons, IntWalk.toNatUp]
    refine draw_fast 0 ?_ ?_
    · decide +kernel
    simp (disch := (first | omega | (simp only [W0]; done) | (simp only [W0]; omega))) only [e1, e2, e3, r3, bne_self_eq_false, beq_self_eq_true, Bool.not_true, W1, ↓W2, unbyte, implies_true, ← List.map_take, ← List.map_drop, bne_self_eq_false, eqCells, flatTD, Nat.reducePow, ayield, eq_self, exists_eq_left', exists_eq_left, exists_eq', Int.reduceLE, Int.reduceLT, Nat.reduceLeDiff, Int.reduceToNat, Int.reduceAdd, Int.reduceSub, Int.reduceMul, Int.reduceNeg, Int.reduceEq, argEnv, aeval, get, put, ofVal, ofVals, List.map, cond_true, cond_false, Nat.reduceBEq, nexts, allocs, countAllocs, pad, Nat.reduceAdd, Nat.reduceMul, Nat.reduceSub, Nat.reduceLT, isVoid, aNilCheck, aExtract, aNilB, isNilD, notD, aCap, aClear, aAppendZ, aInt, aStr, aConv, aSlice, asNat?, cutTight, aIndexAddr, aFieldAddr, aField, aIndex, aLoad, aStore, aAlloc, aBox, aBuild, aBuildSlice, aMakeSlice, aLen, aMax, aMin, aAppend, aCopy, aBuiltin, TD.isSlice, TD.isAgg, TD.known, TD.isSeq, partD, partOb, cellsAt, Blk.cells, if_true, if_false, splice, fillD, dl, byteD, Int.reduceBEq, Int.reduceBNe, beq_self_eq_true, retQ, retK, resD, resL, andR, elemCells, isByte, chunk, reduceCtorEq, okVal, okCell, List.replicate, ne_eq, Nat.reduceEqDiff, headIds_cons, IntWalk.toNatUp]
    refine tend_fast ?_ ?_
    · decide +kernel
    simp (disch := (first | omega | (simp only [W0]; done) | (simp only [W0]; omega))) only [W1, ↓W2, unbyte, implies_true, ← List.map_take, ← List.map_drop, bne_self_eq_false, eqCells, flatTD, Nat.reducePow, ayield, eq_self, exists_eq_left', exists_eq_left, exists_eq', Int.reduceLE, Int.reduceLT, Nat.reduceLeDiff, Int.reduceToNat, Int.reduceAdd, Int.reduceSub, Int.reduceMul, Int.reduceNeg, Int.reduceEq, argEnv, aeval, get, put, ofVal, ofVals, List.map, cond_true, cond_false, Nat.reduceBEq, nexts, allocs, countAllocs, pad, Nat.reduceAdd, Nat.reduceMul, Nat.reduceSub, Nat.reduceLT, isVoid, aNilCheck, aExtract, aNilB, isNilD, notD, aCap, aClear, aAppendZ, aInt, aStr, aConv, aSlice, asNat?, cutTight, aIndexAddr, aFieldAddr, aField, aIndex, aLoad, aStore, aAlloc, aBox, aBuild, aBuildSlice, aMakeSlice, aLen, aMax, aMin, aAppend, aCopy, aBuiltin, TD.isSlice, TD.isAgg, TD.known, TD.isSeq, partD, partOb, cellsAt, Blk.cells, if_true, if_false, splice, fillD, dl, byteD, Int.reduceBEq, Int.reduceBNe, beq_self_eq_true, retQ, retK, resD, resL, andR, elemCells, isByte, chunk, reduceCtorEq, okVal, okCell, List.replicate, ne_eq, Nat.reduceEqDiff, headIds_cons, IntWalk.toNatUp]
    refine ⟨k + 1, by omega, by omega, fitsR [0, 1] ?_ ?_ (by simp [liveIds]) rfl⟩
    · simp only [Int.natCast_add, Int.cast_ofNat_Int, fe_nil, fe_data, fe_ref, fe_refc, fe_ptr, fh_nil, fh_dead, fh_live, fh_froz, liveIds, ni_int, ni_bool, ni_str, ni_agg, ni_nil, ni_sl, ni_cp, ni_nilp, ni_fn, ni_nilf, ni_tup, ni_niface, ni_iface, ni_nilL, ni_consL, Bool.and_self, List.length_cons, List.length_nil, get, cond_true, cond_false, Nat.reduceBEq, List.getElem?_cons_zero, List.getElem?_cons_succ, true_and, and_true, eq_self, List.getD_cons_zero, List.getD_cons_succ, Nat.reduceAdd, Nat.reduceLT, noL _ (ni_int _), noL _ GAct.noIds]
    · rw [fh_live _ _ _ _ _ _ hdn, fh_live _ _ _ _ _ _ hxn]
      exact ⟨rfl, rfl, trivial⟩
  have hK := kept_read (hkeptD f hfm (by have := of_decide_eq_false c1; omega))
  obtain ⟨r1, r2, r3⟩ := hK
  have g2 := read_ok X.1 f.name hF2.files.up hXl
  have n2 := aniN X.1 f.name
  obtain ⟨R, hR⟩ : ∃ R, readM X.1.files f.name = R := ⟨_, rfl⟩
  rw [hR] at g2 r1 r2 r3
  obtain ⟨s1, s2⟩ := okFB_sure (hF.files.ok f hfm)
  have hfd := hF.files.data f hfm
  have e1 : (R.2 != 0) = false := by rw [r1]; rfl
  have e2 : decide (f.sure > (f.data.length : Int)) = false := decide_eq_false (by omega)
  have e3 : decide ((R.1.length : Int) < f.sure) = false := decide_eq_false (by omega)
  simp only [GDisk.d, dl] at g2
  simp (disch := (first | omega | (simp only [W0]; done) | (simp only [W0]; omega))) only [h2, e100, hf, GFile.d, ha, GAct.d, c1, W1, ↓W2, unbyte, implies_true, ← List.map_take, ← List.map_drop, bne_self_eq_false, eqCells, flatTD, Nat.reducePow, ayield, eq_self, exists_eq_left', exists_eq_left, exists_eq', Int.reduceLE, Int.reduceLT, Nat.reduceLeDiff, Int.reduceToNat, Int.reduceAdd, Int.reduceSub, Int.reduceMul, Int.reduceNeg, Int.reduceEq, argEnv, aeval, get, put, ofVal, ofVals, List.map, cond_true, cond_false, Nat.reduceBEq, nexts, allocs, countAllocs, pad, Nat.reduceAdd, Nat.reduceMul, Nat.reduceSub, Nat.reduceLT, isVoid, aNilCheck, aExtract, aNilB, isNilD, notD, aCap, aClear, aAppendZ, aInt, aStr, aConv, aSlice, asNat?, cutTight, aIndexAddr, aFieldAddr, aField, aIndex, aLoad, aStore, aAlloc, aBox, aBuild, aBuildSlice, aMakeSlice, aLen, aMax, aMin, aAppend, aCopy, aBuiltin, TD.isSlice, TD.isAgg, TD.known, TD.isSeq, partD, partOb, cellsAt, Blk.cells, if_true, if_false, splice, fillD, dl, byteD, Int.reduceBEq, Int.reduceBNe, beq_self_eq_true, retQ, retK, resD, resL, andR, elemCells, isByte, chunk, reduceCtorEq, okVal, okCell, List.replicate, ne_eq, Nat.reduceEqDiff, headIds_cons, IntWalk.toNatUp]
  refine callP g2 n2 ?_
  simp (disch := (first | omega | (simp only [W0]; done) | (simp only [W0]; omega))) only [W1, ↓W2, unbyte, implies_true, ← List.map_take, ← List.map_drop, bne_self_eq_false, eqCells, flatTD, Nat.reducePow, ayield, eq_self, exists_eq_left', exists_eq_left, exists_eq', Int.reduceLE, Int.reduceLT, Nat.reduceLeDiff, Int.reduceToNat, Int.reduceAdd, Int.reduceSub, Int.reduceMul, Int.reduceNeg, Int.reduceEq, argEnv, aeval, get, put, ofVal, ofVals, List.map, cond_true, cond_false, Nat.reduceBEq, nexts, allocs, countAllocs, pad, Nat.reduceAdd, Nat.reduceMul, Nat.reduceSub, Nat.reduceLT, isVoid, aNilCheck, aExtract, aNilB, isNilD, notD, aCap, aClear, aAppendZ, aInt, aStr, aConv, aSlice, asNat?, cutTight, aIndexAddr, aFieldAddr, aField, aIndex, aLoad, aStore, aAlloc, aBox, aBuild, aBuildSlice, aMakeSlice, aLen, aMax, aMin, aAppend, aCopy, aBuiltin, TD.isSlice, TD.isAgg, TD.known, TD.isSeq, partD, partOb, cellsAt, Blk.cells, if_true, if_false, splice, fillD, dl, byteD, Int.reduceBEq, Int.reduceBNe, beq_self_eq_true, retQ, retK, resD, resL, andR, elemCells, isByte, chunk, reduceCtorEq, okVal, okCell, List.replicate, ne_eq, Nat.reduceEqDiff, headIds_cons, IntWalk.toNatUp]
  refine draw_fast 0 ?_ ?_
  · decide +kernel
  simp (disch := (first | omega | (simp only [W0]; done) | (simp only [W0]; omega))) only [e1, e2, e3, r3, bne_self_eq_false, beq_self_eq_true, Bool.not_true, W1, ↓W2, unbyte, implies_true, ← List.map_take, ← List.map_drop, bne_self_eq_false, eqCells, flatTD, Nat.reducePow, ayield, eq_self, exists_eq_left', exists_eq_left, exists_eq', Int.reduceLE, Int.reduceLT, Nat.reduceLeDiff, Int.reduceToNat, Int.reduceAdd, Int.reduceSub, Int.reduceMul, Int.reduceNeg, Int.reduceEq, argEnv, aeval, get, put, ofVal, ofVals, List.map, cond_true, cond_false, Nat.reduceBEq, nexts, allocs, countAllocs, pad, Nat.reduceAdd, Nat.reduceMul, Nat.reduceSub, Nat.reduceLT, isVoid, aNilCheck, aExtract, aNilB, isNilD, notD, aCap, aClear, aAppendZ, aInt, aStr, aConv, aSlice, asNat?, cutTight, aIndexAddr, aFieldAddr, aField, aIndex, aLoad, aStore, aAlloc, aBox, aBuild, aBuildSlice, aMakeSlice, aLen, aMax, aMin, aAppend, aCopy, aBuiltin, TD.isSlice, TD.isAgg, TD.known, TD.isSeq, partD, partOb, cellsAt, Blk.cells, if_true, if_false, splice, fillD, dl, byteD, Int.reduceBEq, Int.reduceBNe, beq_self_eq_true, retQ, retK, resD, resL, andR, elemCells, isByte, chunk, reduceCtorEq, okVal, okCell, List.replicate, ne_eq, Nat.reduceEqDiff, headIds_cons, IntWalk.toNatUp]
  refine tend_fast ?_ ?_
  · decide +kernel
  simp (disch := (first | omega | (simp only [W0]; done) | (simp only [W0]; omega))) only [W1, ↓W2, unbyte, implies_true, ← List.map_take, ← List.map_drop, bne_self_eq_false, eqCells, flatTD, Nat.reducePow, ayield, eq_self, exists_eq_left', exists_eq_left, exists_eq', Int.reduceLE, Int.reduceLT, Nat.reduceLeDiff, Int.reduceToNat, Int.reduceAdd, Int.reduceSub, Int.reduceMul, Int.reduceNeg, Int.reduceEq, argEnv, aeval, get, put, ofVal, ofVals, List.map, cond_true, cond_false, Nat.reduceBEq, nexts, allocs, countAllocs, pad, Nat.reduceAdd, Nat.reduceMul, Nat.reduceSub, Nat.reduceLT, isVoid, aNilCheck, aExtract, aNilB, isNilD, notD, aCap, aClear, aAppendZ, aInt, aStr, aConv, aSlice, asNat?, cutTight, aIndexAddr, aFieldAddr, aField, aIndex, aLoad, aStore, aAlloc, aBox, aBuild, aBuildSlice, aMakeSlice, aLen, aMax, aMin, aAppend, aCopy, aBuiltin, TD.isSlice, TD.isAgg, TD.known, TD.isSeq, partD, partOb, cellsAt, Blk.cells, if_true, if_false, splice, fillD, dl, byteD, Int.reduceBEq, Int.reduceBNe, beq_self_eq_true, retQ, retK, resD, resL, andR, elemCells, isByte, chunk, reduceCtorEq, okVal, okCell, List.replicate, ne_eq, Nat.reduceEqDiff, headIds_cons, IntWalk.toNatUp]
  refine ⟨k + 1, by omega, by omega, fitsR [0, 1] ?_ ?_ (by simp [liveIds]) rfl⟩
  · simp only [Int.natCast_add, Int.cast_ofNat_Int, fe_nil, fe_data, fe_ref, fe_refc, fe_ptr, fh_nil, fh_dead, fh_live, fh_froz, liveIds, ni_int, ni_bool, ni_str, ni_agg, ni_nil, ni_sl, ni_cp, ni_nilp, ni_fn, ni_nilf, ni_tup, ni_niface, ni_iface, ni_nilL, ni_consL, Bool.and_self, List.length_cons, List.length_nil, get, cond_true, cond_false, Nat.reduceBEq, List.getElem?_cons_zero, List.getElem?_cons_succ, true_and, and_true, eq_self, List.getD_cons_zero, List.getD_cons_succ, Nat.reduceAdd, Nat.reduceLT, noL _ (ni_int _), noL _ GAct.noIds]
  · rw [fh_live _ _ _ _ _ _ hdn, fh_live _ _ _ _ _ _ hxn]
    exact ⟨rfl, rfl, trivial⟩

end Go.Proofs.Ytlkffgmejcgdbaa
