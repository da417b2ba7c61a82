/- The manifest of bytes: what the function returns. -/
import Derived.Test.YtbabdalfkmdlhaaMan
namespace Go.Proofs.Ytbabdalfkmdlhaa
set_option linter.all false
-- bundled

set_option maxRecDepth 100000

/-- What has been read of a body, up to here: 'bad0': does something stand behind the frame? -/
structure RS (b : List UInt8) (bad0 : Bool) (vs : List Nat) (a : Nat) (bad : Bool) : Prop where
  le : a ≤ b.length
  no : bad = true → bad0 = true ∨ takeNs vs.length b = none
  yes : bad = false → bad0 = false ∧ takeNs vs.length b = some (vs, b.drop a)

theorem RS.start (b : List UInt8) (bad0 : Bool) : RS b bad0 [] 0 bad0 := ⟨Nat.zero_le _, fun h => .inl h, fun h => ⟨h, rfl⟩⟩

theorem num_step {b : List UInt8} {bad0 bad : Bool} {vs : List Nat} {a : Nat} (h : RS b bad0 vs a bad) : ∃ (x a' : Nat) (bad' : Bool), numR b a bad = ((x : Int), (a' : Int), bad') ∧ x < 9223372036854775808 ∧ RS b bad0 (vs ++ [x]) a' bad' ∧ (bad' = true → x = 0) := by
  cases bad with
  | true =>
    refine ⟨0, a, true, rfl, by omega, ⟨h.le, fun _ => ?_, (fun h => by cases h)⟩, fun _ => rfl⟩
    rcases h.no rfl with h1 | h1
    · exact .inl h1
    · exact .inr (takeNs_mono h1 (by simp))
  | false =>
    obtain ⟨h1, h2⟩ := h.yes rfl
    have hsn : takeNs (vs ++ [0]).length b = match takeNs 1 (b.drop a) with | none => none | some (ws, r') => some (vs ++ ws, r') := by
      rw [List.length_append, List.length_singleton, takeNs_add, h2]
      simp only []
      cases takeNs 1 (b.drop a) <;> rfl
    rw [takeNs_one] at hsn
    have hrd := rdM_at b a
    cases hr : readN (b.drop a) with
    | none =>
      rw [hr] at hrd hsn
      refine ⟨0, 0, true, by simp only [numR, hrd, cond_false]; rfl, by omega, ⟨Nat.zero_le _, fun _ => .inr hsn, (fun h => by cases h)⟩, fun _ => rfl⟩
    | some y =>
      obtain ⟨n, k⟩ := y
      rw [hr] at hrd hsn
      obtain ⟨q1, q2, q3, q4, q5⟩ := read_some hr
      rw [List.length_drop] at q2
      have hle := h.le
      refine ⟨n, a + k, false, by simp only [numR, hrd, cond_false]; rfl, by omega, ⟨by omega, (fun h => by cases h), fun _ => ⟨h1, ?_⟩⟩, (fun h => by cases h)⟩
      simp only [List.length_append, List.length_singleton] at hsn ⊢
      rw [hsn, List.drop_drop]

def segH (c0 : List D) (s : List UInt8) (v : Nat) (st : Nat × List Nat × Nat × Bool) : AHeap :=
  if st.1 = 0 then [.live c0, .live [.str s, .int .i64 st.2.2.1, .bool st.2.2.2], .live [.int .i64 v, .nil, .int .i64 0, .int .u32 0]]
  else [.live c0, .live [.str s, .int .i64 st.2.2.1, .bool st.2.2.2], .live [.int .i64 v, .ref 3 0 st.1 1, .int .i64 0, .int .u32 0], .live ((st.2.1.map Int.ofNat).map (D.int .i64))]

theorem next_err {l : List UInt8} {e : Int} (h : nextN l = .inr e) : e = 2 ∨ e = 3 ∨ e = 4 := by
  unfold nextN at h
  split at h
  · cases h; simp
  · split at h
    · cases h; simp
    · split at h
      · cases h; simp
      · split at h
        · cases h; simp
        · split at h
          · cases h
          · cases h; simp

theorem rs_two {b : List UInt8} {bad0 bad2 : Bool} {v c a2 : Nat} (r2 : RS b bad0 [v, c] a2 bad2) (h0 : bad0 = false) : takeNs 2 b = none ∨ takeNs 2 b = some ([v, c], b.drop a2) := by
  cases bad2 with
  | true =>
    rcases r2.no rfl with h | h
    · rw [h0] at h; cases h
    · exact .inl h
  | false => exact .inr (r2.yes rfl).2

theorem get_fin {s b : List UInt8} {k v c z a2 a4 : Nat} {l : List Nat} {bad2 bad4 : Bool} (hn : nextN s = .inl (b, k)) (r2 : RS b ((k : Int) != (s.length : Int)) [v, c] a2 bad2) (r4 : RS b ((k : Int) != (s.length : Int)) (v :: c :: (l ++ [z])) a4 bad4) (hl : l.length = c) (hc : c ≤ 64) :
    ((sumR b a4 bad4).2 = true → getMM s = (zeroMM, 3)) ∧ ((sumR b a4 bad4).2 = false → parseMM b = some ⟨(v : Int), l.map Int.ofNat, (z : Int), sum4 (b.drop a4)⟩ ∧ k = s.length ∧ (sumR b a4 bad4).1 = psW (b.drop a4) 4) := by
  have hlen : (v :: c :: (l ++ [z])).length = c + 3 := by simp; omega
  have hk : ((k : Int) != (s.length : Int)) = true → k ≠ s.length := fun h e => by subst e; simp at h
  have hk2 : ((k : Int) != (s.length : Int)) = false → k = s.length := fun h => by
    have : (k : Int) = (s.length : Int) := by simpa using h
    omega
  cases bad4 with
  | true =>
    refine ⟨fun _ => ?_, fun h => by simp [sumR] at h⟩
    cases h0 : ((k : Int) != (s.length : Int)) with
    | true => exact get_no hn (.inl (hk h0))
    | false =>
      refine get_no hn (.inr (.inl ?_))
      rcases r4.no rfl with h | h
      · rw [h0] at h; cases h
      · rw [hlen] at h
        rcases rs_two r2 h0 with h2 | h2
        · exact parse_none2 h2
        · exact parse_noneN h2 h
  | false =>
    obtain ⟨h0, h1⟩ := r4.yes rfl
    rw [hlen] at h1
    have hp := parse_all hc hl h1
    rw [List.length_drop] at hp
    have hle := r4.le
    cases h4 : ((b.length : Int) - (a4 : Int) == 4) with
    | true =>
      have h4' := eq_of_beq h4
      rw [if_pos (by omega)] at hp
      refine ⟨fun h => by simp [sumR, h4] at h, fun _ => ⟨hp, hk2 h0, ?_⟩⟩
      simp only [sumR, h4, Bool.not_true, Bool.or_false, cond_false, Int.toNat_natCast]
    | false =>
      have h4' : ¬ ((b.length : Int) - (a4 : Int) = 4) := by simpa using h4
      rw [if_neg (by omega)] at hp
      exact ⟨fun _ => get_no hn (.inr (.inl hp)), fun h => by simp [sumR, h4] at h⟩

theorem ren_ints (ρ : List Nat) (k : IntKind) (l : List Int) : (l.map (D.int k)).map (D.ren ρ) = l.map (D.int k) := by
  rw [← D.renL_eq]
  exact D.renL_noIds ρ _ (noL _ (ni_int _) l)
theorem bnd_ints (n : Nat) (k : IntKind) (l : List Int) : (l.map (D.int k)).all (D.bnd n) = true := by
  rw [← D.bndL_eq]
  exact D.bndL_noIds n _ (noL _ (ni_int _) l)

set_option maxHeartbeats 4000000 in
theorem mget_ok (s : List UInt8) (hs : s.length ≤ reach) : PureF Try.prog 25 [.str s] (.tup [(getMM s).1.d, .int .i64 (getMM s).2]) := by
  refine pureD (rs := [.cell 2 38, .tmp 3]) tyOk mixed Try.func25 (by decide) rfl rfl (Nat.le_of_ble_eq_true rfl) (by decide) ?_
  have hs' := hs
  rw [reach_lit] at hs'
  simp (disch := (first | omega | (simp only [List.length_take, List.length_drop, List.length_append, List.length_map, List.length_cons, List.length_nil]; done) | (simp only [List.length_take, List.length_drop, List.length_append, List.length_map, List.length_cons, List.length_nil]; omega))) only [W1, ↓W2, unbyte, implies_true, ← List.map_take, ← List.map_drop, bne_self_eq_false, eqCells, flatTD, Nat.reducePow, ayield, eq_self, exists_eq_left', exists_eq_left, Int.reduceLE, Int.reduceLT, Nat.reduceLeDiff, Int.reduceToNat, Int.reduceAdd, Int.reduceSub, Int.reduceMul, Int.reduceNeg, Int.reduceEq, argEnv, aeval, get, put, ofVal, ofVals, List.map, cond_true, cond_false, Nat.reduceBEq, nexts, allocs, countAllocs, pad, Nat.reduceAdd, Nat.reduceMul, Nat.reduceSub, Nat.reduceLT, isVoid, aNilCheck, aExtract, aInt, aStr, aConv, aSlice, asNat?, cutTight, aIndexAddr, aFieldAddr, aField, aIndex, aLoad, aStore, aAlloc, aBox, aBuild, aBuildSlice, aMakeSlice, aLen, aMax, aMin, aAppend, aCopy, aBuiltin, TD.isSlice, TD.isAgg, TD.known, TD.isSeq, partD, partOb, cellsAt, Blk.cells, if_true, if_false, splice, fillD, dl, byteD, Int.reduceBEq, beq_self_eq_true, retQ, retK, resD, resL, andR, elemCells, isByte, chunk, reduceCtorEq, okVal, okCell, List.replicate, ne_eq, Nat.reduceEqDiff, IntWalk.toNatUp]
  refine callP (fnext_ok s 0 hs (by simp only [okInt, min_i64, max_i64]; omega)) rfl ?_
  have hnx := nextF_at s 0
  rw [List.drop_zero] at hnx
  cases hn : nextN s with
  | inr e =>
    rw [hn] at hnx
    have he : e ≠ 0 := by rcases next_err hn with h | h | h <;> rw [h] <;> decide
    have hg : getMM s = (zeroMM, e) := by simp only [getMM, hn]
    have hne : (e != 0) = true := by simp [he]
    have hnx : nextF s 0 = ([], 0, e) := hnx
    simp (disch := (first | omega | (simp only [List.length_take, List.length_drop, List.length_append, List.length_map, List.length_cons, List.length_nil]; done) | (simp only [List.length_take, List.length_drop, List.length_append, List.length_map, List.length_cons, List.length_nil]; omega))) only [hnx, nextD, hne, hg, MM.d, zeroMM, W1, ↓W2, unbyte, implies_true, ← List.map_take, ← List.map_drop, bne_self_eq_false, eqCells, flatTD, Nat.reducePow, ayield, eq_self, exists_eq_left', exists_eq_left, Int.reduceLE, Int.reduceLT, Nat.reduceLeDiff, Int.reduceToNat, Int.reduceAdd, Int.reduceSub, Int.reduceMul, Int.reduceNeg, Int.reduceEq, argEnv, aeval, get, put, ofVal, ofVals, List.map, cond_true, cond_false, Nat.reduceBEq, nexts, allocs, countAllocs, pad, Nat.reduceAdd, Nat.reduceMul, Nat.reduceSub, Nat.reduceLT, isVoid, aNilCheck, aExtract, aInt, aStr, aConv, aSlice, asNat?, cutTight, aIndexAddr, aFieldAddr, aField, aIndex, aLoad, aStore, aAlloc, aBox, aBuild, aBuildSlice, aMakeSlice, aLen, aMax, aMin, aAppend, aCopy, aBuiltin, TD.isSlice, TD.isAgg, TD.known, TD.isSeq, partD, partOb, cellsAt, Blk.cells, if_true, if_false, splice, fillD, dl, byteD, Int.reduceBEq, beq_self_eq_true, retQ, retK, resD, resL, andR, elemCells, isByte, chunk, reduceCtorEq, okVal, okCell, List.replicate, ne_eq, Nat.reduceEqDiff, IntWalk.toNatUp]
    exact Sub.tup ⟨Sub.agg ⟨Sub.refl rfl, Sub.nil _ _, Sub.refl rfl, Sub.refl rfl, trivial⟩, Sub.refl rfl, trivial⟩
  | inl x =>
    obtain ⟨b, k⟩ := x
    rw [hn] at hnx
    have hnx : nextF s 0 = (b, (k : Int), 0) := (show nextF s 0 = _ from hnx).trans (by simp)
    obtain ⟨hb1, hk1, hk2, hk3⟩ := next_some hn
    have hbr : b.length ≤ reach := by rw [reach_lit]; omega
    simp (disch := (first | omega | (simp only [List.length_take, List.length_drop, List.length_append, List.length_map, List.length_cons, List.length_nil]; done) | (simp only [List.length_take, List.length_drop, List.length_append, List.length_map, List.length_cons, List.length_nil]; omega))) only [hnx, nextD, W1, ↓W2, unbyte, implies_true, ← List.map_take, ← List.map_drop, bne_self_eq_false, eqCells, flatTD, Nat.reducePow, ayield, eq_self, exists_eq_left', exists_eq_left, Int.reduceLE, Int.reduceLT, Nat.reduceLeDiff, Int.reduceToNat, Int.reduceAdd, Int.reduceSub, Int.reduceMul, Int.reduceNeg, Int.reduceEq, argEnv, aeval, get, put, ofVal, ofVals, List.map, cond_true, cond_false, Nat.reduceBEq, nexts, allocs, countAllocs, pad, Nat.reduceAdd, Nat.reduceMul, Nat.reduceSub, Nat.reduceLT, isVoid, aNilCheck, aExtract, aInt, aStr, aConv, aSlice, asNat?, cutTight, aIndexAddr, aFieldAddr, aField, aIndex, aLoad, aStore, aAlloc, aBox, aBuild, aBuildSlice, aMakeSlice, aLen, aMax, aMin, aAppend, aCopy, aBuiltin, TD.isSlice, TD.isAgg, TD.known, TD.isSeq, partD, partOb, cellsAt, Blk.cells, if_true, if_false, splice, fillD, dl, byteD, Int.reduceBEq, beq_self_eq_true, retQ, retK, resD, resL, andR, elemCells, isByte, chunk, reduceCtorEq, okVal, okCell, List.replicate, ne_eq, Nat.reduceEqDiff, IntWalk.toNatUp]
    generalize hb0 : ((k : Int) != (s.length : Int)) = bad0
    have r0 := RS.start b bad0
    obtain ⟨v, a1, bad1, e1, l1, r1, z1⟩ := num_step r0
    obtain ⟨c, a2, bad2, e2, l2, r2, z2⟩ := num_step r1
    refine callE 1 (number_ok b 0 bad0 hbr (by simp only [okInt, min_i64, max_i64]; omega)) rfl rfl rfl rfl rfl rfl ?_
    have e1 : numR b 0 bad0 = ((v : Int), (a1 : Int), bad1) := e1
    simp (disch := (first | omega | (simp only [List.length_take, List.length_drop, List.length_append, List.length_map, List.length_cons, List.length_nil]; done) | (simp only [List.length_take, List.length_drop, List.length_append, List.length_map, List.length_cons, List.length_nil]; omega))) only [e1, W1, ↓W2, unbyte, implies_true, ← List.map_take, ← List.map_drop, bne_self_eq_false, eqCells, flatTD, Nat.reducePow, ayield, eq_self, exists_eq_left', exists_eq_left, Int.reduceLE, Int.reduceLT, Nat.reduceLeDiff, Int.reduceToNat, Int.reduceAdd, Int.reduceSub, Int.reduceMul, Int.reduceNeg, Int.reduceEq, argEnv, aeval, get, put, ofVal, ofVals, List.map, cond_true, cond_false, Nat.reduceBEq, nexts, allocs, countAllocs, pad, Nat.reduceAdd, Nat.reduceMul, Nat.reduceSub, Nat.reduceLT, isVoid, aNilCheck, aExtract, aInt, aStr, aConv, aSlice, asNat?, cutTight, aIndexAddr, aFieldAddr, aField, aIndex, aLoad, aStore, aAlloc, aBox, aBuild, aBuildSlice, aMakeSlice, aLen, aMax, aMin, aAppend, aCopy, aBuiltin, TD.isSlice, TD.isAgg, TD.known, TD.isSeq, partD, partOb, cellsAt, Blk.cells, if_true, if_false, splice, fillD, dl, byteD, Int.reduceBEq, beq_self_eq_true, retQ, retK, resD, resL, andR, elemCells, isByte, chunk, reduceCtorEq, okVal, okCell, List.replicate, ne_eq, Nat.reduceEqDiff, IntWalk.toNatUp]
    refine callE 1 (number_ok b a1 bad1 hbr (by have := r1.le; simp only [okInt, min_i64, max_i64]; omega)) rfl rfl rfl rfl rfl rfl ?_
    simp (disch := (first | omega | (simp only [List.length_take, List.length_drop, List.length_append, List.length_map, List.length_cons, List.length_nil]; done) | (simp only [List.length_take, List.length_drop, List.length_append, List.length_map, List.length_cons, List.length_nil]; omega))) only [e2, W1, ↓W2, unbyte, implies_true, ← List.map_take, ← List.map_drop, bne_self_eq_false, eqCells, flatTD, Nat.reducePow, ayield, eq_self, exists_eq_left', exists_eq_left, Int.reduceLE, Int.reduceLT, Nat.reduceLeDiff, Int.reduceToNat, Int.reduceAdd, Int.reduceSub, Int.reduceMul, Int.reduceNeg, Int.reduceEq, argEnv, aeval, get, put, ofVal, ofVals, List.map, cond_true, cond_false, Nat.reduceBEq, nexts, allocs, countAllocs, pad, Nat.reduceAdd, Nat.reduceMul, Nat.reduceSub, Nat.reduceLT, isVoid, aNilCheck, aExtract, aInt, aStr, aConv, aSlice, asNat?, cutTight, aIndexAddr, aFieldAddr, aField, aIndex, aLoad, aStore, aAlloc, aBox, aBuild, aBuildSlice, aMakeSlice, aLen, aMax, aMin, aAppend, aCopy, aBuiltin, TD.isSlice, TD.isAgg, TD.known, TD.isSeq, partD, partOb, cellsAt, Blk.cells, if_true, if_false, splice, fillD, dl, byteD, Int.reduceBEq, beq_self_eq_true, retQ, retK, resD, resL, andR, elemCells, isByte, chunk, reduceCtorEq, okVal, okCell, List.replicate, ne_eq, Nat.reduceEqDiff, IntWalk.toNatUp]
    have r2 : RS b bad0 [v, c] a2 bad2 := r2
    cases h64 : decide ((c : Int) > 64)
    case true =>
      have h64' := of_decide_eq_true h64
      have hb2 : bad2 = false := by
        cases bad2 with
        | false => rfl
        | true => have := z2 rfl; omega
      have hg : getMM s = (zeroMM, 3) := get_no hn (.inr (.inl (parse_big (r2.yes hb2).2 (by omega))))
      simp (disch := (first | omega | (simp only [List.length_take, List.length_drop, List.length_append, List.length_map, List.length_cons, List.length_nil]; done) | (simp only [List.length_take, List.length_drop, List.length_append, List.length_map, List.length_cons, List.length_nil]; omega))) only [hg, MM.d, zeroMM, W1, ↓W2, unbyte, implies_true, ← List.map_take, ← List.map_drop, bne_self_eq_false, eqCells, flatTD, Nat.reducePow, ayield, eq_self, exists_eq_left', exists_eq_left, Int.reduceLE, Int.reduceLT, Nat.reduceLeDiff, Int.reduceToNat, Int.reduceAdd, Int.reduceSub, Int.reduceMul, Int.reduceNeg, Int.reduceEq, argEnv, aeval, get, put, ofVal, ofVals, List.map, cond_true, cond_false, Nat.reduceBEq, nexts, allocs, countAllocs, pad, Nat.reduceAdd, Nat.reduceMul, Nat.reduceSub, Nat.reduceLT, isVoid, aNilCheck, aExtract, aInt, aStr, aConv, aSlice, asNat?, cutTight, aIndexAddr, aFieldAddr, aField, aIndex, aLoad, aStore, aAlloc, aBox, aBuild, aBuildSlice, aMakeSlice, aLen, aMax, aMin, aAppend, aCopy, aBuiltin, TD.isSlice, TD.isAgg, TD.known, TD.isSeq, partD, partOb, cellsAt, Blk.cells, if_true, if_false, splice, fillD, dl, byteD, Int.reduceBEq, beq_self_eq_true, retQ, retK, resD, resL, andR, elemCells, isByte, chunk, reduceCtorEq, okVal, okCell, List.replicate, ne_eq, Nat.reduceEqDiff, IntWalk.toNatUp]
      exact Sub.tup ⟨Sub.agg ⟨Sub.refl rfl, Sub.nil _ _, Sub.refl rfl, Sub.refl rfl, trivial⟩, Sub.refl rfl, trivial⟩
    have h64' := of_decide_eq_false h64
    simp (disch := (first | omega | (simp only [List.length_take, List.length_drop, List.length_append, List.length_map, List.length_cons, List.length_nil]; done) | (simp only [List.length_take, List.length_drop, List.length_append, List.length_map, List.length_cons, List.length_nil]; omega))) only [W1, ↓W2, unbyte, implies_true, ← List.map_take, ← List.map_drop, bne_self_eq_false, eqCells, flatTD, Nat.reducePow, ayield, eq_self, exists_eq_left', exists_eq_left, Int.reduceLE, Int.reduceLT, Nat.reduceLeDiff, Int.reduceToNat, Int.reduceAdd, Int.reduceSub, Int.reduceMul, Int.reduceNeg, Int.reduceEq, argEnv, aeval, get, put, ofVal, ofVals, List.map, cond_true, cond_false, Nat.reduceBEq, nexts, allocs, countAllocs, pad, Nat.reduceAdd, Nat.reduceMul, Nat.reduceSub, Nat.reduceLT, isVoid, aNilCheck, aExtract, aInt, aStr, aConv, aSlice, asNat?, cutTight, aIndexAddr, aFieldAddr, aField, aIndex, aLoad, aStore, aAlloc, aBox, aBuild, aBuildSlice, aMakeSlice, aLen, aMax, aMin, aAppend, aCopy, aBuiltin, TD.isSlice, TD.isAgg, TD.known, TD.isSeq, partD, partOb, cellsAt, Blk.cells, if_true, if_false, splice, fillD, dl, byteD, Int.reduceBEq, beq_self_eq_true, retQ, retK, resD, resL, andR, elemCells, isByte, chunk, reduceCtorEq, okVal, okCell, List.replicate, ne_eq, Nat.reduceEqDiff, IntWalk.toNatUp]
    refine loopR (fun st : Nat × List Nat × Nat × Bool => [(2, .ptr 0 0), (7, .ptr 1 0), (8, .ptr 2 0), (35, .int .i64 c), (36, .int .i64 st.1)]) (segH [.int .i64 0, .nil, .int .i64 0, .int .u32 0] b v) (fun st => st.1 ≤ c ∧ st.2.1.length = st.1 ∧ RS b bad0 (v :: c :: st.2.1) st.2.2.1 st.2.2.2) (fun st => c - st.1) (0, [], a2, bad2) ⟨Nat.zero_le _, rfl, r2⟩ ?_ ?_
    · refine fitsR [0, 1, 2] ?_ ?_ (by simp [liveIds, segH]) rfl
      · simp only [Int.natCast_add, Int.cast_ofNat_Int, fe_nil, fe_data, fe_ref, fe_ptr, fh_nil, fh_dead, fh_live, fh_froz, liveIds, ni_int, ni_bool, ni_str, ni_agg, ni_nil, ni_sl, ni_cp, ni_nilp, ni_fn, ni_nilf, ni_tup, ni_niface, ni_iface, ni_nilL, ni_consL, Bool.and_self, List.length_cons, List.length_nil, get, cond_true, cond_false, Nat.reduceBEq, List.getElem?_cons_zero, List.getElem?_cons_succ, true_and, and_true, eq_self, List.getD_cons_zero, List.getD_cons_succ, Nat.reduceAdd, Nat.reduceLT]
      · simp only [Int.natCast_add, Int.cast_ofNat_Int, fe_nil, fe_data, fe_ref, fe_ptr, fh_nil, fh_dead, fh_live, fh_froz, liveIds, ni_int, ni_bool, ni_str, ni_agg, ni_nil, ni_sl, ni_cp, ni_nilp, ni_fn, ni_nilf, ni_tup, ni_niface, ni_iface, ni_nilL, ni_consL, Bool.and_self, List.length_cons, List.length_nil, get, cond_true, cond_false, Nat.reduceBEq, List.getElem?_cons_zero, List.getElem?_cons_succ, true_and, and_true, eq_self, List.getD_cons_zero, List.getD_cons_succ, Nat.reduceAdd, Nat.reduceLT, segH, if_true]
    intro ⟨i, l, a, bad⟩ ⟨hi, hll, hR⟩
    simp only [] at hi hll hR
    have hale := hR.le
    have oka : okInt .i64 (a : Int) := by simp only [okInt, min_i64, max_i64]; omega
    obtain ⟨x, a', bad', ex, lx, rx, zx⟩ := num_step hR
    have rx : RS b bad0 (v :: c :: (l ++ [x])) a' bad' := rx
    cases h1 : decide ((i : Int) < (c : Int))
    case true =>
      have h1' := of_decide_eq_true h1
      rcases Nat.eq_zero_or_pos i with hi0 | hi0
      · subst hi0
        have hH : segH [.int .i64 0, .nil, .int .i64 0, .int .u32 0] b v (0, l, a, bad) = [.live [.int .i64 0, .nil, .int .i64 0, .int .u32 0], .live [.str b, .int .i64 a, .bool bad], .live [.int .i64 v, .nil, .int .i64 0, .int .u32 0]] := rfl
        have h1z : decide ((0 : Int) < (c : Int)) = true := h1
        simp (disch := (first | omega | (simp only [List.length_take, List.length_drop, List.length_append, List.length_map, List.length_cons, List.length_nil]; done) | (simp only [List.length_take, List.length_drop, List.length_append, List.length_map, List.length_cons, List.length_nil]; omega))) only [hH, h1z, W1, ↓W2, unbyte, implies_true, ← List.map_take, ← List.map_drop, bne_self_eq_false, eqCells, flatTD, Nat.reducePow, ayield, eq_self, exists_eq_left', exists_eq_left, Int.reduceLE, Int.reduceLT, Nat.reduceLeDiff, Int.reduceToNat, Int.reduceAdd, Int.reduceSub, Int.reduceMul, Int.reduceNeg, Int.reduceEq, argEnv, aeval, get, put, ofVal, ofVals, List.map, cond_true, cond_false, Nat.reduceBEq, nexts, allocs, countAllocs, pad, Nat.reduceAdd, Nat.reduceMul, Nat.reduceSub, Nat.reduceLT, isVoid, aNilCheck, aExtract, aInt, aStr, aConv, aSlice, asNat?, cutTight, aIndexAddr, aFieldAddr, aField, aIndex, aLoad, aStore, aAlloc, aBox, aBuild, aBuildSlice, aMakeSlice, aLen, aMax, aMin, aAppend, aCopy, aBuiltin, TD.isSlice, TD.isAgg, TD.known, TD.isSeq, partD, partOb, cellsAt, Blk.cells, if_true, if_false, splice, fillD, dl, byteD, Int.reduceBEq, beq_self_eq_true, retQ, retK, resD, resL, andR, elemCells, isByte, chunk, reduceCtorEq, okVal, okCell, List.replicate, ne_eq, Nat.reduceEqDiff, IntWalk.toNatUp]
        refine draw_fast 0 ?_ ?_
        · decide +kernel
        simp (disch := (first | omega | (simp only [List.length_take, List.length_drop, List.length_append, List.length_map, List.length_cons, List.length_nil]; done) | (simp only [List.length_take, List.length_drop, List.length_append, List.length_map, List.length_cons, List.length_nil]; omega))) only [W1, ↓W2, unbyte, implies_true, ← List.map_take, ← List.map_drop, bne_self_eq_false, eqCells, flatTD, Nat.reducePow, ayield, eq_self, exists_eq_left', exists_eq_left, Int.reduceLE, Int.reduceLT, Nat.reduceLeDiff, Int.reduceToNat, Int.reduceAdd, Int.reduceSub, Int.reduceMul, Int.reduceNeg, Int.reduceEq, argEnv, aeval, get, put, ofVal, ofVals, List.map, cond_true, cond_false, Nat.reduceBEq, nexts, allocs, countAllocs, pad, Nat.reduceAdd, Nat.reduceMul, Nat.reduceSub, Nat.reduceLT, isVoid, aNilCheck, aExtract, aInt, aStr, aConv, aSlice, asNat?, cutTight, aIndexAddr, aFieldAddr, aField, aIndex, aLoad, aStore, aAlloc, aBox, aBuild, aBuildSlice, aMakeSlice, aLen, aMax, aMin, aAppend, aCopy, aBuiltin, TD.isSlice, TD.isAgg, TD.known, TD.isSeq, partD, partOb, cellsAt, Blk.cells, if_true, if_false, splice, fillD, dl, byteD, Int.reduceBEq, beq_self_eq_true, retQ, retK, resD, resL, andR, elemCells, isByte, chunk, reduceCtorEq, okVal, okCell, List.replicate, ne_eq, Nat.reduceEqDiff, IntWalk.toNatUp]
        refine tcE 1 (number_ok b a bad hbr oka) rfl rfl rfl rfl rfl rfl ?_
        simp (disch := (first | omega | (simp only [List.length_take, List.length_drop, List.length_append, List.length_map, List.length_cons, List.length_nil]; done) | (simp only [List.length_take, List.length_drop, List.length_append, List.length_map, List.length_cons, List.length_nil]; omega))) only [ex, W1, ↓W2, unbyte, implies_true, ← List.map_take, ← List.map_drop, bne_self_eq_false, eqCells, flatTD, Nat.reducePow, ayield, eq_self, exists_eq_left', exists_eq_left, Int.reduceLE, Int.reduceLT, Nat.reduceLeDiff, Int.reduceToNat, Int.reduceAdd, Int.reduceSub, Int.reduceMul, Int.reduceNeg, Int.reduceEq, argEnv, aeval, get, put, ofVal, ofVals, List.map, cond_true, cond_false, Nat.reduceBEq, nexts, allocs, countAllocs, pad, Nat.reduceAdd, Nat.reduceMul, Nat.reduceSub, Nat.reduceLT, isVoid, aNilCheck, aExtract, aInt, aStr, aConv, aSlice, asNat?, cutTight, aIndexAddr, aFieldAddr, aField, aIndex, aLoad, aStore, aAlloc, aBox, aBuild, aBuildSlice, aMakeSlice, aLen, aMax, aMin, aAppend, aCopy, aBuiltin, TD.isSlice, TD.isAgg, TD.known, TD.isSeq, partD, partOb, cellsAt, Blk.cells, if_true, if_false, splice, fillD, dl, byteD, Int.reduceBEq, beq_self_eq_true, retQ, retK, resD, resL, andR, elemCells, isByte, chunk, reduceCtorEq, okVal, okCell, List.replicate, ne_eq, Nat.reduceEqDiff, IntWalk.toNatUp]
        refine tend_fast ?_ ?_
        · decide +kernel
        simp (disch := (first | omega | (simp only [List.length_take, List.length_drop, List.length_append, List.length_map, List.length_cons, List.length_nil]; done) | (simp only [List.length_take, List.length_drop, List.length_append, List.length_map, List.length_cons, List.length_nil]; omega))) only [W1, ↓W2, unbyte, implies_true, ← List.map_take, ← List.map_drop, bne_self_eq_false, eqCells, flatTD, Nat.reducePow, ayield, eq_self, exists_eq_left', exists_eq_left, Int.reduceLE, Int.reduceLT, Nat.reduceLeDiff, Int.reduceToNat, Int.reduceAdd, Int.reduceSub, Int.reduceMul, Int.reduceNeg, Int.reduceEq, argEnv, aeval, get, put, ofVal, ofVals, List.map, cond_true, cond_false, Nat.reduceBEq, nexts, allocs, countAllocs, pad, Nat.reduceAdd, Nat.reduceMul, Nat.reduceSub, Nat.reduceLT, isVoid, aNilCheck, aExtract, aInt, aStr, aConv, aSlice, asNat?, cutTight, aIndexAddr, aFieldAddr, aField, aIndex, aLoad, aStore, aAlloc, aBox, aBuild, aBuildSlice, aMakeSlice, aLen, aMax, aMin, aAppend, aCopy, aBuiltin, TD.isSlice, TD.isAgg, TD.known, TD.isSeq, partD, partOb, cellsAt, Blk.cells, if_true, if_false, splice, fillD, dl, byteD, Int.reduceBEq, beq_self_eq_true, retQ, retK, resD, resL, andR, elemCells, isByte, chunk, reduceCtorEq, okVal, okCell, List.replicate, ne_eq, Nat.reduceEqDiff, IntWalk.toNatUp]
        have hl0 : l = [] := List.length_eq_zero_iff.1 hll
        subst hl0
        refine ⟨(0 + 1, [] ++ [x], a', bad'), ⟨by simp only []; omega, rfl, rx⟩, by simp only []; omega, fitsR [0, 1, 2, 4] ?_ ?_ (by simp [segH, liveIds]) rfl⟩
        · simp only [Int.natCast_add, Int.cast_ofNat_Int, fe_nil, fe_data, fe_ref, fe_ptr, fh_nil, fh_dead, fh_live, fh_froz, liveIds, ni_int, ni_bool, ni_str, ni_agg, ni_nil, ni_sl, ni_cp, ni_nilp, ni_fn, ni_nilf, ni_tup, ni_niface, ni_iface, ni_nilL, ni_consL, Bool.and_self, List.length_cons, List.length_nil, get, cond_true, cond_false, Nat.reduceBEq, List.getElem?_cons_zero, List.getElem?_cons_succ, true_and, and_true, eq_self, List.getD_cons_zero, List.getD_cons_succ, Nat.reduceAdd, Nat.reduceLT]
        · skip
          have hH2 : segH [.int .i64 0, .nil, .int .i64 0, .int .u32 0] b v (0 + 1, [] ++ [x], a', bad') = [.live [.int .i64 0, .nil, .int .i64 0, .int .u32 0], .live [.str b, .int .i64 a', .bool bad'], .live [.int .i64 v, .ref 3 0 (0 + 1) 1, .int .i64 0, .int .u32 0], .live ((([] ++ [x]).map Int.ofNat).map (D.int .i64))] := if_neg (by simp only []; omega)
          rw [hH2]
          refine ⟨⟨rfl, rfl⟩, ⟨rfl, rfl⟩, ⟨rfl, rfl⟩, ⟨bnd_ints _ _ _, ?_⟩, trivial⟩
          simp only [renBlk, ren_ints, List.getElem?_cons_succ, List.getElem?_cons_zero, List.map_append, List.map]
          rfl
      · have hH : segH [.int .i64 0, .nil, .int .i64 0, .int .u32 0] b v (i, l, a, bad) = [.live [.int .i64 0, .nil, .int .i64 0, .int .u32 0], .live [.str b, .int .i64 a, .bool bad], .live [.int .i64 v, .ref 3 0 i 1, .int .i64 0, .int .u32 0], .live ((l.map Int.ofNat).map (D.int .i64))] := if_neg (by simp only []; omega)
        have hml : (l.map Int.ofNat).length = i := by rw [List.length_map, hll]
        have htk : (l.map Int.ofNat).take i = l.map Int.ofNat := List.take_of_length_le (by omega)
        simp (disch := (first | omega | (simp only [List.length_take, List.length_drop, List.length_append, List.length_map, List.length_cons, List.length_nil]; done) | (simp only [List.length_take, List.length_drop, List.length_append, List.length_map, List.length_cons, List.length_nil]; omega))) only [hH, h1, W1, ↓W2, unbyte, implies_true, ← List.map_take, ← List.map_drop, bne_self_eq_false, eqCells, flatTD, Nat.reducePow, ayield, eq_self, exists_eq_left', exists_eq_left, Int.reduceLE, Int.reduceLT, Nat.reduceLeDiff, Int.reduceToNat, Int.reduceAdd, Int.reduceSub, Int.reduceMul, Int.reduceNeg, Int.reduceEq, argEnv, aeval, get, put, ofVal, ofVals, List.map, cond_true, cond_false, Nat.reduceBEq, nexts, allocs, countAllocs, pad, Nat.reduceAdd, Nat.reduceMul, Nat.reduceSub, Nat.reduceLT, isVoid, aNilCheck, aExtract, aInt, aStr, aConv, aSlice, asNat?, cutTight, aIndexAddr, aFieldAddr, aField, aIndex, aLoad, aStore, aAlloc, aBox, aBuild, aBuildSlice, aMakeSlice, aLen, aMax, aMin, aAppend, aCopy, aBuiltin, TD.isSlice, TD.isAgg, TD.known, TD.isSeq, partD, partOb, cellsAt, Blk.cells, if_true, if_false, splice, fillD, dl, byteD, Int.reduceBEq, beq_self_eq_true, retQ, retK, resD, resL, andR, elemCells, isByte, chunk, reduceCtorEq, okVal, okCell, List.replicate, ne_eq, Nat.reduceEqDiff, IntWalk.toNatUp]
        refine draw_fast 0 ?_ ?_
        · decide +kernel
        simp (disch := (first | omega | (simp only [List.length_take, List.length_drop, List.length_append, List.length_map, List.length_cons, List.length_nil]; done) | (simp only [List.length_take, List.length_drop, List.length_append, List.length_map, List.length_cons, List.length_nil]; omega))) only [W1, ↓W2, unbyte, implies_true, ← List.map_take, ← List.map_drop, bne_self_eq_false, eqCells, flatTD, Nat.reducePow, ayield, eq_self, exists_eq_left', exists_eq_left, Int.reduceLE, Int.reduceLT, Nat.reduceLeDiff, Int.reduceToNat, Int.reduceAdd, Int.reduceSub, Int.reduceMul, Int.reduceNeg, Int.reduceEq, argEnv, aeval, get, put, ofVal, ofVals, List.map, cond_true, cond_false, Nat.reduceBEq, nexts, allocs, countAllocs, pad, Nat.reduceAdd, Nat.reduceMul, Nat.reduceSub, Nat.reduceLT, isVoid, aNilCheck, aExtract, aInt, aStr, aConv, aSlice, asNat?, cutTight, aIndexAddr, aFieldAddr, aField, aIndex, aLoad, aStore, aAlloc, aBox, aBuild, aBuildSlice, aMakeSlice, aLen, aMax, aMin, aAppend, aCopy, aBuiltin, TD.isSlice, TD.isAgg, TD.known, TD.isSeq, partD, partOb, cellsAt, Blk.cells, if_true, if_false, splice, fillD, dl, byteD, Int.reduceBEq, beq_self_eq_true, retQ, retK, resD, resL, andR, elemCells, isByte, chunk, reduceCtorEq, okVal, okCell, List.replicate, ne_eq, Nat.reduceEqDiff, IntWalk.toNatUp]
        refine tcE 1 (number_ok b a bad hbr oka) rfl rfl rfl rfl rfl rfl ?_
        simp (disch := (first | omega | (simp only [List.length_take, List.length_drop, List.length_append, List.length_map, List.length_cons, List.length_nil]; done) | (simp only [List.length_take, List.length_drop, List.length_append, List.length_map, List.length_cons, List.length_nil]; omega))) only [ex, hll, htk, W1, ↓W2, unbyte, implies_true, ← List.map_take, ← List.map_drop, bne_self_eq_false, eqCells, flatTD, Nat.reducePow, ayield, eq_self, exists_eq_left', exists_eq_left, Int.reduceLE, Int.reduceLT, Nat.reduceLeDiff, Int.reduceToNat, Int.reduceAdd, Int.reduceSub, Int.reduceMul, Int.reduceNeg, Int.reduceEq, argEnv, aeval, get, put, ofVal, ofVals, List.map, cond_true, cond_false, Nat.reduceBEq, nexts, allocs, countAllocs, pad, Nat.reduceAdd, Nat.reduceMul, Nat.reduceSub, Nat.reduceLT, isVoid, aNilCheck, aExtract, aInt, aStr, aConv, aSlice, asNat?, cutTight, aIndexAddr, aFieldAddr, aField, aIndex, aLoad, aStore, aAlloc, aBox, aBuild, aBuildSlice, aMakeSlice, aLen, aMax, aMin, aAppend, aCopy, aBuiltin, TD.isSlice, TD.isAgg, TD.known, TD.isSeq, partD, partOb, cellsAt, Blk.cells, if_true, if_false, splice, fillD, dl, byteD, Int.reduceBEq, beq_self_eq_true, retQ, retK, resD, resL, andR, elemCells, isByte, chunk, reduceCtorEq, okVal, okCell, List.replicate, ne_eq, Nat.reduceEqDiff, IntWalk.toNatUp]
        refine tend_fast ?_ ?_
        · decide +kernel
        simp (disch := (first | omega | (simp only [List.length_take, List.length_drop, List.length_append, List.length_map, List.length_cons, List.length_nil]; done) | (simp only [List.length_take, List.length_drop, List.length_append, List.length_map, List.length_cons, List.length_nil]; omega))) only [W1, ↓W2, unbyte, implies_true, ← List.map_take, ← List.map_drop, bne_self_eq_false, eqCells, flatTD, Nat.reducePow, ayield, eq_self, exists_eq_left', exists_eq_left, Int.reduceLE, Int.reduceLT, Nat.reduceLeDiff, Int.reduceToNat, Int.reduceAdd, Int.reduceSub, Int.reduceMul, Int.reduceNeg, Int.reduceEq, argEnv, aeval, get, put, ofVal, ofVals, List.map, cond_true, cond_false, Nat.reduceBEq, nexts, allocs, countAllocs, pad, Nat.reduceAdd, Nat.reduceMul, Nat.reduceSub, Nat.reduceLT, isVoid, aNilCheck, aExtract, aInt, aStr, aConv, aSlice, asNat?, cutTight, aIndexAddr, aFieldAddr, aField, aIndex, aLoad, aStore, aAlloc, aBox, aBuild, aBuildSlice, aMakeSlice, aLen, aMax, aMin, aAppend, aCopy, aBuiltin, TD.isSlice, TD.isAgg, TD.known, TD.isSeq, partD, partOb, cellsAt, Blk.cells, if_true, if_false, splice, fillD, dl, byteD, Int.reduceBEq, beq_self_eq_true, retQ, retK, resD, resL, andR, elemCells, isByte, chunk, reduceCtorEq, okVal, okCell, List.replicate, ne_eq, Nat.reduceEqDiff, IntWalk.toNatUp]
        refine ⟨(i + 1, l ++ [x], a', bad'), ⟨by simp only []; omega, by simp only [List.length_append, hll]; rfl, rx⟩, by simp only []; omega, fitsR [0, 1, 2, 5] ?_ ?_ (by
          have hH3 : segH [.int .i64 0, .nil, .int .i64 0, .int .u32 0] b v (i + 1, l ++ [x], a', bad') = [.live [.int .i64 0, .nil, .int .i64 0, .int .u32 0], .live [.str b, .int .i64 a', .bool bad'], .live [.int .i64 v, .ref 3 0 (i + 1) 1, .int .i64 0, .int .u32 0], .live (((l ++ [x]).map Int.ofNat).map (D.int .i64))] := if_neg (by simp only []; omega)
          rw [hH3]; simp [liveIds]) rfl⟩
        · simp only [Int.natCast_add, Int.cast_ofNat_Int, fe_nil, fe_data, fe_ref, fe_ptr, fh_nil, fh_dead, fh_live, fh_froz, liveIds, ni_int, ni_bool, ni_str, ni_agg, ni_nil, ni_sl, ni_cp, ni_nilp, ni_fn, ni_nilf, ni_tup, ni_niface, ni_iface, ni_nilL, ni_consL, Bool.and_self, List.length_cons, List.length_nil, get, cond_true, cond_false, Nat.reduceBEq, List.getElem?_cons_zero, List.getElem?_cons_succ, true_and, and_true, eq_self, List.getD_cons_zero, List.getD_cons_succ, Nat.reduceAdd, Nat.reduceLT]
        · skip
          have hH2 : segH [.int .i64 0, .nil, .int .i64 0, .int .u32 0] b v (i + 1, l ++ [x], a', bad') = [.live [.int .i64 0, .nil, .int .i64 0, .int .u32 0], .live [.str b, .int .i64 a', .bool bad'], .live [.int .i64 v, .ref 3 0 (i + 1) 1, .int .i64 0, .int .u32 0], .live (((l ++ [x]).map Int.ofNat).map (D.int .i64))] := if_neg (by simp only []; omega)
          rw [hH2]
          refine ⟨⟨rfl, rfl⟩, ⟨rfl, rfl⟩, ⟨rfl, rfl⟩, ⟨bnd_ints _ _ _, ?_⟩, trivial⟩
          simp only [renBlk, ren_ints, List.getElem?_cons_succ, List.getElem?_cons_zero, List.map_append, List.map]
          rfl
    have hic : i = c := by have := of_decide_eq_false h1; omega
    subst hic
    obtain ⟨g1, g2⟩ := get_fin hn (hb0.symm ▸ r2) (hb0.symm ▸ rx) hll (by omega)
    rcases Nat.eq_zero_or_pos i with hi0 | hi0
    · subst hi0
      have hl0 : l = [] := List.length_eq_zero_iff.1 hll
      subst hl0
      have hH : segH [.int .i64 0, .nil, .int .i64 0, .int .u32 0] b v (0, [], a, bad) = [.live [.int .i64 0, .nil, .int .i64 0, .int .u32 0], .live [.str b, .int .i64 a, .bool bad], .live [.int .i64 v, .nil, .int .i64 0, .int .u32 0]] := rfl
      simp (disch := (first | omega | (simp only [List.length_take, List.length_drop, List.length_append, List.length_map, List.length_cons, List.length_nil]; done) | (simp only [List.length_take, List.length_drop, List.length_append, List.length_map, List.length_cons, List.length_nil]; omega))) only [hH, W1, ↓W2, unbyte, implies_true, ← List.map_take, ← List.map_drop, bne_self_eq_false, eqCells, flatTD, Nat.reducePow, ayield, eq_self, exists_eq_left', exists_eq_left, Int.reduceLE, Int.reduceLT, Nat.reduceLeDiff, Int.reduceToNat, Int.reduceAdd, Int.reduceSub, Int.reduceMul, Int.reduceNeg, Int.reduceEq, argEnv, aeval, get, put, ofVal, ofVals, List.map, cond_true, cond_false, Nat.reduceBEq, nexts, allocs, countAllocs, pad, Nat.reduceAdd, Nat.reduceMul, Nat.reduceSub, Nat.reduceLT, isVoid, aNilCheck, aExtract, aInt, aStr, aConv, aSlice, asNat?, cutTight, aIndexAddr, aFieldAddr, aField, aIndex, aLoad, aStore, aAlloc, aBox, aBuild, aBuildSlice, aMakeSlice, aLen, aMax, aMin, aAppend, aCopy, aBuiltin, TD.isSlice, TD.isAgg, TD.known, TD.isSeq, partD, partOb, cellsAt, Blk.cells, if_true, if_false, splice, fillD, dl, byteD, Int.reduceBEq, beq_self_eq_true, retQ, retK, resD, resL, andR, elemCells, isByte, chunk, reduceCtorEq, okVal, okCell, List.replicate, ne_eq, Nat.reduceEqDiff, IntWalk.toNatUp]
      refine callE 1 (number_ok b a bad hbr oka) rfl rfl rfl rfl rfl rfl ?_
      simp (disch := (first | omega | (simp only [List.length_take, List.length_drop, List.length_append, List.length_map, List.length_cons, List.length_nil]; done) | (simp only [List.length_take, List.length_drop, List.length_append, List.length_map, List.length_cons, List.length_nil]; omega))) only [ex, W1, ↓W2, unbyte, implies_true, ← List.map_take, ← List.map_drop, bne_self_eq_false, eqCells, flatTD, Nat.reducePow, ayield, eq_self, exists_eq_left', exists_eq_left, Int.reduceLE, Int.reduceLT, Nat.reduceLeDiff, Int.reduceToNat, Int.reduceAdd, Int.reduceSub, Int.reduceMul, Int.reduceNeg, Int.reduceEq, argEnv, aeval, get, put, ofVal, ofVals, List.map, cond_true, cond_false, Nat.reduceBEq, nexts, allocs, countAllocs, pad, Nat.reduceAdd, Nat.reduceMul, Nat.reduceSub, Nat.reduceLT, isVoid, aNilCheck, aExtract, aInt, aStr, aConv, aSlice, asNat?, cutTight, aIndexAddr, aFieldAddr, aField, aIndex, aLoad, aStore, aAlloc, aBox, aBuild, aBuildSlice, aMakeSlice, aLen, aMax, aMin, aAppend, aCopy, aBuiltin, TD.isSlice, TD.isAgg, TD.known, TD.isSeq, partD, partOb, cellsAt, Blk.cells, if_true, if_false, splice, fillD, dl, byteD, Int.reduceBEq, beq_self_eq_true, retQ, retK, resD, resL, andR, elemCells, isByte, chunk, reduceCtorEq, okVal, okCell, List.replicate, ne_eq, Nat.reduceEqDiff, IntWalk.toNatUp]
      refine callE 1 (sum_rd b a' bad' hbr rx.le) rfl rfl rfl rfl rfl rfl ?_
      cases hq : (sumR b a' bad').2
      · obtain ⟨p1, p2, p3⟩ := g2 hq
        have hw : ((sumR b a' bad').1 : Int) = ((sum4 (b.drop a')).toNat : Int) := by rw [p3, sum4_ps]
        simp (disch := (first | omega | (simp only [List.length_take, List.length_drop, List.length_append, List.length_map, List.length_cons, List.length_nil]; done) | (simp only [List.length_take, List.length_drop, List.length_append, List.length_map, List.length_cons, List.length_nil]; omega))) only [hq, hw, W1, ↓W2, unbyte, implies_true, ← List.map_take, ← List.map_drop, bne_self_eq_false, eqCells, flatTD, Nat.reducePow, ayield, eq_self, exists_eq_left', exists_eq_left, Int.reduceLE, Int.reduceLT, Nat.reduceLeDiff, Int.reduceToNat, Int.reduceAdd, Int.reduceSub, Int.reduceMul, Int.reduceNeg, Int.reduceEq, argEnv, aeval, get, put, ofVal, ofVals, List.map, cond_true, cond_false, Nat.reduceBEq, nexts, allocs, countAllocs, pad, Nat.reduceAdd, Nat.reduceMul, Nat.reduceSub, Nat.reduceLT, isVoid, aNilCheck, aExtract, aInt, aStr, aConv, aSlice, asNat?, cutTight, aIndexAddr, aFieldAddr, aField, aIndex, aLoad, aStore, aAlloc, aBox, aBuild, aBuildSlice, aMakeSlice, aLen, aMax, aMin, aAppend, aCopy, aBuiltin, TD.isSlice, TD.isAgg, TD.known, TD.isSeq, partD, partOb, cellsAt, Blk.cells, if_true, if_false, splice, fillD, dl, byteD, Int.reduceBEq, beq_self_eq_true, retQ, retK, resD, resL, andR, elemCells, isByte, chunk, reduceCtorEq, okVal, okCell, List.replicate, ne_eq, Nat.reduceEqDiff, IntWalk.toNatUp]
        cases hr : rightMM ⟨(v : Int), ([] : List Int), (x : Int), sum4 (b.drop a')⟩
        · have hg := get_no hn (.inr (.inr ⟨_, p1, hr⟩))
          refine callSub (mright_ok ⟨(v : Int), ([] : List Int), (x : Int), sum4 (b.drop a')⟩ (Nat.zero_le _)) ⟨Sub.agg ⟨Sub.refl rfl, Sub.nil _ _, Sub.refl rfl, Sub.refl rfl, trivial⟩, trivial⟩ ?_
          simp (disch := (first | omega | (simp only [List.length_take, List.length_drop, List.length_append, List.length_map, List.length_cons, List.length_nil]; done) | (simp only [List.length_take, List.length_drop, List.length_append, List.length_map, List.length_cons, List.length_nil]; omega))) only [hr, hg, MM.d, zeroMM, W1, ↓W2, unbyte, implies_true, ← List.map_take, ← List.map_drop, bne_self_eq_false, eqCells, flatTD, Nat.reducePow, ayield, eq_self, exists_eq_left', exists_eq_left, Int.reduceLE, Int.reduceLT, Nat.reduceLeDiff, Int.reduceToNat, Int.reduceAdd, Int.reduceSub, Int.reduceMul, Int.reduceNeg, Int.reduceEq, argEnv, aeval, get, put, ofVal, ofVals, List.map, cond_true, cond_false, Nat.reduceBEq, nexts, allocs, countAllocs, pad, Nat.reduceAdd, Nat.reduceMul, Nat.reduceSub, Nat.reduceLT, isVoid, aNilCheck, aExtract, aInt, aStr, aConv, aSlice, asNat?, cutTight, aIndexAddr, aFieldAddr, aField, aIndex, aLoad, aStore, aAlloc, aBox, aBuild, aBuildSlice, aMakeSlice, aLen, aMax, aMin, aAppend, aCopy, aBuiltin, TD.isSlice, TD.isAgg, TD.known, TD.isSeq, partD, partOb, cellsAt, Blk.cells, if_true, if_false, splice, fillD, dl, byteD, Int.reduceBEq, beq_self_eq_true, retQ, retK, resD, resL, andR, elemCells, isByte, chunk, reduceCtorEq, okVal, okCell, List.replicate, ne_eq, Nat.reduceEqDiff, IntWalk.toNatUp]
          exact Sub.tup ⟨Sub.agg ⟨Sub.refl rfl, Sub.nil _ _, Sub.refl rfl, Sub.refl rfl, trivial⟩, Sub.refl rfl, trivial⟩
        · have hg := get_yes hn p2 p1 hr
          refine callSub (mright_ok ⟨(v : Int), ([] : List Int), (x : Int), sum4 (b.drop a')⟩ (Nat.zero_le _)) ⟨Sub.agg ⟨Sub.refl rfl, Sub.nil _ _, Sub.refl rfl, Sub.refl rfl, trivial⟩, trivial⟩ ?_
          simp (disch := (first | omega | (simp only [List.length_take, List.length_drop, List.length_append, List.length_map, List.length_cons, List.length_nil]; done) | (simp only [List.length_take, List.length_drop, List.length_append, List.length_map, List.length_cons, List.length_nil]; omega))) only [hr, hg, MM.d, W1, ↓W2, unbyte, implies_true, ← List.map_take, ← List.map_drop, bne_self_eq_false, eqCells, flatTD, Nat.reducePow, ayield, eq_self, exists_eq_left', exists_eq_left, Int.reduceLE, Int.reduceLT, Nat.reduceLeDiff, Int.reduceToNat, Int.reduceAdd, Int.reduceSub, Int.reduceMul, Int.reduceNeg, Int.reduceEq, argEnv, aeval, get, put, ofVal, ofVals, List.map, cond_true, cond_false, Nat.reduceBEq, nexts, allocs, countAllocs, pad, Nat.reduceAdd, Nat.reduceMul, Nat.reduceSub, Nat.reduceLT, isVoid, aNilCheck, aExtract, aInt, aStr, aConv, aSlice, asNat?, cutTight, aIndexAddr, aFieldAddr, aField, aIndex, aLoad, aStore, aAlloc, aBox, aBuild, aBuildSlice, aMakeSlice, aLen, aMax, aMin, aAppend, aCopy, aBuiltin, TD.isSlice, TD.isAgg, TD.known, TD.isSeq, partD, partOb, cellsAt, Blk.cells, if_true, if_false, splice, fillD, dl, byteD, Int.reduceBEq, beq_self_eq_true, retQ, retK, resD, resL, andR, elemCells, isByte, chunk, reduceCtorEq, okVal, okCell, List.replicate, ne_eq, Nat.reduceEqDiff, IntWalk.toNatUp]
          exact Sub.tup ⟨Sub.agg ⟨Sub.refl rfl, Sub.nil _ _, Sub.refl rfl, Sub.refl rfl, trivial⟩, Sub.refl rfl, trivial⟩
      · have hg := g1 hq
        simp (disch := (first | omega | (simp only [List.length_take, List.length_drop, List.length_append, List.length_map, List.length_cons, List.length_nil]; done) | (simp only [List.length_take, List.length_drop, List.length_append, List.length_map, List.length_cons, List.length_nil]; omega))) only [hq, hg, MM.d, zeroMM, W1, ↓W2, unbyte, implies_true, ← List.map_take, ← List.map_drop, bne_self_eq_false, eqCells, flatTD, Nat.reducePow, ayield, eq_self, exists_eq_left', exists_eq_left, Int.reduceLE, Int.reduceLT, Nat.reduceLeDiff, Int.reduceToNat, Int.reduceAdd, Int.reduceSub, Int.reduceMul, Int.reduceNeg, Int.reduceEq, argEnv, aeval, get, put, ofVal, ofVals, List.map, cond_true, cond_false, Nat.reduceBEq, nexts, allocs, countAllocs, pad, Nat.reduceAdd, Nat.reduceMul, Nat.reduceSub, Nat.reduceLT, isVoid, aNilCheck, aExtract, aInt, aStr, aConv, aSlice, asNat?, cutTight, aIndexAddr, aFieldAddr, aField, aIndex, aLoad, aStore, aAlloc, aBox, aBuild, aBuildSlice, aMakeSlice, aLen, aMax, aMin, aAppend, aCopy, aBuiltin, TD.isSlice, TD.isAgg, TD.known, TD.isSeq, partD, partOb, cellsAt, Blk.cells, if_true, if_false, splice, fillD, dl, byteD, Int.reduceBEq, beq_self_eq_true, retQ, retK, resD, resL, andR, elemCells, isByte, chunk, reduceCtorEq, okVal, okCell, List.replicate, ne_eq, Nat.reduceEqDiff, IntWalk.toNatUp]
        exact Sub.tup ⟨Sub.agg ⟨Sub.refl rfl, Sub.nil _ _, Sub.refl rfl, Sub.refl rfl, trivial⟩, Sub.refl rfl, trivial⟩
    · have hH : segH [.int .i64 0, .nil, .int .i64 0, .int .u32 0] b v (i, l, a, bad) = [.live [.int .i64 0, .nil, .int .i64 0, .int .u32 0], .live [.str b, .int .i64 a, .bool bad], .live [.int .i64 v, .ref 3 0 i 1, .int .i64 0, .int .u32 0], .live ((l.map Int.ofNat).map (D.int .i64))] := if_neg (by simp only []; omega)
      have hml : (l.map Int.ofNat).length = i := by rw [List.length_map, hll]
      simp (disch := (first | omega | (simp only [List.length_take, List.length_drop, List.length_append, List.length_map, List.length_cons, List.length_nil]; done) | (simp only [List.length_take, List.length_drop, List.length_append, List.length_map, List.length_cons, List.length_nil]; omega))) only [hH, h1, W1, ↓W2, unbyte, implies_true, ← List.map_take, ← List.map_drop, bne_self_eq_false, eqCells, flatTD, Nat.reducePow, ayield, eq_self, exists_eq_left', exists_eq_left, Int.reduceLE, Int.reduceLT, Nat.reduceLeDiff, Int.reduceToNat, Int.reduceAdd, Int.reduceSub, Int.reduceMul, Int.reduceNeg, Int.reduceEq, argEnv, aeval, get, put, ofVal, ofVals, List.map, cond_true, cond_false, Nat.reduceBEq, nexts, allocs, countAllocs, pad, Nat.reduceAdd, Nat.reduceMul, Nat.reduceSub, Nat.reduceLT, isVoid, aNilCheck, aExtract, aInt, aStr, aConv, aSlice, asNat?, cutTight, aIndexAddr, aFieldAddr, aField, aIndex, aLoad, aStore, aAlloc, aBox, aBuild, aBuildSlice, aMakeSlice, aLen, aMax, aMin, aAppend, aCopy, aBuiltin, TD.isSlice, TD.isAgg, TD.known, TD.isSeq, partD, partOb, cellsAt, Blk.cells, if_true, if_false, splice, fillD, dl, byteD, Int.reduceBEq, beq_self_eq_true, retQ, retK, resD, resL, andR, elemCells, isByte, chunk, reduceCtorEq, okVal, okCell, List.replicate, ne_eq, Nat.reduceEqDiff, IntWalk.toNatUp]
      refine callE 1 (number_ok b a bad hbr oka) rfl rfl rfl rfl rfl rfl ?_
      simp (disch := (first | omega | (simp only [List.length_take, List.length_drop, List.length_append, List.length_map, List.length_cons, List.length_nil]; done) | (simp only [List.length_take, List.length_drop, List.length_append, List.length_map, List.length_cons, List.length_nil]; omega))) only [ex, W1, ↓W2, unbyte, implies_true, ← List.map_take, ← List.map_drop, bne_self_eq_false, eqCells, flatTD, Nat.reducePow, ayield, eq_self, exists_eq_left', exists_eq_left, Int.reduceLE, Int.reduceLT, Nat.reduceLeDiff, Int.reduceToNat, Int.reduceAdd, Int.reduceSub, Int.reduceMul, Int.reduceNeg, Int.reduceEq, argEnv, aeval, get, put, ofVal, ofVals, List.map, cond_true, cond_false, Nat.reduceBEq, nexts, allocs, countAllocs, pad, Nat.reduceAdd, Nat.reduceMul, Nat.reduceSub, Nat.reduceLT, isVoid, aNilCheck, aExtract, aInt, aStr, aConv, aSlice, asNat?, cutTight, aIndexAddr, aFieldAddr, aField, aIndex, aLoad, aStore, aAlloc, aBox, aBuild, aBuildSlice, aMakeSlice, aLen, aMax, aMin, aAppend, aCopy, aBuiltin, TD.isSlice, TD.isAgg, TD.known, TD.isSeq, partD, partOb, cellsAt, Blk.cells, if_true, if_false, splice, fillD, dl, byteD, Int.reduceBEq, beq_self_eq_true, retQ, retK, resD, resL, andR, elemCells, isByte, chunk, reduceCtorEq, okVal, okCell, List.replicate, ne_eq, Nat.reduceEqDiff, IntWalk.toNatUp]
      refine callE 1 (sum_rd b a' bad' hbr rx.le) rfl rfl rfl rfl rfl rfl ?_
      cases hq : (sumR b a' bad').2
      · obtain ⟨p1, p2, p3⟩ := g2 hq
        have hw : ((sumR b a' bad').1 : Int) = ((sum4 (b.drop a')).toNat : Int) := by rw [p3, sum4_ps]
        simp (disch := (first | omega | (simp only [List.length_take, List.length_drop, List.length_append, List.length_map, List.length_cons, List.length_nil]; done) | (simp only [List.length_take, List.length_drop, List.length_append, List.length_map, List.length_cons, List.length_nil]; omega))) only [hq, hw, W1, ↓W2, unbyte, implies_true, ← List.map_take, ← List.map_drop, bne_self_eq_false, eqCells, flatTD, Nat.reducePow, ayield, eq_self, exists_eq_left', exists_eq_left, Int.reduceLE, Int.reduceLT, Nat.reduceLeDiff, Int.reduceToNat, Int.reduceAdd, Int.reduceSub, Int.reduceMul, Int.reduceNeg, Int.reduceEq, argEnv, aeval, get, put, ofVal, ofVals, List.map, cond_true, cond_false, Nat.reduceBEq, nexts, allocs, countAllocs, pad, Nat.reduceAdd, Nat.reduceMul, Nat.reduceSub, Nat.reduceLT, isVoid, aNilCheck, aExtract, aInt, aStr, aConv, aSlice, asNat?, cutTight, aIndexAddr, aFieldAddr, aField, aIndex, aLoad, aStore, aAlloc, aBox, aBuild, aBuildSlice, aMakeSlice, aLen, aMax, aMin, aAppend, aCopy, aBuiltin, TD.isSlice, TD.isAgg, TD.known, TD.isSeq, partD, partOb, cellsAt, Blk.cells, if_true, if_false, splice, fillD, dl, byteD, Int.reduceBEq, beq_self_eq_true, retQ, retK, resD, resL, andR, elemCells, isByte, chunk, reduceCtorEq, okVal, okCell, List.replicate, ne_eq, Nat.reduceEqDiff, IntWalk.toNatUp]
        cases hr : rightMM ⟨(v : Int), l.map Int.ofNat, (x : Int), sum4 (b.drop a')⟩
        · have hg := get_no hn (.inr (.inr ⟨_, p1, hr⟩))
          refine callFroz 3 rfl (callSub (mright_ok ⟨(v : Int), l.map Int.ofNat, (x : Int), sum4 (b.drop a')⟩ (by rw [reach_lit]; simp only [hml]; omega)) ⟨Sub.agg ⟨Sub.refl rfl, Sub.own (l.map Int.ofNat) (D.int .i64) (fun _ => rfl) (ni_int _) rfl hml rfl, Sub.refl rfl, Sub.refl rfl, trivial⟩, trivial⟩ ?_)
          simp (disch := (first | omega | (simp only [List.length_take, List.length_drop, List.length_append, List.length_map, List.length_cons, List.length_nil]; done) | (simp only [List.length_take, List.length_drop, List.length_append, List.length_map, List.length_cons, List.length_nil]; omega))) only [hr, hg, MM.d, zeroMM, W1, ↓W2, unbyte, implies_true, ← List.map_take, ← List.map_drop, bne_self_eq_false, eqCells, flatTD, Nat.reducePow, ayield, eq_self, exists_eq_left', exists_eq_left, Int.reduceLE, Int.reduceLT, Nat.reduceLeDiff, Int.reduceToNat, Int.reduceAdd, Int.reduceSub, Int.reduceMul, Int.reduceNeg, Int.reduceEq, argEnv, aeval, get, put, ofVal, ofVals, List.map, cond_true, cond_false, Nat.reduceBEq, nexts, allocs, countAllocs, pad, Nat.reduceAdd, Nat.reduceMul, Nat.reduceSub, Nat.reduceLT, isVoid, aNilCheck, aExtract, aInt, aStr, aConv, aSlice, asNat?, cutTight, aIndexAddr, aFieldAddr, aField, aIndex, aLoad, aStore, aAlloc, aBox, aBuild, aBuildSlice, aMakeSlice, aLen, aMax, aMin, aAppend, aCopy, aBuiltin, TD.isSlice, TD.isAgg, TD.known, TD.isSeq, partD, partOb, cellsAt, Blk.cells, if_true, if_false, splice, fillD, dl, byteD, Int.reduceBEq, beq_self_eq_true, retQ, retK, resD, resL, andR, elemCells, isByte, chunk, reduceCtorEq, okVal, okCell, List.replicate, ne_eq, Nat.reduceEqDiff, IntWalk.toNatUp]
          exact Sub.tup ⟨Sub.agg ⟨Sub.refl rfl, Sub.nil _ _, Sub.refl rfl, Sub.refl rfl, trivial⟩, Sub.refl rfl, trivial⟩
        · have hg := get_yes hn p2 p1 hr
          refine callFroz 3 rfl (callSub (mright_ok ⟨(v : Int), l.map Int.ofNat, (x : Int), sum4 (b.drop a')⟩ (by rw [reach_lit]; simp only [hml]; omega)) ⟨Sub.agg ⟨Sub.refl rfl, Sub.own (l.map Int.ofNat) (D.int .i64) (fun _ => rfl) (ni_int _) rfl hml rfl, Sub.refl rfl, Sub.refl rfl, trivial⟩, trivial⟩ ?_)
          simp (disch := (first | omega | (simp only [List.length_take, List.length_drop, List.length_append, List.length_map, List.length_cons, List.length_nil]; done) | (simp only [List.length_take, List.length_drop, List.length_append, List.length_map, List.length_cons, List.length_nil]; omega))) only [hr, hg, MM.d, W1, ↓W2, unbyte, implies_true, ← List.map_take, ← List.map_drop, bne_self_eq_false, eqCells, flatTD, Nat.reducePow, ayield, eq_self, exists_eq_left', exists_eq_left, Int.reduceLE, Int.reduceLT, Nat.reduceLeDiff, Int.reduceToNat, Int.reduceAdd, Int.reduceSub, Int.reduceMul, Int.reduceNeg, Int.reduceEq, argEnv, aeval, get, put, ofVal, ofVals, List.map, cond_true, cond_false, Nat.reduceBEq, nexts, allocs, countAllocs, pad, Nat.reduceAdd, Nat.reduceMul, Nat.reduceSub, Nat.reduceLT, isVoid, aNilCheck, aExtract, aInt, aStr, aConv, aSlice, asNat?, cutTight, aIndexAddr, aFieldAddr, aField, aIndex, aLoad, aStore, aAlloc, aBox, aBuild, aBuildSlice, aMakeSlice, aLen, aMax, aMin, aAppend, aCopy, aBuiltin, TD.isSlice, TD.isAgg, TD.known, TD.isSeq, partD, partOb, cellsAt, Blk.cells, if_true, if_false, splice, fillD, dl, byteD, Int.reduceBEq, beq_self_eq_true, retQ, retK, resD, resL, andR, elemCells, isByte, chunk, reduceCtorEq, okVal, okCell, List.replicate, ne_eq, Nat.reduceEqDiff, IntWalk.toNatUp]
          exact Sub.tup ⟨Sub.agg ⟨Sub.refl rfl, Sub.own (l.map Int.ofNat) (D.int .i64) (fun _ => rfl) (ni_int _) rfl hml rfl, Sub.refl rfl, Sub.refl rfl, trivial⟩, Sub.refl rfl, trivial⟩
      · have hg := g1 hq
        simp (disch := (first | omega | (simp only [List.length_take, List.length_drop, List.length_append, List.length_map, List.length_cons, List.length_nil]; done) | (simp only [List.length_take, List.length_drop, List.length_append, List.length_map, List.length_cons, List.length_nil]; omega))) only [hq, hg, MM.d, zeroMM, W1, ↓W2, unbyte, implies_true, ← List.map_take, ← List.map_drop, bne_self_eq_false, eqCells, flatTD, Nat.reducePow, ayield, eq_self, exists_eq_left', exists_eq_left, Int.reduceLE, Int.reduceLT, Nat.reduceLeDiff, Int.reduceToNat, Int.reduceAdd, Int.reduceSub, Int.reduceMul, Int.reduceNeg, Int.reduceEq, argEnv, aeval, get, put, ofVal, ofVals, List.map, cond_true, cond_false, Nat.reduceBEq, nexts, allocs, countAllocs, pad, Nat.reduceAdd, Nat.reduceMul, Nat.reduceSub, Nat.reduceLT, isVoid, aNilCheck, aExtract, aInt, aStr, aConv, aSlice, asNat?, cutTight, aIndexAddr, aFieldAddr, aField, aIndex, aLoad, aStore, aAlloc, aBox, aBuild, aBuildSlice, aMakeSlice, aLen, aMax, aMin, aAppend, aCopy, aBuiltin, TD.isSlice, TD.isAgg, TD.known, TD.isSeq, partD, partOb, cellsAt, Blk.cells, if_true, if_false, splice, fillD, dl, byteD, Int.reduceBEq, beq_self_eq_true, retQ, retK, resD, resL, andR, elemCells, isByte, chunk, reduceCtorEq, okVal, okCell, List.replicate, ne_eq, Nat.reduceEqDiff, IntWalk.toNatUp]
        exact Sub.tup ⟨Sub.agg ⟨Sub.refl rfl, Sub.nil _ _, Sub.refl rfl, Sub.refl rfl, trivial⟩, Sub.refl rfl, trivial⟩

end Go.Proofs.Ytbabdalfkmdlhaa
