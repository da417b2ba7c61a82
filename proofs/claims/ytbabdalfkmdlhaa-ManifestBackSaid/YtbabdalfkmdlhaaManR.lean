/- The manifest of bytes, the document's: what the function returns. -/
import Derived.Test.YtbabdalfkmdlhaaManG
namespace Go.Proofs.Ytbabdalfkmdlhaa
set_option linter.all false
-- bundled

set_option maxRecDepth 100000

def nD (n : Nat) : D := .int .i64 (n : Int)

/-- Not done yet, or done: as many numbers as the second one says. -/
def doneN (l : List Nat) : Bool := decide (3 ≤ l.length) && decide (l.length = l.getD 1 0 + 3)

structure RI (b : List UInt8) (l : List Nat) (a : Nat) : Prop where
  le : a ≤ b.length
  got : takeNs l.length b = some (l, b.drop a)
  not : ∀ j, j ≤ l.length → doneN (l.take j) = false
  len : l.length ≤ 100

theorem RI.now {b : List UInt8} {l : List Nat} {a : Nat} (h : RI b l a) : doneN l = false := by
  have := h.not l.length (Nat.le_refl _)
  rwa [List.take_length] at this

theorem ri_start (b : List UInt8) : RI b [] 0 := ⟨Nat.zero_le _, rfl, fun j hj => by simp [doneN], by simp⟩

theorem ri_next {b : List UInt8} {l : List Nat} {a a' n : Nat} (h : RI b l a) (hle : a' ≤ b.length) (hg : takeNs (l ++ [n]).length b = some (l ++ [n], b.drop a')) (hd : doneN (l ++ [n]) = false) (h100 : l.length < 100) : RI b (l ++ [n]) a' := by
  refine ⟨hle, hg, fun j hj => ?_, by simp; omega⟩
  simp only [List.length_append, List.length_singleton] at hj
  by_cases c : j ≤ l.length
  · rw [List.take_append_of_le_length c]
    exact h.not j c
  · rw [List.take_of_length_le (by simp; omega)]
    exact hd

theorem ri_none {b : List UInt8} {l : List Nat} {a : Nat} (h : RI b l a) (hr : readN (b.drop a) = none) (n : Nat) (hn : l.length < n) : takeNs n b = none := by
  refine takeNs_mono (m := l.length + 1) ?_ hn
  rw [takeNs_add, h.got]
  simp only [takeNs_one, hr]

theorem ri_some {b : List UInt8} {l : List Nat} {a n k : Nat} (h : RI b l a) (hr : readN (b.drop a) = some (n, k)) : takeNs (l ++ [n]).length b = some (l ++ [n], b.drop (a + k)) ∧ a + k ≤ b.length := by
  obtain ⟨q1, q2, q3, q4, q5⟩ := read_some hr
  rw [List.length_drop] at q2
  have := h.le
  refine ⟨?_, by omega⟩
  rw [List.length_append, List.length_singleton, takeNs_add, h.got]
  simp only [takeNs_one, hr, List.drop_drop]

/-- Whatever is parsed, its numbers are as many as the second one says. -/
theorem parse_shape {b : List UInt8} {m : MM} (h : parseMM b = some m) : ∃ l r, takeNs l.length b = some (l, r) ∧ doneN l = true ∧ l.length ≤ 67 ∧ r.length = 4 := by
  unfold parseMM at h
  split at h
  · rename_i v c r1 t1
    split at h
    · cases h
    · split at h
      · rename_i l r2 t2
        split at h
        · rename_i z r3 t3
          split at h
          · rename_i h64 h4
            obtain ⟨b1, _, _⟩ := takeNs_some _ _ _ _ t2
            refine ⟨[v, c] ++ (l ++ [z]), r3, ?_, ?_, by simp; omega, h4⟩
            · have e : ([v, c] ++ (l ++ [z])).length = 2 + (c + 1) := by simp; omega
              rw [e, takeNs_add, t1]
              simp only [takeNs_add, t2, t3]
            · simp [doneN]; omega
          · cases h
        · cases h
      · cases h
  · cases h

/-- Where the numbers end without being as many, there is none. -/
theorem ri_parse {b : List UInt8} {l : List Nat} {a : Nat} (h : RI b l a) (hend : a = b.length ∨ l.length = 100 ∨ readN (b.drop a) = none) : parseMM b = none := by
  cases hp : parseMM b with
  | none => rfl
  | some m =>
    exfalso
    obtain ⟨l', r, h1, h2, h3, h4⟩ := parse_shape hp
    rcases Nat.lt_trichotomy l'.length l.length with c | c | c
    · have hg := h.got
      obtain ⟨k, hk⟩ : ∃ k, l.length = l'.length + k := ⟨l.length - l'.length, by omega⟩
      rw [hk, takeNs_add, h1] at hg
      simp only [] at hg
      cases hk2 : takeNs k r with
      | none => rw [hk2] at hg; cases hg
      | some y =>
        rw [hk2] at hg
        simp only [Option.some.injEq, Prod.mk.injEq] at hg
        have := h.not l'.length (by omega)
        rw [← hg.1, List.take_left, h2] at this
        cases this
    · rw [c, h.got] at h1
      simp only [Option.some.injEq, Prod.mk.injEq] at h1
      rw [← h1.1, h.now] at h2
      cases h2
    · rcases hend with e | e | e
      · have hr : readN (b.drop a) = none := by rw [e, List.drop_length]; rfl
        rw [ri_none h hr _ c] at h1
        cases h1
      · omega
      · rw [ri_none h e _ c] at h1
        cases h1

def refE (l : List Nat) : D := if l = [] then .nil else .ref 1 0 l.length 1
def refH (l : List Nat) : AHeap := if l = [] then [.live [.int .i64 0, .nil, .int .i64 0, .int .u32 0]] else [.live [.int .i64 0, .nil, .int .i64 0, .int .u32 0], .live (l.map nD)]

theorem ren_nD (ρ : List Nat) (l : List Nat) : (l.map nD).map (D.ren ρ) = l.map nD := by
  rw [← D.renL_eq]
  exact D.renL_noIds ρ _ (noL nD (fun _ => rfl) l)
theorem bnd_nD (n : Nat) (l : List Nat) : (l.map nD).all (D.bnd n) = true := by
  rw [← D.bndL_eq]
  exact D.bndL_noIds n _ (noL nD (fun _ => rfl) l)
theorem one_nD (l : List Nat) : (l.map nD).all D.one = true := all_one _ (fun _ => rfl) l

theorem done_test (l : List Nat) (h3 : 3 ≤ l.length) (h100 : l.length ≤ 101) (hx : l.getD 1 0 < 9223372036854775808) : ((l.length : Int) == IntKind.i64.wrap ((l.getD 1 0 : Nat) + 3 : Int)) = doneN l := by
  simp only [doneN, decide_eq_true h3, Bool.true_and]
  rw [Bool.eq_iff_iff, beq_iff_eq, decide_eq_true_eq]
  by_cases c : l.getD 1 0 ≤ 9223372036854775804
  · rw [IntWalk.i64_in _ (by omega)]
    omega
  · have hw : IntKind.i64.wrap ((l.getD 1 0 : Nat) + 3 : Int) = (l.getD 1 0 : Int) + 3 - 18446744073709551616 := by
      rw [IntKind.wrap_i64]
      omega
    rw [hw]
    omega

theorem shape_parse {b r : List UInt8} {v c z : Nat} {g : List Nat} (hg : g.length = c) (h : takeNs (c + 3) b = some (v :: c :: (g ++ [z]), r)) :
    parseMM b = if 64 < c then none else if r.length = 4 then some ⟨(v : Int), g.map Int.ofNat, (z : Int), sum4 r⟩ else none := by
  by_cases h64 : 64 < c
  · rw [if_pos h64]
    have e : c + 3 = 2 + (c + 1) := by omega
    rw [e, takeNs_add] at h
    cases h2 : takeNs 2 b with
    | none => rw [h2] at h; cases h
    | some x =>
      obtain ⟨vs, r1⟩ := x
      rw [h2] at h
      simp only [] at h
      obtain ⟨l2, _, _⟩ := takeNs_some _ _ _ _ h2
      cases h3 : takeNs (c + 1) r1 with
      | none => rw [h3] at h; cases h
      | some y =>
        rw [h3] at h
        simp only [Option.some.injEq, Prod.mk.injEq] at h
        match vs, l2, h.1, h2 with
        | [v', c'], _, h5, h2 =>
          simp only [List.cons_append, List.nil_append, List.cons.injEq] at h5
          obtain ⟨rfl, rfl, _⟩ := h5
          exact parse_big h2 h64
  · rw [if_neg h64]
    exact parse_all (by omega) hg h

theorem done_shape {l : List Nat} (h : doneN l = true) : ∃ v c z g, l = v :: c :: (g ++ [z]) ∧ g.length = c := by
  simp only [doneN, Bool.and_eq_true, decide_eq_true_eq] at h
  obtain ⟨h3, h4⟩ := h
  match l, h3, h4 with
  | v :: c :: r, h3, h4 =>
    simp only [List.length_cons, List.getD_cons_succ, List.getD_cons_zero] at h3 h4
    have hr : r ≠ [] := fun e => by subst e; simp at h3
    refine ⟨v, c, r.getLast hr, r.dropLast, by rw [List.dropLast_concat_getLast hr], by simp; omega⟩

/-- A word's bytes from the last one on. -/
def hsW (r : List UInt8) : Nat → Nat
  | 0 => 0
  | j + 1 => hsW r j * 256 + (r.getD (3 - j) 0).toNat
theorem hsW_lt (r : List UInt8) (j : Nat) : hsW r j < 256 ^ j := by
  induction j with
  | zero => simp [hsW]
  | succ j ih =>
    have h := (r.getD (3 - j) 0).toNat_lt
    rw [hsW, Nat.pow_succ]
    omega
theorem hsW_4 (r : List UInt8) : hsW r 4 = (sum4 r).toNat := by
  rw [sum4_ps, psW_4]
  show (((0 * 256 + (r.getD 3 0).toNat) * 256 + (r.getD 2 0).toNat) * 256 + (r.getD 1 0).toNat) * 256 + (r.getD 0 0).toNat = _
  omega

set_option maxHeartbeats 8000000 in
theorem mgetRef_ok (s : List UInt8) (hs : s.length ≤ reach) : PureF Try.prog 26 [.str s] (.tup [(getMM s).1.d, .int .i64 (getMM s).2]) := by
  refine pureD (rs := [.cell 2 38, .tmp 3]) tyOk mixed Try.func26 (by decide) rfl rfl (Nat.le_of_ble_eq_true rfl) (by decide) ?_
  have hs' := hs
  rw [reach_lit] at hs'
  simp (disch := (first | omega | (simp only [List.length_take, List.length_drop, List.length_append, List.length_map, List.length_cons, List.length_nil]; done) | (simp only [List.length_take, List.length_drop, List.length_append, List.length_map, List.length_cons, List.length_nil]; omega))) only [W1, ↓W2, unbyte, implies_true, ← List.map_take, ← List.map_drop, bne_self_eq_false, eqCells, flatTD, Nat.reducePow, ayield, eq_self, exists_eq_left', exists_eq_left, Int.reduceLE, Int.reduceLT, Nat.reduceLeDiff, Int.reduceToNat, Int.reduceAdd, Int.reduceSub, Int.reduceMul, Int.reduceNeg, Int.reduceEq, argEnv, aeval, get, put, ofVal, ofVals, List.map, cond_true, cond_false, Nat.reduceBEq, nexts, allocs, countAllocs, pad, Nat.reduceAdd, Nat.reduceMul, Nat.reduceSub, Nat.reduceLT, isVoid, aNilCheck, aExtract, aInt, aStr, aConv, aSlice, asNat?, cutTight, aIndexAddr, aFieldAddr, aField, aIndex, aLoad, aStore, aAlloc, aBox, aBuild, aBuildSlice, aMakeSlice, aLen, aMax, aMin, aAppend, aCopy, aBuiltin, TD.isSlice, TD.isAgg, TD.known, TD.isSeq, partD, partOb, cellsAt, Blk.cells, if_true, if_false, splice, fillD, dl, byteD, Int.reduceBEq, beq_self_eq_true, retQ, retK, resD, resL, andR, elemCells, isByte, chunk, reduceCtorEq, okVal, okCell, List.replicate, ne_eq, Nat.reduceEqDiff, IntWalk.toNatUp]
  refine callP (fnextRef_ok s 0 hs (by simp only [okInt, min_i64, max_i64]; omega)) rfl ?_
  have hnx := nextF_at s 0
  rw [List.drop_zero] at hnx
  cases hn : nextN s with
  | inr e =>
    rw [hn] at hnx
    have he : e ≠ 0 := by rcases next_err hn with h | h | h <;> rw [h] <;> decide
    have hg : getMM s = (zeroMM, e) := by simp only [getMM, hn]
    have hne : (e != 0) = true := by simp [he]
    have hnx : nextF s 0 = ([], 0, e) := hnx
    simp (disch := (first | omega | (simp only [List.length_take, List.length_drop, List.length_append, List.length_map, List.length_cons, List.length_nil]; done) | (simp only [List.length_take, List.length_drop, List.length_append, List.length_map, List.length_cons, List.length_nil]; omega))) only [hnx, nextD, hne, hg, MM.d, zeroMM, W1, ↓W2, unbyte, implies_true, ← List.map_take, ← List.map_drop, bne_self_eq_false, eqCells, flatTD, Nat.reducePow, ayield, eq_self, exists_eq_left', exists_eq_left, Int.reduceLE, Int.reduceLT, Nat.reduceLeDiff, Int.reduceToNat, Int.reduceAdd, Int.reduceSub, Int.reduceMul, Int.reduceNeg, Int.reduceEq, argEnv, aeval, get, put, ofVal, ofVals, List.map, cond_true, cond_false, Nat.reduceBEq, nexts, allocs, countAllocs, pad, Nat.reduceAdd, Nat.reduceMul, Nat.reduceSub, Nat.reduceLT, isVoid, aNilCheck, aExtract, aInt, aStr, aConv, aSlice, asNat?, cutTight, aIndexAddr, aFieldAddr, aField, aIndex, aLoad, aStore, aAlloc, aBox, aBuild, aBuildSlice, aMakeSlice, aLen, aMax, aMin, aAppend, aCopy, aBuiltin, TD.isSlice, TD.isAgg, TD.known, TD.isSeq, partD, partOb, cellsAt, Blk.cells, if_true, if_false, splice, fillD, dl, byteD, Int.reduceBEq, beq_self_eq_true, retQ, retK, resD, resL, andR, elemCells, isByte, chunk, reduceCtorEq, okVal, okCell, List.replicate, ne_eq, Nat.reduceEqDiff, IntWalk.toNatUp]
    exact Sub.tup ⟨Sub.agg ⟨Sub.refl rfl, Sub.nil _ _, Sub.refl rfl, Sub.refl rfl, trivial⟩, Sub.refl rfl, trivial⟩
  | inl x =>
    obtain ⟨b, k⟩ := x
    rw [hn] at hnx
    have hnx : nextF s 0 = (b, (k : Int), 0) := (show nextF s 0 = _ from hnx).trans (by simp)
    obtain ⟨hb1, hk1, hk2, hk3⟩ := next_some hn
    have hbr : b.length ≤ reach := by rw [reach_lit]; omega
    have bad : parseMM b = none → getMM s = (zeroMM, 3) := fun h => get_no hn (.inr (.inl h))
    simp (disch := (first | omega | (simp only [List.length_take, List.length_drop, List.length_append, List.length_map, List.length_cons, List.length_nil]; done) | (simp only [List.length_take, List.length_drop, List.length_append, List.length_map, List.length_cons, List.length_nil]; omega))) only [hnx, nextD, W1, ↓W2, unbyte, implies_true, ← List.map_take, ← List.map_drop, bne_self_eq_false, eqCells, flatTD, Nat.reducePow, ayield, eq_self, exists_eq_left', exists_eq_left, Int.reduceLE, Int.reduceLT, Nat.reduceLeDiff, Int.reduceToNat, Int.reduceAdd, Int.reduceSub, Int.reduceMul, Int.reduceNeg, Int.reduceEq, argEnv, aeval, get, put, ofVal, ofVals, List.map, cond_true, cond_false, Nat.reduceBEq, nexts, allocs, countAllocs, pad, Nat.reduceAdd, Nat.reduceMul, Nat.reduceSub, Nat.reduceLT, isVoid, aNilCheck, aExtract, aInt, aStr, aConv, aSlice, asNat?, cutTight, aIndexAddr, aFieldAddr, aField, aIndex, aLoad, aStore, aAlloc, aBox, aBuild, aBuildSlice, aMakeSlice, aLen, aMax, aMin, aAppend, aCopy, aBuiltin, TD.isSlice, TD.isAgg, TD.known, TD.isSeq, partD, partOb, cellsAt, Blk.cells, if_true, if_false, splice, fillD, dl, byteD, Int.reduceBEq, beq_self_eq_true, retQ, retK, resD, resL, andR, elemCells, isByte, chunk, reduceCtorEq, okVal, okCell, List.replicate, ne_eq, Nat.reduceEqDiff, IntWalk.toNatUp]
    refine loopR (fun st : List Nat × Nat => [(0, .str s), (2, .ptr 0 0), (4, .str b), (7, refE st.1), (8, .int .i64 st.2)]) (fun st => refH st.1) (fun st => RI b st.1 st.2) (fun st => 100 - st.1.length) ([], 0) (ri_start b) ?_ ?_
    · refine fitsR [0] ?_ ?_ (by simp [liveIds, refH]) rfl
      · simp only [Int.natCast_add, Int.cast_ofNat_Int, fe_nil, fe_data, fe_ref, fe_ptr, fh_nil, fh_dead, fh_live, fh_froz, liveIds, ni_int, ni_bool, ni_str, ni_agg, ni_nil, ni_sl, ni_cp, ni_nilp, ni_fn, ni_nilf, ni_tup, ni_niface, ni_iface, ni_nilL, ni_consL, Bool.and_self, List.length_cons, List.length_nil, get, cond_true, cond_false, Nat.reduceBEq, List.getElem?_cons_zero, List.getElem?_cons_succ, true_and, and_true, eq_self, List.getD_cons_zero, List.getD_cons_succ, Nat.reduceAdd, Nat.reduceLT, refE, if_true]
      · simp only [Int.natCast_add, Int.cast_ofNat_Int, fe_nil, fe_data, fe_ref, fe_ptr, fh_nil, fh_dead, fh_live, fh_froz, liveIds, ni_int, ni_bool, ni_str, ni_agg, ni_nil, ni_sl, ni_cp, ni_nilp, ni_fn, ni_nilf, ni_tup, ni_niface, ni_iface, ni_nilL, ni_consL, Bool.and_self, List.length_cons, List.length_nil, get, cond_true, cond_false, Nat.reduceBEq, List.getElem?_cons_zero, List.getElem?_cons_succ, true_and, and_true, eq_self, List.getD_cons_zero, List.getD_cons_succ, Nat.reduceAdd, Nat.reduceLT, refH, if_true]
    intro ⟨l, a⟩ hI
    have hI : RI b l a := hI
    have hale := hI.le
    have hl100 := hI.len
    have oka : okInt .i64 (a : Int) := by simp only [okInt, min_i64, max_i64]; omega
    have hrd := rdM_at b a
    rcases l with _ | ⟨x0, l0⟩
    · have hE : refE [] = .nil := rfl
      have hH : refH [] = [.live [.int .i64 0, .nil, .int .i64 0, .int .u32 0]] := rfl
      cases h1 : decide ((a : Int) < (b.length : Int))
      · have hg := bad (ri_parse hI (.inl (by have := of_decide_eq_false h1; omega)))
        simp (disch := (first | omega | (simp only [List.length_take, List.length_drop, List.length_append, List.length_map, List.length_cons, List.length_nil]; done) | (simp only [List.length_take, List.length_drop, List.length_append, List.length_map, List.length_cons, List.length_nil]; omega))) only [hE, hH, h1, hg, MM.d, zeroMM, W1, ↓W2, unbyte, implies_true, ← List.map_take, ← List.map_drop, bne_self_eq_false, eqCells, flatTD, Nat.reducePow, ayield, eq_self, exists_eq_left', exists_eq_left, Int.reduceLE, Int.reduceLT, Nat.reduceLeDiff, Int.reduceToNat, Int.reduceAdd, Int.reduceSub, Int.reduceMul, Int.reduceNeg, Int.reduceEq, argEnv, aeval, get, put, ofVal, ofVals, List.map, cond_true, cond_false, Nat.reduceBEq, nexts, allocs, countAllocs, pad, Nat.reduceAdd, Nat.reduceMul, Nat.reduceSub, Nat.reduceLT, isVoid, aNilCheck, aExtract, aInt, aStr, aConv, aSlice, asNat?, cutTight, aIndexAddr, aFieldAddr, aField, aIndex, aLoad, aStore, aAlloc, aBox, aBuild, aBuildSlice, aMakeSlice, aLen, aMax, aMin, aAppend, aCopy, aBuiltin, TD.isSlice, TD.isAgg, TD.known, TD.isSeq, partD, partOb, cellsAt, Blk.cells, if_true, if_false, splice, fillD, dl, byteD, Int.reduceBEq, beq_self_eq_true, retQ, retK, resD, resL, andR, elemCells, isByte, chunk, reduceCtorEq, okVal, okCell, List.replicate, ne_eq, Nat.reduceEqDiff, IntWalk.toNatUp]
        exact Sub.tup ⟨Sub.agg ⟨Sub.refl rfl, Sub.nil _ _, Sub.refl rfl, Sub.refl rfl, trivial⟩, Sub.refl rfl, trivial⟩
      · simp (disch := (first | omega | (simp only [List.length_take, List.length_drop, List.length_append, List.length_map, List.length_cons, List.length_nil]; done) | (simp only [List.length_take, List.length_drop, List.length_append, List.length_map, List.length_cons, List.length_nil]; omega))) only [hE, hH, h1, W1, ↓W2, unbyte, implies_true, ← List.map_take, ← List.map_drop, bne_self_eq_false, eqCells, flatTD, Nat.reducePow, ayield, eq_self, exists_eq_left', exists_eq_left, Int.reduceLE, Int.reduceLT, Nat.reduceLeDiff, Int.reduceToNat, Int.reduceAdd, Int.reduceSub, Int.reduceMul, Int.reduceNeg, Int.reduceEq, argEnv, aeval, get, put, ofVal, ofVals, List.map, cond_true, cond_false, Nat.reduceBEq, nexts, allocs, countAllocs, pad, Nat.reduceAdd, Nat.reduceMul, Nat.reduceSub, Nat.reduceLT, isVoid, aNilCheck, aExtract, aInt, aStr, aConv, aSlice, asNat?, cutTight, aIndexAddr, aFieldAddr, aField, aIndex, aLoad, aStore, aAlloc, aBox, aBuild, aBuildSlice, aMakeSlice, aLen, aMax, aMin, aAppend, aCopy, aBuiltin, TD.isSlice, TD.isAgg, TD.known, TD.isSeq, partD, partOb, cellsAt, Blk.cells, if_true, if_false, splice, fillD, dl, byteD, Int.reduceBEq, beq_self_eq_true, retQ, retK, resD, resL, andR, elemCells, isByte, chunk, reduceCtorEq, okVal, okCell, List.replicate, ne_eq, Nat.reduceEqDiff, IntWalk.toNatUp]
        refine callP (readRef_ok b a hbr oka) rfl ?_
        cases hr : readN (b.drop a) with
        | none =>
          rw [hr] at hrd
          have hg := bad (ri_parse hI (.inr (.inr hr)))
          simp (disch := (first | omega | (simp only [List.length_take, List.length_drop, List.length_append, List.length_map, List.length_cons, List.length_nil]; done) | (simp only [List.length_take, List.length_drop, List.length_append, List.length_map, List.length_cons, List.length_nil]; omega))) only [hrd, rdD, hg, MM.d, zeroMM, W1, ↓W2, unbyte, implies_true, ← List.map_take, ← List.map_drop, bne_self_eq_false, eqCells, flatTD, Nat.reducePow, ayield, eq_self, exists_eq_left', exists_eq_left, Int.reduceLE, Int.reduceLT, Nat.reduceLeDiff, Int.reduceToNat, Int.reduceAdd, Int.reduceSub, Int.reduceMul, Int.reduceNeg, Int.reduceEq, argEnv, aeval, get, put, ofVal, ofVals, List.map, cond_true, cond_false, Nat.reduceBEq, nexts, allocs, countAllocs, pad, Nat.reduceAdd, Nat.reduceMul, Nat.reduceSub, Nat.reduceLT, isVoid, aNilCheck, aExtract, aInt, aStr, aConv, aSlice, asNat?, cutTight, aIndexAddr, aFieldAddr, aField, aIndex, aLoad, aStore, aAlloc, aBox, aBuild, aBuildSlice, aMakeSlice, aLen, aMax, aMin, aAppend, aCopy, aBuiltin, TD.isSlice, TD.isAgg, TD.known, TD.isSeq, partD, partOb, cellsAt, Blk.cells, if_true, if_false, splice, fillD, dl, byteD, Int.reduceBEq, beq_self_eq_true, retQ, retK, resD, resL, andR, elemCells, isByte, chunk, reduceCtorEq, okVal, okCell, List.replicate, ne_eq, Nat.reduceEqDiff, IntWalk.toNatUp]
          exact Sub.tup ⟨Sub.agg ⟨Sub.refl rfl, Sub.nil _ _, Sub.refl rfl, Sub.refl rfl, trivial⟩, Sub.refl rfl, trivial⟩
        | some y =>
          obtain ⟨n, k2⟩ := y
          rw [hr] at hrd
          obtain ⟨g1, g2⟩ := ri_some hI hr
          have hnx2 := ri_next hI g2 g1 rfl (by simp)
          have hq1 : decide ((1 : Int) ≥ 3) = false := by decide
          simp (disch := (first | omega | (simp only [List.length_take, List.length_drop, List.length_append, List.length_map, List.length_cons, List.length_nil]; done) | (simp only [List.length_take, List.length_drop, List.length_append, List.length_map, List.length_cons, List.length_nil]; omega))) only [hrd, rdD, hq1, W1, ↓W2, unbyte, implies_true, ← List.map_take, ← List.map_drop, bne_self_eq_false, eqCells, flatTD, Nat.reducePow, ayield, eq_self, exists_eq_left', exists_eq_left, Int.reduceLE, Int.reduceLT, Nat.reduceLeDiff, Int.reduceToNat, Int.reduceAdd, Int.reduceSub, Int.reduceMul, Int.reduceNeg, Int.reduceEq, argEnv, aeval, get, put, ofVal, ofVals, List.map, cond_true, cond_false, Nat.reduceBEq, nexts, allocs, countAllocs, pad, Nat.reduceAdd, Nat.reduceMul, Nat.reduceSub, Nat.reduceLT, isVoid, aNilCheck, aExtract, aInt, aStr, aConv, aSlice, asNat?, cutTight, aIndexAddr, aFieldAddr, aField, aIndex, aLoad, aStore, aAlloc, aBox, aBuild, aBuildSlice, aMakeSlice, aLen, aMax, aMin, aAppend, aCopy, aBuiltin, TD.isSlice, TD.isAgg, TD.known, TD.isSeq, partD, partOb, cellsAt, Blk.cells, if_true, if_false, splice, fillD, dl, byteD, Int.reduceBEq, beq_self_eq_true, retQ, retK, resD, resL, andR, elemCells, isByte, chunk, reduceCtorEq, okVal, okCell, List.replicate, ne_eq, Nat.reduceEqDiff, IntWalk.toNatUp]
          refine ⟨([n], a + k2), hnx2, by simp only [List.length_cons, List.length_nil]; omega, fitsR [0, 2] ?_ ?_ (by simp [liveIds, refH]) rfl⟩
          · have hE2 : refE [n] = .ref 1 0 1 1 := rfl
            rw [hE2]
            exact ⟨⟨rfl, rfl⟩, ⟨rfl, rfl⟩, ⟨rfl, rfl⟩, ⟨rfl, rfl⟩, ⟨rfl, rfl⟩, trivial⟩
          · have hH2 : refH [n] = [.live [.int .i64 0, .nil, .int .i64 0, .int .u32 0], .live [nD n]] := rfl
            rw [hH2]
            exact ⟨⟨rfl, rfl⟩, ⟨rfl, rfl⟩, trivial⟩
    · obtain ⟨l, hl0⟩ : ∃ l, l = x0 :: l0 := ⟨_, rfl⟩
      rw [← hl0] at hI hl100 ⊢
      have hne : l ≠ [] := by rw [hl0]; simp
      have hE : refE l = .ref 1 0 l.length 1 := if_neg hne
      have hH : refH l = [.live [.int .i64 0, .nil, .int .i64 0, .int .u32 0], .live (l.map nD)] := if_neg hne
      have hvals : ∀ y, y ∈ l → y < 128 ^ 9 := (takeNs_some _ _ _ _ hI.got).2.2
      have hidx : 1 < l.length → (l.map nD).getD 1 .any = .int .i64 ((l.getD 1 0 : Nat) : Int) ∧ l.getD 1 0 < 9223372036854775808 := fun h => by
        have hg1 : l.getD 1 0 = l[1] := by simp [h]
        refine ⟨by rw [hg1]; simp [nD, h], ?_⟩
        have := hvals l[1] (List.getElem_mem h)
        rw [hg1]
        omega
      have hlm : (l.map nD).length = l.length := List.length_map _
      cases h1 : decide ((a : Int) < (b.length : Int))
      · have hg := bad (ri_parse hI (.inl (by have := of_decide_eq_false h1; omega)))
        rcases Nat.lt_or_ge l.length 3 with c3 | c3
        · have c3' : decide ((l.length : Int) < 3) = true := decide_eq_true (by omega)
          simp (disch := (first | omega | (simp only [List.length_take, List.length_drop, List.length_append, List.length_map, List.length_cons, List.length_nil]; done) | (simp only [List.length_take, List.length_drop, List.length_append, List.length_map, List.length_cons, List.length_nil]; omega))) only [hE, hH, h1, c3', hg, MM.d, zeroMM, W1, ↓W2, unbyte, implies_true, ← List.map_take, ← List.map_drop, bne_self_eq_false, eqCells, flatTD, Nat.reducePow, ayield, eq_self, exists_eq_left', exists_eq_left, Int.reduceLE, Int.reduceLT, Nat.reduceLeDiff, Int.reduceToNat, Int.reduceAdd, Int.reduceSub, Int.reduceMul, Int.reduceNeg, Int.reduceEq, argEnv, aeval, get, put, ofVal, ofVals, List.map, cond_true, cond_false, Nat.reduceBEq, nexts, allocs, countAllocs, pad, Nat.reduceAdd, Nat.reduceMul, Nat.reduceSub, Nat.reduceLT, isVoid, aNilCheck, aExtract, aInt, aStr, aConv, aSlice, asNat?, cutTight, aIndexAddr, aFieldAddr, aField, aIndex, aLoad, aStore, aAlloc, aBox, aBuild, aBuildSlice, aMakeSlice, aLen, aMax, aMin, aAppend, aCopy, aBuiltin, TD.isSlice, TD.isAgg, TD.known, TD.isSeq, partD, partOb, cellsAt, Blk.cells, if_true, if_false, splice, fillD, dl, byteD, Int.reduceBEq, beq_self_eq_true, retQ, retK, resD, resL, andR, elemCells, isByte, chunk, reduceCtorEq, okVal, okCell, List.replicate, ne_eq, Nat.reduceEqDiff, IntWalk.toNatUp]
          exact Sub.tup ⟨Sub.agg ⟨Sub.refl rfl, Sub.nil _ _, Sub.refl rfl, Sub.refl rfl, trivial⟩, Sub.refl rfl, trivial⟩
        · have c3' : decide ((l.length : Int) < 3) = false := decide_eq_false (by omega)
          obtain ⟨hx1, hx2⟩ := hidx (by omega)
          have hd : ((l.length : Int) != IntKind.i64.wrap ((l.getD 1 0 : Nat) + 3 : Int)) = true := by
            simp only [bne, done_test l c3 (by omega) hx2, hI.now, Bool.not_false]
          simp (disch := (first | omega | (simp only [List.length_take, List.length_drop, List.length_append, List.length_map, List.length_cons, List.length_nil]; done) | (simp only [List.length_take, List.length_drop, List.length_append, List.length_map, List.length_cons, List.length_nil]; omega))) only [hE, hH, h1, c3', hx1, hd, hg, Nat.zero_add, MM.d, zeroMM, W1, ↓W2, unbyte, implies_true, ← List.map_take, ← List.map_drop, bne_self_eq_false, eqCells, flatTD, Nat.reducePow, ayield, eq_self, exists_eq_left', exists_eq_left, Int.reduceLE, Int.reduceLT, Nat.reduceLeDiff, Int.reduceToNat, Int.reduceAdd, Int.reduceSub, Int.reduceMul, Int.reduceNeg, Int.reduceEq, argEnv, aeval, get, put, ofVal, ofVals, List.map, cond_true, cond_false, Nat.reduceBEq, nexts, allocs, countAllocs, pad, Nat.reduceAdd, Nat.reduceMul, Nat.reduceSub, Nat.reduceLT, isVoid, aNilCheck, aExtract, aInt, aStr, aConv, aSlice, asNat?, cutTight, aIndexAddr, aFieldAddr, aField, aIndex, aLoad, aStore, aAlloc, aBox, aBuild, aBuildSlice, aMakeSlice, aLen, aMax, aMin, aAppend, aCopy, aBuiltin, TD.isSlice, TD.isAgg, TD.known, TD.isSeq, partD, partOb, cellsAt, Blk.cells, if_true, if_false, splice, fillD, dl, byteD, Int.reduceBEq, beq_self_eq_true, retQ, retK, resD, resL, andR, elemCells, isByte, chunk, reduceCtorEq, okVal, okCell, List.replicate, ne_eq, Nat.reduceEqDiff, IntWalk.toNatUp]
          exact Sub.tup ⟨Sub.agg ⟨Sub.refl rfl, Sub.nil _ _, Sub.refl rfl, Sub.refl rfl, trivial⟩, Sub.refl rfl, trivial⟩
      cases h2 : decide ((l.length : Int) < 100)
      · have hg := bad (ri_parse hI (.inr (.inl (by have := of_decide_eq_false h2; omega))))
        rcases Nat.lt_or_ge l.length 3 with c3 | c3
        · have c3' : decide ((l.length : Int) < 3) = true := decide_eq_true (by omega)
          simp (disch := (first | omega | (simp only [List.length_take, List.length_drop, List.length_append, List.length_map, List.length_cons, List.length_nil]; done) | (simp only [List.length_take, List.length_drop, List.length_append, List.length_map, List.length_cons, List.length_nil]; omega))) only [hE, hH, h1, h2, c3', hg, MM.d, zeroMM, W1, ↓W2, unbyte, implies_true, ← List.map_take, ← List.map_drop, bne_self_eq_false, eqCells, flatTD, Nat.reducePow, ayield, eq_self, exists_eq_left', exists_eq_left, Int.reduceLE, Int.reduceLT, Nat.reduceLeDiff, Int.reduceToNat, Int.reduceAdd, Int.reduceSub, Int.reduceMul, Int.reduceNeg, Int.reduceEq, argEnv, aeval, get, put, ofVal, ofVals, List.map, cond_true, cond_false, Nat.reduceBEq, nexts, allocs, countAllocs, pad, Nat.reduceAdd, Nat.reduceMul, Nat.reduceSub, Nat.reduceLT, isVoid, aNilCheck, aExtract, aInt, aStr, aConv, aSlice, asNat?, cutTight, aIndexAddr, aFieldAddr, aField, aIndex, aLoad, aStore, aAlloc, aBox, aBuild, aBuildSlice, aMakeSlice, aLen, aMax, aMin, aAppend, aCopy, aBuiltin, TD.isSlice, TD.isAgg, TD.known, TD.isSeq, partD, partOb, cellsAt, Blk.cells, if_true, if_false, splice, fillD, dl, byteD, Int.reduceBEq, beq_self_eq_true, retQ, retK, resD, resL, andR, elemCells, isByte, chunk, reduceCtorEq, okVal, okCell, List.replicate, ne_eq, Nat.reduceEqDiff, IntWalk.toNatUp]
          exact Sub.tup ⟨Sub.agg ⟨Sub.refl rfl, Sub.nil _ _, Sub.refl rfl, Sub.refl rfl, trivial⟩, Sub.refl rfl, trivial⟩
        · have c3' : decide ((l.length : Int) < 3) = false := decide_eq_false (by omega)
          obtain ⟨hx1, hx2⟩ := hidx (by omega)
          have hd : ((l.length : Int) != IntKind.i64.wrap ((l.getD 1 0 : Nat) + 3 : Int)) = true := by
            simp only [bne, done_test l c3 (by omega) hx2, hI.now, Bool.not_false]
          simp (disch := (first | omega | (simp only [List.length_take, List.length_drop, List.length_append, List.length_map, List.length_cons, List.length_nil]; done) | (simp only [List.length_take, List.length_drop, List.length_append, List.length_map, List.length_cons, List.length_nil]; omega))) only [hE, hH, h1, h2, c3', hx1, hd, hg, Nat.zero_add, MM.d, zeroMM, W1, ↓W2, unbyte, implies_true, ← List.map_take, ← List.map_drop, bne_self_eq_false, eqCells, flatTD, Nat.reducePow, ayield, eq_self, exists_eq_left', exists_eq_left, Int.reduceLE, Int.reduceLT, Nat.reduceLeDiff, Int.reduceToNat, Int.reduceAdd, Int.reduceSub, Int.reduceMul, Int.reduceNeg, Int.reduceEq, argEnv, aeval, get, put, ofVal, ofVals, List.map, cond_true, cond_false, Nat.reduceBEq, nexts, allocs, countAllocs, pad, Nat.reduceAdd, Nat.reduceMul, Nat.reduceSub, Nat.reduceLT, isVoid, aNilCheck, aExtract, aInt, aStr, aConv, aSlice, asNat?, cutTight, aIndexAddr, aFieldAddr, aField, aIndex, aLoad, aStore, aAlloc, aBox, aBuild, aBuildSlice, aMakeSlice, aLen, aMax, aMin, aAppend, aCopy, aBuiltin, TD.isSlice, TD.isAgg, TD.known, TD.isSeq, partD, partOb, cellsAt, Blk.cells, if_true, if_false, splice, fillD, dl, byteD, Int.reduceBEq, beq_self_eq_true, retQ, retK, resD, resL, andR, elemCells, isByte, chunk, reduceCtorEq, okVal, okCell, List.replicate, ne_eq, Nat.reduceEqDiff, IntWalk.toNatUp]
          exact Sub.tup ⟨Sub.agg ⟨Sub.refl rfl, Sub.nil _ _, Sub.refl rfl, Sub.refl rfl, trivial⟩, Sub.refl rfl, trivial⟩
      have h2' := of_decide_eq_true h2
      simp (disch := (first | omega | (simp only [List.length_take, List.length_drop, List.length_append, List.length_map, List.length_cons, List.length_nil]; done) | (simp only [List.length_take, List.length_drop, List.length_append, List.length_map, List.length_cons, List.length_nil]; omega))) only [hE, hH, h1, h2, W1, ↓W2, unbyte, implies_true, ← List.map_take, ← List.map_drop, bne_self_eq_false, eqCells, flatTD, Nat.reducePow, ayield, eq_self, exists_eq_left', exists_eq_left, Int.reduceLE, Int.reduceLT, Nat.reduceLeDiff, Int.reduceToNat, Int.reduceAdd, Int.reduceSub, Int.reduceMul, Int.reduceNeg, Int.reduceEq, argEnv, aeval, get, put, ofVal, ofVals, List.map, cond_true, cond_false, Nat.reduceBEq, nexts, allocs, countAllocs, pad, Nat.reduceAdd, Nat.reduceMul, Nat.reduceSub, Nat.reduceLT, isVoid, aNilCheck, aExtract, aInt, aStr, aConv, aSlice, asNat?, cutTight, aIndexAddr, aFieldAddr, aField, aIndex, aLoad, aStore, aAlloc, aBox, aBuild, aBuildSlice, aMakeSlice, aLen, aMax, aMin, aAppend, aCopy, aBuiltin, TD.isSlice, TD.isAgg, TD.known, TD.isSeq, partD, partOb, cellsAt, Blk.cells, if_true, if_false, splice, fillD, dl, byteD, Int.reduceBEq, beq_self_eq_true, retQ, retK, resD, resL, andR, elemCells, isByte, chunk, reduceCtorEq, okVal, okCell, List.replicate, ne_eq, Nat.reduceEqDiff, IntWalk.toNatUp]
      refine callP (readRef_ok b a hbr oka) rfl ?_
      cases hr : readN (b.drop a) with
      | none =>
        rw [hr] at hrd
        have hg := bad (ri_parse hI (.inr (.inr hr)))
        rcases Nat.lt_or_ge l.length 3 with c3 | c3
        · have c3' : decide ((l.length : Int) < 3) = true := decide_eq_true (by omega)
          simp (disch := (first | omega | (simp only [List.length_take, List.length_drop, List.length_append, List.length_map, List.length_cons, List.length_nil]; done) | (simp only [List.length_take, List.length_drop, List.length_append, List.length_map, List.length_cons, List.length_nil]; omega))) only [hrd, rdD, c3', hg, MM.d, zeroMM, W1, ↓W2, unbyte, implies_true, ← List.map_take, ← List.map_drop, bne_self_eq_false, eqCells, flatTD, Nat.reducePow, ayield, eq_self, exists_eq_left', exists_eq_left, Int.reduceLE, Int.reduceLT, Nat.reduceLeDiff, Int.reduceToNat, Int.reduceAdd, Int.reduceSub, Int.reduceMul, Int.reduceNeg, Int.reduceEq, argEnv, aeval, get, put, ofVal, ofVals, List.map, cond_true, cond_false, Nat.reduceBEq, nexts, allocs, countAllocs, pad, Nat.reduceAdd, Nat.reduceMul, Nat.reduceSub, Nat.reduceLT, isVoid, aNilCheck, aExtract, aInt, aStr, aConv, aSlice, asNat?, cutTight, aIndexAddr, aFieldAddr, aField, aIndex, aLoad, aStore, aAlloc, aBox, aBuild, aBuildSlice, aMakeSlice, aLen, aMax, aMin, aAppend, aCopy, aBuiltin, TD.isSlice, TD.isAgg, TD.known, TD.isSeq, partD, partOb, cellsAt, Blk.cells, if_true, if_false, splice, fillD, dl, byteD, Int.reduceBEq, beq_self_eq_true, retQ, retK, resD, resL, andR, elemCells, isByte, chunk, reduceCtorEq, okVal, okCell, List.replicate, ne_eq, Nat.reduceEqDiff, IntWalk.toNatUp]
          exact Sub.tup ⟨Sub.agg ⟨Sub.refl rfl, Sub.nil _ _, Sub.refl rfl, Sub.refl rfl, trivial⟩, Sub.refl rfl, trivial⟩
        · have c3' : decide ((l.length : Int) < 3) = false := decide_eq_false (by omega)
          obtain ⟨hx1, hx2⟩ := hidx (by omega)
          have hd : ((l.length : Int) != IntKind.i64.wrap ((l.getD 1 0 : Nat) + 3 : Int)) = true := by
            simp only [bne, done_test l c3 (by omega) hx2, hI.now, Bool.not_false]
          simp (disch := (first | omega | (simp only [List.length_take, List.length_drop, List.length_append, List.length_map, List.length_cons, List.length_nil]; done) | (simp only [List.length_take, List.length_drop, List.length_append, List.length_map, List.length_cons, List.length_nil]; omega))) only [hrd, rdD, c3', hx1, hd, hg, Nat.zero_add, MM.d, zeroMM, W1, ↓W2, unbyte, implies_true, ← List.map_take, ← List.map_drop, bne_self_eq_false, eqCells, flatTD, Nat.reducePow, ayield, eq_self, exists_eq_left', exists_eq_left, Int.reduceLE, Int.reduceLT, Nat.reduceLeDiff, Int.reduceToNat, Int.reduceAdd, Int.reduceSub, Int.reduceMul, Int.reduceNeg, Int.reduceEq, argEnv, aeval, get, put, ofVal, ofVals, List.map, cond_true, cond_false, Nat.reduceBEq, nexts, allocs, countAllocs, pad, Nat.reduceAdd, Nat.reduceMul, Nat.reduceSub, Nat.reduceLT, isVoid, aNilCheck, aExtract, aInt, aStr, aConv, aSlice, asNat?, cutTight, aIndexAddr, aFieldAddr, aField, aIndex, aLoad, aStore, aAlloc, aBox, aBuild, aBuildSlice, aMakeSlice, aLen, aMax, aMin, aAppend, aCopy, aBuiltin, TD.isSlice, TD.isAgg, TD.known, TD.isSeq, partD, partOb, cellsAt, Blk.cells, if_true, if_false, splice, fillD, dl, byteD, Int.reduceBEq, beq_self_eq_true, retQ, retK, resD, resL, andR, elemCells, isByte, chunk, reduceCtorEq, okVal, okCell, List.replicate, ne_eq, Nat.reduceEqDiff, IntWalk.toNatUp]
          exact Sub.tup ⟨Sub.agg ⟨Sub.refl rfl, Sub.nil _ _, Sub.refl rfl, Sub.refl rfl, trivial⟩, Sub.refl rfl, trivial⟩
      | some y =>
        obtain ⟨n, k2⟩ := y
        rw [hr] at hrd
        obtain ⟨g1, g2⟩ := ri_some hI hr
        have htk : (l.map nD).take l.length = l.map nD := List.take_of_length_le (by rw [hlm]; exact Nat.le_refl _)
        have hone : (l.map nD ++ [D.int .i64 (n : Int)]).length = l.length + 1 := by simp
        have hl1 : (l ++ [n]).length = l.length + 1 := by simp
        have hvals2 := (takeNs_some _ _ _ _ g1).2.2
        rcases Nat.lt_or_ge (l.length + 1) 3 with c3 | c3
        · have c3' : decide (((l.length + 1 : Nat) : Int) ≥ 3) = false := decide_eq_false (by omega)
          have hdn : doneN (l ++ [n]) = false := by simp only [doneN, hl1, decide_eq_false (show ¬ 3 ≤ l.length + 1 by omega), Bool.false_and]
          simp (disch := (first | omega | (simp only [List.length_take, List.length_drop, List.length_append, List.length_map, List.length_cons, List.length_nil]; done) | (simp only [List.length_take, List.length_drop, List.length_append, List.length_map, List.length_cons, List.length_nil]; omega))) only [hrd, rdD, one_nD, htk, c3', W1, ↓W2, unbyte, implies_true, ← List.map_take, ← List.map_drop, bne_self_eq_false, eqCells, flatTD, Nat.reducePow, ayield, eq_self, exists_eq_left', exists_eq_left, Int.reduceLE, Int.reduceLT, Nat.reduceLeDiff, Int.reduceToNat, Int.reduceAdd, Int.reduceSub, Int.reduceMul, Int.reduceNeg, Int.reduceEq, argEnv, aeval, get, put, ofVal, ofVals, List.map, cond_true, cond_false, Nat.reduceBEq, nexts, allocs, countAllocs, pad, Nat.reduceAdd, Nat.reduceMul, Nat.reduceSub, Nat.reduceLT, isVoid, aNilCheck, aExtract, aInt, aStr, aConv, aSlice, asNat?, cutTight, aIndexAddr, aFieldAddr, aField, aIndex, aLoad, aStore, aAlloc, aBox, aBuild, aBuildSlice, aMakeSlice, aLen, aMax, aMin, aAppend, aCopy, aBuiltin, TD.isSlice, TD.isAgg, TD.known, TD.isSeq, partD, partOb, cellsAt, Blk.cells, if_true, if_false, splice, fillD, dl, byteD, Int.reduceBEq, beq_self_eq_true, retQ, retK, resD, resL, andR, elemCells, isByte, chunk, reduceCtorEq, okVal, okCell, List.replicate, ne_eq, Nat.reduceEqDiff, IntWalk.toNatUp]
          have hnx2 := ri_next hI g2 g1 hdn (by omega)
          refine ⟨(l ++ [n], a + k2), hnx2, by simp only [List.length_append, List.length_singleton]; omega, fitsR [0, 3] ?_ ?_ (by
            have hH2 : refH (l ++ [n]) = [.live [.int .i64 0, .nil, .int .i64 0, .int .u32 0], .live ((l ++ [n]).map nD)] := if_neg (by simp)
            rw [hH2]; simp [liveIds]) rfl⟩
          · have hE2 : refE (l ++ [n]) = .ref 1 0 (l.length + 1) 1 := by
              unfold refE
              rw [if_neg (by simp)]
              simp
            rw [hE2]
            exact ⟨⟨rfl, rfl⟩, ⟨rfl, rfl⟩, ⟨rfl, rfl⟩, ⟨rfl, rfl⟩, ⟨rfl, rfl⟩, trivial⟩
          · have hH2 : refH (l ++ [n]) = [.live [.int .i64 0, .nil, .int .i64 0, .int .u32 0], .live (l.map nD ++ [nD n])] := by
              unfold refH
              rw [if_neg (by simp)]
              simp
            rw [hH2]
            refine ⟨⟨rfl, rfl⟩, ⟨?_, ?_⟩, trivial⟩
            · simp only [bndBlk, List.all_append, bnd_nD]; rfl
            · simp only [renBlk, List.map_append, ren_nD, List.getElem?_cons_succ, List.getElem?_cons_zero]; rfl
        · have c3' : decide (((l.length + 1 : Nat) : Int) ≥ 3) = true := decide_eq_true (by omega)
          have hx1 : (l.map nD ++ [D.int .i64 (n : Int)]).getD 1 .any = .int .i64 (((l ++ [n]).getD 1 0 : Nat) : Int) := by
            have e : l.map nD ++ [D.int .i64 (n : Int)] = (l ++ [n]).map nD := by simp [nD]
            rw [e]
            have h1l : 1 < (l ++ [n]).length := by omega
            rw [List.getD_eq_getElem?_getD, List.getD_eq_getElem?_getD, List.getElem?_map, List.getElem?_eq_getElem h1l]
            rfl
          have hx2 : (l ++ [n]).getD 1 0 < 9223372036854775808 := by
            have h1l : 1 < (l ++ [n]).length := by omega
            rw [List.getD_eq_getElem?_getD, List.getElem?_eq_getElem h1l]
            have := hvals2 _ (List.getElem_mem h1l)
            simp only [Option.getD_some]
            omega
          have hd := done_test (l ++ [n]) (by omega) (by omega) hx2
          rw [hl1] at hd
          generalize hw1 : (l ++ [n]).getD 1 0 = w1 at hx1 hx2 hd
          cases hdn : doneN (l ++ [n])
          · rw [hdn] at hd
            simp (disch := (first | omega | (simp only [List.length_take, List.length_drop, List.length_append, List.length_map, List.length_cons, List.length_nil]; done) | (simp only [List.length_take, List.length_drop, List.length_append, List.length_map, List.length_cons, List.length_nil]; omega))) only [hrd, rdD, one_nD, htk, c3', hx1, hd, Nat.zero_add, W1, ↓W2, unbyte, implies_true, ← List.map_take, ← List.map_drop, bne_self_eq_false, eqCells, flatTD, Nat.reducePow, ayield, eq_self, exists_eq_left', exists_eq_left, Int.reduceLE, Int.reduceLT, Nat.reduceLeDiff, Int.reduceToNat, Int.reduceAdd, Int.reduceSub, Int.reduceMul, Int.reduceNeg, Int.reduceEq, argEnv, aeval, get, put, ofVal, ofVals, List.map, cond_true, cond_false, Nat.reduceBEq, nexts, allocs, countAllocs, pad, Nat.reduceAdd, Nat.reduceMul, Nat.reduceSub, Nat.reduceLT, isVoid, aNilCheck, aExtract, aInt, aStr, aConv, aSlice, asNat?, cutTight, aIndexAddr, aFieldAddr, aField, aIndex, aLoad, aStore, aAlloc, aBox, aBuild, aBuildSlice, aMakeSlice, aLen, aMax, aMin, aAppend, aCopy, aBuiltin, TD.isSlice, TD.isAgg, TD.known, TD.isSeq, partD, partOb, cellsAt, Blk.cells, if_true, if_false, splice, fillD, dl, byteD, Int.reduceBEq, beq_self_eq_true, retQ, retK, resD, resL, andR, elemCells, isByte, chunk, reduceCtorEq, okVal, okCell, List.replicate, ne_eq, Nat.reduceEqDiff, IntWalk.toNatUp]
            have hnx2 := ri_next hI g2 g1 hdn (by omega)
            refine ⟨(l ++ [n], a + k2), hnx2, by simp only [List.length_append, List.length_singleton]; omega, fitsR [0, 3] ?_ ?_ (by
              have hH2 : refH (l ++ [n]) = [.live [.int .i64 0, .nil, .int .i64 0, .int .u32 0], .live ((l ++ [n]).map nD)] := if_neg (by simp)
              rw [hH2]; simp [liveIds]) rfl⟩
            · have hE2 : refE (l ++ [n]) = .ref 1 0 (l.length + 1) 1 := by
                unfold refE
                rw [if_neg (by simp)]
                simp
              rw [hE2]
              exact ⟨⟨rfl, rfl⟩, ⟨rfl, rfl⟩, ⟨rfl, rfl⟩, ⟨rfl, rfl⟩, ⟨rfl, rfl⟩, trivial⟩
            · have hH2 : refH (l ++ [n]) = [.live [.int .i64 0, .nil, .int .i64 0, .int .u32 0], .live (l.map nD ++ [nD n])] := by
                unfold refH
                rw [if_neg (by simp)]
                simp
              rw [hH2]
              refine ⟨⟨rfl, rfl⟩, ⟨?_, ?_⟩, trivial⟩
              · simp only [bndBlk, List.all_append, bnd_nD]; rfl
              · simp only [renBlk, List.map_append, ren_nD, List.getElem?_cons_succ, List.getElem?_cons_zero]; rfl
          · rw [hdn] at hd
            have hd' : (((l.length + 1 : Nat) : Int) != IntKind.i64.wrap ((w1 : Int) + 3)) = false := by simp only [bne, hd, Bool.not_true]
            have c3'' : decide (((l.length + 1 : Nat) : Int) < 3) = false := decide_eq_false (by omega)
            simp (disch := (first | omega | (simp only [List.length_take, List.length_drop, List.length_append, List.length_map, List.length_cons, List.length_nil]; done) | (simp only [List.length_take, List.length_drop, List.length_append, List.length_map, List.length_cons, List.length_nil]; omega))) only [hrd, rdD, one_nD, htk, c3', hx1, hd, c3'', hd', Nat.zero_add, W1, ↓W2, unbyte, implies_true, ← List.map_take, ← List.map_drop, bne_self_eq_false, eqCells, flatTD, Nat.reducePow, ayield, eq_self, exists_eq_left', exists_eq_left, Int.reduceLE, Int.reduceLT, Nat.reduceLeDiff, Int.reduceToNat, Int.reduceAdd, Int.reduceSub, Int.reduceMul, Int.reduceNeg, Int.reduceEq, argEnv, aeval, get, put, ofVal, ofVals, List.map, cond_true, cond_false, Nat.reduceBEq, nexts, allocs, countAllocs, pad, Nat.reduceAdd, Nat.reduceMul, Nat.reduceSub, Nat.reduceLT, isVoid, aNilCheck, aExtract, aInt, aStr, aConv, aSlice, asNat?, cutTight, aIndexAddr, aFieldAddr, aField, aIndex, aLoad, aStore, aAlloc, aBox, aBuild, aBuildSlice, aMakeSlice, aLen, aMax, aMin, aAppend, aCopy, aBuiltin, TD.isSlice, TD.isAgg, TD.known, TD.isSeq, partD, partOb, cellsAt, Blk.cells, if_true, if_false, splice, fillD, dl, byteD, Int.reduceBEq, beq_self_eq_true, retQ, retK, resD, resL, andR, elemCells, isByte, chunk, reduceCtorEq, okVal, okCell, List.replicate, ne_eq, Nat.reduceEqDiff, IntWalk.toNatUp]
            obtain ⟨v, c, z, g, hL, hgc⟩ := done_shape hdn
            have hz : z = n ∧ l = v :: c :: g := by
              have e : l ++ [n] = (v :: c :: g) ++ [z] := by rw [hL]; rfl
              obtain ⟨e1, e2⟩ := List.append_inj' e rfl
              exact ⟨by simpa using e2.symm, e1⟩
            obtain ⟨rfl, hlv⟩ := hz
            have hlc : l.length = c + 2 := by rw [hlv]; simp [hgc]
            have hsh : parseMM b = _ := shape_parse hgc (by
              have e : c + 3 = (l ++ [z]).length := by rw [hl1, hlc]
              rw [e, ← hL]
              exact g1)
            have hrl : (b.drop (a + k2)).length = b.length - (a + k2) := List.length_drop
            cases h4 : (((b.length : Int) - ((a : Int) + (k2 : Int))) == 4)
            · have h4n : (((b.length : Int) - ((a : Int) + (k2 : Int))) != 4) = true := by simp only [bne, h4, Bool.not_false]
              have h4' : ¬ ((b.length : Int) - ((a : Int) + (k2 : Int)) = 4) := by simpa using h4
              have hg := bad (by
                rw [hsh]
                split
                · rfl
                · rw [if_neg (by omega)])
              simp (disch := (first | omega | (simp only [List.length_take, List.length_drop, List.length_append, List.length_map, List.length_cons, List.length_nil]; done) | (simp only [List.length_take, List.length_drop, List.length_append, List.length_map, List.length_cons, List.length_nil]; omega))) only [h4n, hg, MM.d, zeroMM, W1, ↓W2, unbyte, implies_true, ← List.map_take, ← List.map_drop, bne_self_eq_false, eqCells, flatTD, Nat.reducePow, ayield, eq_self, exists_eq_left', exists_eq_left, Int.reduceLE, Int.reduceLT, Nat.reduceLeDiff, Int.reduceToNat, Int.reduceAdd, Int.reduceSub, Int.reduceMul, Int.reduceNeg, Int.reduceEq, argEnv, aeval, get, put, ofVal, ofVals, List.map, cond_true, cond_false, Nat.reduceBEq, nexts, allocs, countAllocs, pad, Nat.reduceAdd, Nat.reduceMul, Nat.reduceSub, Nat.reduceLT, isVoid, aNilCheck, aExtract, aInt, aStr, aConv, aSlice, asNat?, cutTight, aIndexAddr, aFieldAddr, aField, aIndex, aLoad, aStore, aAlloc, aBox, aBuild, aBuildSlice, aMakeSlice, aLen, aMax, aMin, aAppend, aCopy, aBuiltin, TD.isSlice, TD.isAgg, TD.known, TD.isSeq, partD, partOb, cellsAt, Blk.cells, if_true, if_false, splice, fillD, dl, byteD, Int.reduceBEq, beq_self_eq_true, retQ, retK, resD, resL, andR, elemCells, isByte, chunk, reduceCtorEq, okVal, okCell, List.replicate, ne_eq, Nat.reduceEqDiff, IntWalk.toNatUp]
              exact Sub.tup ⟨Sub.agg ⟨Sub.refl rfl, Sub.nil _ _, Sub.refl rfl, Sub.refl rfl, trivial⟩, Sub.refl rfl, trivial⟩
            have h4' := eq_of_beq h4
            have h4n : (((b.length : Int) - ((a : Int) + (k2 : Int))) != 4) = false := by simp only [bne, h4, Bool.not_true]
            have i0 : (l.map nD ++ [D.int .i64 (z : Int)]).getD 0 .any = .int .i64 (v : Int) := by rw [hlv]; rfl
            have il : (l.map nD ++ [D.int .i64 (z : Int)]).getD l.length .any = .int .i64 (z : Int) := by
              have e : (l.map nD).length = l.length := List.length_map _
              rw [List.getD_eq_getElem?_getD, List.getElem?_append_right (by omega), e, Nat.sub_self]
              rfl
            have hs1 : ((l.length + 1 : Nat) : Int) - 1 = (l.length : Int) := by omega
            simp (disch := (first | omega | (simp only [List.length_take, List.length_drop, List.length_append, List.length_map, List.length_cons, List.length_nil]; done) | (simp only [List.length_take, List.length_drop, List.length_append, List.length_map, List.length_cons, List.length_nil]; omega))) only [h4n, W1, ↓W2, unbyte, implies_true, ← List.map_take, ← List.map_drop, bne_self_eq_false, eqCells, flatTD, Nat.reducePow, ayield, eq_self, exists_eq_left', exists_eq_left, Int.reduceLE, Int.reduceLT, Nat.reduceLeDiff, Int.reduceToNat, Int.reduceAdd, Int.reduceSub, Int.reduceMul, Int.reduceNeg, Int.reduceEq, argEnv, aeval, get, put, ofVal, ofVals, List.map, cond_true, cond_false, Nat.reduceBEq, nexts, allocs, countAllocs, pad, Nat.reduceAdd, Nat.reduceMul, Nat.reduceSub, Nat.reduceLT, isVoid, aNilCheck, aExtract, aInt, aStr, aConv, aSlice, asNat?, cutTight, aIndexAddr, aFieldAddr, aField, aIndex, aLoad, aStore, aAlloc, aBox, aBuild, aBuildSlice, aMakeSlice, aLen, aMax, aMin, aAppend, aCopy, aBuiltin, TD.isSlice, TD.isAgg, TD.known, TD.isSeq, partD, partOb, cellsAt, Blk.cells, if_true, if_false, splice, fillD, dl, byteD, Int.reduceBEq, beq_self_eq_true, retQ, retK, resD, resL, andR, elemCells, isByte, chunk, reduceCtorEq, okVal, okCell, List.replicate, ne_eq, Nat.reduceEqDiff, IntWalk.toNatUp]
            refine draw_fast 0 ?_ ?_
            · decide +kernel
            simp (disch := (first | omega | (simp only [List.length_take, List.length_drop, List.length_append, List.length_map, List.length_cons, List.length_nil]; done) | (simp only [List.length_take, List.length_drop, List.length_append, List.length_map, List.length_cons, List.length_nil]; omega))) only [i0, il, hs1, Nat.zero_add, W1, ↓W2, unbyte, implies_true, ← List.map_take, ← List.map_drop, bne_self_eq_false, eqCells, flatTD, Nat.reducePow, ayield, eq_self, exists_eq_left', exists_eq_left, Int.reduceLE, Int.reduceLT, Nat.reduceLeDiff, Int.reduceToNat, Int.reduceAdd, Int.reduceSub, Int.reduceMul, Int.reduceNeg, Int.reduceEq, argEnv, aeval, get, put, ofVal, ofVals, List.map, cond_true, cond_false, Nat.reduceBEq, nexts, allocs, countAllocs, pad, Nat.reduceAdd, Nat.reduceMul, Nat.reduceSub, Nat.reduceLT, isVoid, aNilCheck, aExtract, aInt, aStr, aConv, aSlice, asNat?, cutTight, aIndexAddr, aFieldAddr, aField, aIndex, aLoad, aStore, aAlloc, aBox, aBuild, aBuildSlice, aMakeSlice, aLen, aMax, aMin, aAppend, aCopy, aBuiltin, TD.isSlice, TD.isAgg, TD.known, TD.isSeq, partD, partOb, cellsAt, Blk.cells, if_true, if_false, splice, fillD, dl, byteD, Int.reduceBEq, beq_self_eq_true, retQ, retK, resD, resL, andR, elemCells, isByte, chunk, reduceCtorEq, okVal, okCell, List.replicate, ne_eq, Nat.reduceEqDiff, IntWalk.toNatUp]
            refine tend_fast ?_ ?_
            · decide +kernel
            simp (disch := (first | omega | (simp only [List.length_take, List.length_drop, List.length_append, List.length_map, List.length_cons, List.length_nil]; done) | (simp only [List.length_take, List.length_drop, List.length_append, List.length_map, List.length_cons, List.length_nil]; omega))) only [W1, ↓W2, unbyte, implies_true, ← List.map_take, ← List.map_drop, bne_self_eq_false, eqCells, flatTD, Nat.reducePow, ayield, eq_self, exists_eq_left', exists_eq_left, Int.reduceLE, Int.reduceLT, Nat.reduceLeDiff, Int.reduceToNat, Int.reduceAdd, Int.reduceSub, Int.reduceMul, Int.reduceNeg, Int.reduceEq, argEnv, aeval, get, put, ofVal, ofVals, List.map, cond_true, cond_false, Nat.reduceBEq, nexts, allocs, countAllocs, pad, Nat.reduceAdd, Nat.reduceMul, Nat.reduceSub, Nat.reduceLT, isVoid, aNilCheck, aExtract, aInt, aStr, aConv, aSlice, asNat?, cutTight, aIndexAddr, aFieldAddr, aField, aIndex, aLoad, aStore, aAlloc, aBox, aBuild, aBuildSlice, aMakeSlice, aLen, aMax, aMin, aAppend, aCopy, aBuiltin, TD.isSlice, TD.isAgg, TD.known, TD.isSeq, partD, partOb, cellsAt, Blk.cells, if_true, if_false, splice, fillD, dl, byteD, Int.reduceBEq, beq_self_eq_true, retQ, retK, resD, resL, andR, elemCells, isByte, chunk, reduceCtorEq, okVal, okCell, List.replicate, ne_eq, Nat.reduceEqDiff, IntWalk.toNatUp]
            obtain ⟨r, hr4⟩ : ∃ r, r = b.drop (a + k2) := ⟨_, rfl⟩
            rw [← hr4] at hrl hsh
            have hr4l : r.length = 4 := by omega
            have fitB : ∀ (ρ : List Nat), bndBlk ρ.length (.live (l.map nD ++ [D.int .i64 (z : Int)])) = true ∧ Blk.live (l.map nD ++ [D.int .i64 (z : Int)]) = renBlk ρ (.live (l.map nD ++ [D.int .i64 (z : Int)])) := fun ρ => by
              refine ⟨?_, ?_⟩
              · simp only [bndBlk, List.all_append, bnd_nD]; rfl
              · simp only [renBlk, List.map_append, ren_nD]; rfl
            refine loopR (fun j : Nat => [(0, .str s), (2, .ptr 0 0), (4, .str b), (8, .int .i64 ((a : Int) + (k2 : Int))), (12, .ptr 2 0), (13, .int .i64 (3 - (j : Int)))]) (fun j => [.live [.int .i64 0, .nil, .int .i64 0, .int .u32 0], .live (l.map nD ++ [D.int .i64 (z : Int)]), .live [.int .i64 v, .ref 1 2 (l.length - 2) 1, .int .i64 z, .int .u32 (hsW r j)]]) (fun j => j ≤ 4) (fun j => 4 - j) 0 (Nat.zero_le _) ?_ ?_
            · refine fitsR [0, 3, 4] ?_ ?_ (by simp [liveIds]) rfl
              · exact ⟨⟨rfl, rfl⟩, ⟨rfl, rfl⟩, ⟨rfl, rfl⟩, ⟨rfl, rfl⟩, ⟨rfl, rfl⟩, ⟨rfl, rfl⟩, trivial⟩
              · exact ⟨⟨rfl, rfl⟩, ⟨(fitB [0, 3, 4]).1, congrArg some (fitB [0, 3, 4]).2⟩, ⟨rfl, rfl⟩, trivial⟩
            intro j hj
            cases hj2 : decide ((3 : Int) - (j : Int) ≥ 0)
            case true =>
              have hj2' := of_decide_eq_true hj2
              have hj4 : j ≤ 3 := by omega
              have hlt := hsW_lt r j
              have hlt2 : 256 ^ j ≤ 256 ^ 3 := Nat.pow_le_pow_right (by decide) hj4
              have hh : hsW r j < 16777216 := Nat.lt_of_lt_of_le hlt hlt2
              have hbyte := (r.getD (3 - j) 0).toNat_lt
              have hix : (a : Int) + (k2 : Int) + (3 - (j : Int)) = ((a + k2 + (3 - j) : Nat) : Int) := by omega
              have hgb : b.getD (a + k2 + (3 - j)) 0 = r.getD (3 - j) 0 := by
                rw [hr4, List.getD_eq_getElem?_getD, List.getD_eq_getElem?_getD, List.getElem?_drop]
              have hib : a + k2 + (3 - j) < b.length := by omega
              have hnx3 : (3 : Int) - (j : Int) - 1 = 3 - ((j + 1 : Nat) : Int) := by omega
              have hval : ((hsW r j : Nat) : Int) * 256 + ((r.getD (3 - j) 0).toNat : Int) = ((hsW r (j + 1) : Nat) : Int) := by
                simp only [hsW]; omega
              simp (disch := (first | omega | (simp only [List.length_take, List.length_drop, List.length_append, List.length_map, List.length_cons, List.length_nil]; done) | (simp only [List.length_take, List.length_drop, List.length_append, List.length_map, List.length_cons, List.length_nil]; omega))) only [hj2, W1, ↓W2, unbyte, implies_true, ← List.map_take, ← List.map_drop, bne_self_eq_false, eqCells, flatTD, Nat.reducePow, ayield, eq_self, exists_eq_left', exists_eq_left, Int.reduceLE, Int.reduceLT, Nat.reduceLeDiff, Int.reduceToNat, Int.reduceAdd, Int.reduceSub, Int.reduceMul, Int.reduceNeg, Int.reduceEq, argEnv, aeval, get, put, ofVal, ofVals, List.map, cond_true, cond_false, Nat.reduceBEq, nexts, allocs, countAllocs, pad, Nat.reduceAdd, Nat.reduceMul, Nat.reduceSub, Nat.reduceLT, isVoid, aNilCheck, aExtract, aInt, aStr, aConv, aSlice, asNat?, cutTight, aIndexAddr, aFieldAddr, aField, aIndex, aLoad, aStore, aAlloc, aBox, aBuild, aBuildSlice, aMakeSlice, aLen, aMax, aMin, aAppend, aCopy, aBuiltin, TD.isSlice, TD.isAgg, TD.known, TD.isSeq, partD, partOb, cellsAt, Blk.cells, if_true, if_false, splice, fillD, dl, byteD, Int.reduceBEq, beq_self_eq_true, retQ, retK, resD, resL, andR, elemCells, isByte, chunk, reduceCtorEq, okVal, okCell, List.replicate, ne_eq, Nat.reduceEqDiff, IntWalk.toNatUp]
              refine draw_fast 0 ?_ ?_
              · decide +kernel
              simp (disch := (first | omega | (simp only [List.length_take, List.length_drop, List.length_append, List.length_map, List.length_cons, List.length_nil]; done) | (simp only [List.length_take, List.length_drop, List.length_append, List.length_map, List.length_cons, List.length_nil]; omega))) only [hix, hgb, hval, W1, ↓W2, unbyte, implies_true, ← List.map_take, ← List.map_drop, bne_self_eq_false, eqCells, flatTD, Nat.reducePow, ayield, eq_self, exists_eq_left', exists_eq_left, Int.reduceLE, Int.reduceLT, Nat.reduceLeDiff, Int.reduceToNat, Int.reduceAdd, Int.reduceSub, Int.reduceMul, Int.reduceNeg, Int.reduceEq, argEnv, aeval, get, put, ofVal, ofVals, List.map, cond_true, cond_false, Nat.reduceBEq, nexts, allocs, countAllocs, pad, Nat.reduceAdd, Nat.reduceMul, Nat.reduceSub, Nat.reduceLT, isVoid, aNilCheck, aExtract, aInt, aStr, aConv, aSlice, asNat?, cutTight, aIndexAddr, aFieldAddr, aField, aIndex, aLoad, aStore, aAlloc, aBox, aBuild, aBuildSlice, aMakeSlice, aLen, aMax, aMin, aAppend, aCopy, aBuiltin, TD.isSlice, TD.isAgg, TD.known, TD.isSeq, partD, partOb, cellsAt, Blk.cells, if_true, if_false, splice, fillD, dl, byteD, Int.reduceBEq, beq_self_eq_true, retQ, retK, resD, resL, andR, elemCells, isByte, chunk, reduceCtorEq, okVal, okCell, List.replicate, ne_eq, Nat.reduceEqDiff, IntWalk.toNatUp]
              refine tend_fast ?_ ?_
              · decide +kernel
              simp (disch := (first | omega | (simp only [List.length_take, List.length_drop, List.length_append, List.length_map, List.length_cons, List.length_nil]; done) | (simp only [List.length_take, List.length_drop, List.length_append, List.length_map, List.length_cons, List.length_nil]; omega))) only [hnx3, W1, ↓W2, unbyte, implies_true, ← List.map_take, ← List.map_drop, bne_self_eq_false, eqCells, flatTD, Nat.reducePow, ayield, eq_self, exists_eq_left', exists_eq_left, Int.reduceLE, Int.reduceLT, Nat.reduceLeDiff, Int.reduceToNat, Int.reduceAdd, Int.reduceSub, Int.reduceMul, Int.reduceNeg, Int.reduceEq, argEnv, aeval, get, put, ofVal, ofVals, List.map, cond_true, cond_false, Nat.reduceBEq, nexts, allocs, countAllocs, pad, Nat.reduceAdd, Nat.reduceMul, Nat.reduceSub, Nat.reduceLT, isVoid, aNilCheck, aExtract, aInt, aStr, aConv, aSlice, asNat?, cutTight, aIndexAddr, aFieldAddr, aField, aIndex, aLoad, aStore, aAlloc, aBox, aBuild, aBuildSlice, aMakeSlice, aLen, aMax, aMin, aAppend, aCopy, aBuiltin, TD.isSlice, TD.isAgg, TD.known, TD.isSeq, partD, partOb, cellsAt, Blk.cells, if_true, if_false, splice, fillD, dl, byteD, Int.reduceBEq, beq_self_eq_true, retQ, retK, resD, resL, andR, elemCells, isByte, chunk, reduceCtorEq, okVal, okCell, List.replicate, ne_eq, Nat.reduceEqDiff, IntWalk.toNatUp]
              refine ⟨j + 1, by omega, by omega, fitsR [0, 1, 2] ?_ ?_ (by simp [liveIds]) rfl⟩
              · exact ⟨⟨rfl, rfl⟩, ⟨rfl, rfl⟩, ⟨rfl, rfl⟩, ⟨rfl, rfl⟩, ⟨rfl, rfl⟩, ⟨rfl, rfl⟩, trivial⟩
              · exact ⟨⟨rfl, rfl⟩, ⟨(fitB [0, 1, 2]).1, congrArg some (fitB [0, 1, 2]).2⟩, ⟨rfl, rfl⟩, trivial⟩
            obtain rfl : j = 4 := by have := of_decide_eq_false hj2; omega
            have hw4 : ((hsW r 4 : Nat) : Int) = ((sum4 r).toNat : Int) := by rw [hsW_4]
            have hj5 : decide ((-1 : Int) ≥ 0) = false := by decide
            have hes : (l.map nD ++ [D.int .i64 (z : Int)]).drop 2 = (g.map Int.ofNat).map (D.int .i64) ++ [D.int .i64 (z : Int)] := by
              rw [hlv]
              simp only [List.map_cons, List.cons_append, List.drop_succ_cons, List.drop_zero, List.map_map]
              rfl
            have hgl : ((g.map Int.ofNat).map (D.int .i64)).length = l.length - 2 := by simp only [List.length_map, hgc, hlc]; omega
            have hsub : ∀ H' : AHeap, H'[1]? = some (.froz (l.map nD ++ [D.int .i64 (z : Int)])) → Sub H' (.ref 1 2 (l.length - 2) 1) (.sl 1 ((g.map Int.ofNat).map (D.int .i64)) false) := fun H' hb' => by
              refine Sub.sl1 hb' hgl (fun e he => ?_) (by rw [hone]; omega) ?_ (noL _ (ni_int _) _)
              · obtain ⟨y, _, rfl⟩ := List.mem_map.1 he
                rfl
              · rw [hes, List.take_append_of_le_length (by omega), List.take_of_length_le (by omega)]
            obtain ⟨m, hm⟩ : ∃ m : MM, m = ⟨(v : Int), g.map Int.ofNat, (z : Int), sum4 r⟩ := ⟨_, rfl⟩
            have hmd : m.d = .agg [.int .i64 (v : Int), .sl 1 ((g.map Int.ofNat).map (D.int .i64)) false, .int .i64 (z : Int), .int .u32 ((sum4 r).toNat : Int)] := by rw [hm]; rfl
            have hmr := mputRef_ok m (by rw [hm, reach_lit]; simp only [List.length_map]; omega)
            rw [hmd] at hmr
            have hsh2 : parseMM b = if 64 < c then none else some m := by
              rw [hsh, if_pos hr4l, hm]
            simp (disch := (first | omega | (simp only [List.length_take, List.length_drop, List.length_append, List.length_map, List.length_cons, List.length_nil]; done) | (simp only [List.length_take, List.length_drop, List.length_append, List.length_map, List.length_cons, List.length_nil]; omega))) only [hj2, hj5, hw4, W1, ↓W2, unbyte, implies_true, ← List.map_take, ← List.map_drop, bne_self_eq_false, eqCells, flatTD, Nat.reducePow, ayield, eq_self, exists_eq_left', exists_eq_left, Int.reduceLE, Int.reduceLT, Nat.reduceLeDiff, Int.reduceToNat, Int.reduceAdd, Int.reduceSub, Int.reduceMul, Int.reduceNeg, Int.reduceEq, argEnv, aeval, get, put, ofVal, ofVals, List.map, cond_true, cond_false, Nat.reduceBEq, nexts, allocs, countAllocs, pad, Nat.reduceAdd, Nat.reduceMul, Nat.reduceSub, Nat.reduceLT, isVoid, aNilCheck, aExtract, aInt, aStr, aConv, aSlice, asNat?, cutTight, aIndexAddr, aFieldAddr, aField, aIndex, aLoad, aStore, aAlloc, aBox, aBuild, aBuildSlice, aMakeSlice, aLen, aMax, aMin, aAppend, aCopy, aBuiltin, TD.isSlice, TD.isAgg, TD.known, TD.isSeq, partD, partOb, cellsAt, Blk.cells, if_true, if_false, splice, fillD, dl, byteD, Int.reduceBEq, beq_self_eq_true, retQ, retK, resD, resL, andR, elemCells, isByte, chunk, reduceCtorEq, okVal, okCell, List.replicate, ne_eq, Nat.reduceEqDiff, IntWalk.toNatUp]
            refine callFroz 1 rfl (callSub hmr ⟨Sub.agg ⟨Sub.refl rfl, hsub _ rfl, Sub.refl rfl, Sub.refl rfl, trivial⟩, trivial⟩ ?_)
            cases hR : rightMM m
            · have hpm : putMM m = ([], 1) := by simp only [putMM, hR, cond_false]
              have hg : getMM s = (zeroMM, 3) := by
                by_cases h64 : 64 < c
                · rw [if_pos h64] at hsh2
                  exact bad hsh2
                · rw [if_neg h64] at hsh2
                  exact get_no hn (.inr (.inr ⟨m, hsh2, hR⟩))
              simp (disch := (first | omega | (simp only [List.length_take, List.length_drop, List.length_append, List.length_map, List.length_cons, List.length_nil]; done) | (simp only [List.length_take, List.length_drop, List.length_append, List.length_map, List.length_cons, List.length_nil]; omega))) only [hpm, putFD, show ((1 : Int) != 0) = true from rfl, hg, MM.d, zeroMM, W1, ↓W2, unbyte, implies_true, ← List.map_take, ← List.map_drop, bne_self_eq_false, eqCells, flatTD, Nat.reducePow, ayield, eq_self, exists_eq_left', exists_eq_left, Int.reduceLE, Int.reduceLT, Nat.reduceLeDiff, Int.reduceToNat, Int.reduceAdd, Int.reduceSub, Int.reduceMul, Int.reduceNeg, Int.reduceEq, argEnv, aeval, get, put, ofVal, ofVals, List.map, cond_true, cond_false, Nat.reduceBEq, nexts, allocs, countAllocs, pad, Nat.reduceAdd, Nat.reduceMul, Nat.reduceSub, Nat.reduceLT, isVoid, aNilCheck, aExtract, aInt, aStr, aConv, aSlice, asNat?, cutTight, aIndexAddr, aFieldAddr, aField, aIndex, aLoad, aStore, aAlloc, aBox, aBuild, aBuildSlice, aMakeSlice, aLen, aMax, aMin, aAppend, aCopy, aBuiltin, TD.isSlice, TD.isAgg, TD.known, TD.isSeq, partD, partOb, cellsAt, Blk.cells, if_true, if_false, splice, fillD, dl, byteD, Int.reduceBEq, beq_self_eq_true, retQ, retK, resD, resL, andR, elemCells, isByte, chunk, reduceCtorEq, okVal, okCell, List.replicate, ne_eq, Nat.reduceEqDiff, IntWalk.toNatUp]
              exact Sub.tup ⟨Sub.agg ⟨Sub.refl rfl, Sub.nil _ _, Sub.refl rfl, Sub.refl rfl, trivial⟩, Sub.refl rfl, trivial⟩
            · have hpm : putMM m = (frameN (bodyMM m), 0) := by simp only [putMM, hR, cond_true]
              have hc64 : ¬ 64 < c := by
                have := (right_nums hR).2.1
                rw [hm] at this
                simp only [List.length_map] at this
                omega
              rw [if_neg hc64] at hsh2
              have hgs := get_some hn hsh2 hR
              by_cases hk : k = s.length
              · have hq : (frameN (bodyMM m) == s) = true := by rw [beq_iff_eq, hgs]; exact hk
                have hg := get_yes hn hk hsh2 hR
                simp (disch := (first | omega | (simp only [List.length_take, List.length_drop, List.length_append, List.length_map, List.length_cons, List.length_nil]; done) | (simp only [List.length_take, List.length_drop, List.length_append, List.length_map, List.length_cons, List.length_nil]; omega))) only [hpm, putFD, hq, hg, hmd, W1, ↓W2, unbyte, implies_true, ← List.map_take, ← List.map_drop, bne_self_eq_false, eqCells, flatTD, Nat.reducePow, ayield, eq_self, exists_eq_left', exists_eq_left, Int.reduceLE, Int.reduceLT, Nat.reduceLeDiff, Int.reduceToNat, Int.reduceAdd, Int.reduceSub, Int.reduceMul, Int.reduceNeg, Int.reduceEq, argEnv, aeval, get, put, ofVal, ofVals, List.map, cond_true, cond_false, Nat.reduceBEq, nexts, allocs, countAllocs, pad, Nat.reduceAdd, Nat.reduceMul, Nat.reduceSub, Nat.reduceLT, isVoid, aNilCheck, aExtract, aInt, aStr, aConv, aSlice, asNat?, cutTight, aIndexAddr, aFieldAddr, aField, aIndex, aLoad, aStore, aAlloc, aBox, aBuild, aBuildSlice, aMakeSlice, aLen, aMax, aMin, aAppend, aCopy, aBuiltin, TD.isSlice, TD.isAgg, TD.known, TD.isSeq, partD, partOb, cellsAt, Blk.cells, if_true, if_false, splice, fillD, dl, byteD, Int.reduceBEq, beq_self_eq_true, retQ, retK, resD, resL, andR, elemCells, isByte, chunk, reduceCtorEq, okVal, okCell, List.replicate, ne_eq, Nat.reduceEqDiff, IntWalk.toNatUp]
                exact Sub.tup ⟨Sub.agg ⟨Sub.refl rfl, hsub _ rfl, Sub.refl rfl, Sub.refl rfl, trivial⟩, Sub.refl rfl, trivial⟩
              · have hq : (frameN (bodyMM m) == s) = false := by
                  rw [beq_eq_false_iff_ne]
                  intro h
                  rw [hgs] at h
                  exact hk h
                have hg := get_no hn (.inl hk)
                simp (disch := (first | omega | (simp only [List.length_take, List.length_drop, List.length_append, List.length_map, List.length_cons, List.length_nil]; done) | (simp only [List.length_take, List.length_drop, List.length_append, List.length_map, List.length_cons, List.length_nil]; omega))) only [hpm, putFD, hq, hg, MM.d, zeroMM, W1, ↓W2, unbyte, implies_true, ← List.map_take, ← List.map_drop, bne_self_eq_false, eqCells, flatTD, Nat.reducePow, ayield, eq_self, exists_eq_left', exists_eq_left, Int.reduceLE, Int.reduceLT, Nat.reduceLeDiff, Int.reduceToNat, Int.reduceAdd, Int.reduceSub, Int.reduceMul, Int.reduceNeg, Int.reduceEq, argEnv, aeval, get, put, ofVal, ofVals, List.map, cond_true, cond_false, Nat.reduceBEq, nexts, allocs, countAllocs, pad, Nat.reduceAdd, Nat.reduceMul, Nat.reduceSub, Nat.reduceLT, isVoid, aNilCheck, aExtract, aInt, aStr, aConv, aSlice, asNat?, cutTight, aIndexAddr, aFieldAddr, aField, aIndex, aLoad, aStore, aAlloc, aBox, aBuild, aBuildSlice, aMakeSlice, aLen, aMax, aMin, aAppend, aCopy, aBuiltin, TD.isSlice, TD.isAgg, TD.known, TD.isSeq, partD, partOb, cellsAt, Blk.cells, if_true, if_false, splice, fillD, dl, byteD, Int.reduceBEq, beq_self_eq_true, retQ, retK, resD, resL, andR, elemCells, isByte, chunk, reduceCtorEq, okVal, okCell, List.replicate, ne_eq, Nat.reduceEqDiff, IntWalk.toNatUp]
                exact Sub.tup ⟨Sub.agg ⟨Sub.refl rfl, Sub.nil _ _, Sub.refl rfl, Sub.refl rfl, trivial⟩, Sub.refl rfl, trivial⟩

end Go.Proofs.Ytbabdalfkmdlhaa
