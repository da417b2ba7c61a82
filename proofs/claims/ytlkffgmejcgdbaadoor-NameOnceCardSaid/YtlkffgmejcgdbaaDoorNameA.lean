/- Names: what the functions return. -/
import Derived.Test.YtlkffgmejcgdbaaDoorNameM
import Derived.Test.YtlkffgmejcgdbaaDoorShelf
namespace Go.Proofs.YtlkffgmejcgdbaaDoor
set_option linter.all false
-- bundled
open Go.RowKit

set_option maxRecDepth 100000
set_option pp.deepTerms.threshold 50

/-- What leaves every block as it was leaves what is told. -/
theorem below_inv {w w' : World} {S : Nat → Prop} {β : Bmap} {H : AHeap} (hI : AInv w S β H) (hb : Below w.heap.size w w') : AInv w' S β H ∧ Evo w S β H w' S β H := by
  have hE : Evo w S [] [] w' S [] [] := ⟨hb.os, hb.output, hb.size, fun b hb' _ => hb.block b hb', fun b x h => by
      have hlt : b < w.heap.size := by
        unfold World.shape? at h
        by_cases hb' : b < w.heap.size
        · exact hb'
        · rw [Array.getElem?_eq_none (by omega)] at h; simp at h
      unfold World.shape? at h ⊢
      rw [hb.block b hlt]
      exact h, fun _ h => h, fun _ _ h => h, fun _ h => .inl h, fun _ h => .inl h⟩
  exact hI.frame hE (hI.old.evo (fun b hs => hb.block b (hI.old b hs)) (fun _ h => h) (fun b hs => Nat.lt_of_lt_of_le (hI.old b hs) hb.size))

/-- A function whose calls leave every block as it was, and return data. -/
theorem pure_raw {P : Program} {g : FuncId} {s : List UInt8} {d : D} (hd : d.noIds = true) (hf : ∃ fn, P.funcs[g]? = some fn ∧ (fn.name == "runtime.NumGoroutine") = false ∧ fn.body.isNone = false)
    (h : ∀ (w : World) (S : Nat → Prop), Old w S → Calls P g #[.string ⟨⟨s⟩⟩] w fun e w' => ∃ v, e = .returned v ∧ Below w.heap.size w w' ∧ Rel w' S [] d v) : PureF P g [.str s] d := by
  refine ⟨hf, fun w S β vs hI hl hr => ?_⟩
  have hv : vs = #[.string ⟨⟨s⟩⟩] := by
    have h1 : vs.size = 1 := hl
    have h0 := hr 0 (.str s) vs[0] rfl (by simp [h1])
    have h2 : vs[0] = .string ⟨⟨s⟩⟩ := by
      generalize vs[0] = v at h0
      cases h0
      rfl
    apply Array.ext
    · simpa using h1
    · intro i hi1 hi2
      obtain rfl : i = 0 := by omega
      exact h2
  rw [hv]
  refine (h w S hI.old).mono ?_
  rintro e w' ⟨v, rfl, hb, hrel⟩
  obtain ⟨h1, h2⟩ := below_inv hI hb
  exact ⟨v, d, [], S, β, rfl, h1, h2, (hrel.noIds β hd), Sub.refl hd⟩

theorem rel_tup2 {w : World} {S : Nat → Prop} {β : Bmap} {a b : D} {x y : Value} (h1 : Rel w S β a x) (h2 : Rel w S β b y) : Rel w S β (.tup [a, b]) (.tuple #[x, y]) := by
  refine .tup _ _ rfl fun i d v hd hv => ?_
  match i with
  | 0 => simp at hd hv; subst hd; subst hv; exact h1
  | 1 => simp at hd hv; subst hd; subst hv; exact h2
  | i + 2 => simp at hd

theorem atoi_yes (s : List UInt8) (n : Int) (hl : s.length ≤ 18) (hn : okInt .i64 n) (h : Lib.atoi s = some n) : PureF Tryd.prog 13 [.str s] (.tup [.int .i64 n, .niface]) := by
  refine pure_raw rfl ⟨_, Tryd.func13, by decide, rfl⟩ fun w S hO => ?_
  have hsz : (⟨⟨s⟩⟩ : ByteArray).size = s.length := rfl
  refine (Tryd.strconv_Atoi ⟨⟨s⟩⟩ n (by rw [hsz]; exact hl) h w).mono ?_
  rintro e w' ⟨rfl, t, rfl⟩
  exact ⟨_, rfl, Lib.bytesWorld_below _ _ _, rel_tup2 (.int .i64 n hn.1 hn.2) .niface⟩

theorem atoi_no (s : List UInt8) (hl : s.length ≤ 18) (h : Lib.atoi s = none) : PureF Tryd.prog 13 [.str s] (.tup [.int .i64 0, .iface 41 (.cp [])]) := by
  refine pure_raw rfl ⟨_, Tryd.func13, by decide, rfl⟩ fun w S hO => ?_
  have hsz : (⟨⟨s⟩⟩ : ByteArray).size = s.length := rfl
  obtain ⟨_, a, ha⟩ := hO.gl 0 53 rfl
  refine (Tryd.strconv_Atoi_err ⟨⟨s⟩⟩ (by rw [hsz]; exact hl) h _ w ha (.inr ⟨_, _, rfl⟩)).mono ?_
  rintro e w' ⟨N, rfl, _, _, hb⟩
  exact ⟨_, rfl, hb, rel_tup2 (.int .i64 0 (by decide) (by decide)) (.iface 41 _ _ (.cp [] _ (fun _ => default) (fun j hj => by simp at hj) (fun j d hd => by simp at hd)))⟩

/-- The letters that are laid so far. -/
def laid (j n : Nat) : List D := List.replicate (14 - j) (D.int .u8 0) ++ (low j n).map byteD
theorem laid_len (j n : Nat) (hj : j ≤ 14) : (laid j n).length = 14 := by
  unfold laid
  rw [List.length_append, List.length_replicate, List.length_map, low_len]
  omega
theorem laid_put (j n : Nat) (hj : j < 13) : splice (laid j n) (13 - j) [byteD (dg (n / 10 ^ j))] = laid (j + 1) n := by
  unfold laid
  have e : List.replicate (14 - j) (D.int .u8 0) = List.replicate (13 - j) (D.int .u8 0) ++ [D.int .u8 0] := by
    rw [show 14 - j = (13 - j) + 1 by omega, List.replicate_succ']
  have h := splice_app (List.replicate (13 - j) (D.int .u8 0)) ([D.int .u8 0] ++ (low j n).map byteD) [byteD (dg (n / 10 ^ j))]
  rw [List.length_replicate] at h
  rw [e, List.append_assoc, h, show 14 - (j + 1) = 13 - j by omega]
  simp [low]
theorem laid_ni (j n : Nat) : D.noIdsL (laid j n) = true := by
  unfold laid
  rw [D.noIdsL_eq, List.all_append, Bool.and_eq_true, List.all_eq_true, List.all_eq_true]
  refine ⟨fun d hd => ?_, fun d hd => ?_⟩
  · rw [(List.mem_replicate.1 hd).2]; rfl
  · obtain ⟨x, _, rfl⟩ := List.mem_map.1 hd; rfl

theorem u64_wrap (n : Int) (h : -9223372036854775808 ≤ n ∧ n ≤ 9223372036854775807) : IntKind.u64.wrap n = if n < 0 then n + 18446744073709551616 else n := by
  simp [IntKind.wrap, IntKind.bits, IntKind.signed]
  split <;> omega
theorem dig_val (m : Nat) : IntKind.u8.wrap (48 + ((m : Int)).tmod 10) = ((dg m).toNat : Int) := by
  have h1 : ((m : Int)).tmod 10 = ((m % 10 : Nat) : Int) := by rw [Int.tmod_eq_emod_of_nonneg (by omega)]; omega
  rw [h1, IntWalk.u8_in _ (by omega), dg_nat]
  omega
theorem quo_nat (m : Nat) : ((m : Int)).tdiv 10 = ((m / 10 : Nat) : Int) := by
  rw [Int.tdiv_eq_ediv_of_nonneg (by omega)]
  omega

theorem name_ok (c : UInt8) (at' : Int) (ho : okInt .i64 at') : PureF Tryd.prog 14 [byteD c, .int .i64 at'] (.str (nameM c at')) := by
  refine pureD (rs := [.tmp 4]) tyOk mixed Tryd.func14 (by decide) rfl rfl (Nat.le_of_ble_eq_true rfl) (by decide) ?_
  simp only [okInt, min_i64, max_i64] at ho
  have hu := u64_wrap at' ho
  obtain ⟨u, hu'⟩ : ∃ u : Int, IntKind.u64.wrap at' = u := ⟨_, rfl⟩
  rw [hu'] at hu
  cases h1 : decide (u > 1099511627776)
  case true =>
    have h1' := of_decide_eq_true h1
    have e : nameM c at' = [] := by
      unfold nameM
      rw [if_neg]
      rintro ⟨h2, h3⟩
      rw [if_neg (by omega)] at hu
      omega
    simp (disch := (first | omega | (simp only [W0]; done) | (simp only [W0]; omega))) only [byteD, hu', h1, e, W1, ↓W2, unbyte, implies_true, ← List.map_take, ← List.map_drop, bne_self_eq_false, eqCells, flatTD, Nat.reducePow, ayield, eq_self, exists_eq_left', exists_eq_left, exists_eq', Int.reduceLE, Int.reduceLT, Nat.reduceLeDiff, Int.reduceToNat, Int.reduceAdd, Int.reduceSub, Int.reduceMul, Int.reduceNeg, Int.reduceEq, argEnv, aeval, get, put, ofVal, ofVals, List.map, cond_true, cond_false, Nat.reduceBEq, nexts, allocs, countAllocs, pad, Nat.reduceAdd, Nat.reduceMul, Nat.reduceSub, Nat.reduceLT, isVoid, aNilCheck, aExtract, constOp, TD.conc, aNilB, isNilD, notD, aCap, aClear, aAppendZ, aInt, aStr, aConv, aSlice, asNat?, cutTight, aIndexAddr, aFieldAddr, aField, aIndex, aLoad, aStore, aAlloc, aBox, aBuild, aBuildSlice, aMakeSlice, aLen, aMax, aMin, aAppend, aCopy, aBuiltin, TD.isSlice, TD.isAgg, TD.known, TD.isSeq, partD, partOb, cellsAt, Blk.cells, if_true, if_false, splice, fillD, dl, byteD, Int.reduceBEq, Int.reduceBNe, beq_self_eq_true, retQ, retK, resD, resL, andR, elemCells, isByte, chunk, reduceCtorEq, okVal, okCell, List.replicate, ne_eq, Nat.reduceEqDiff, headIds_cons, IntWalk.toNatUp]
    exact Sub.refl rfl
  have h1' := of_decide_eq_false h1
  have hr : 0 ≤ at' ∧ at' ≤ 1099511627776 := by split at hu <;> omega
  have e : nameM c at' = c :: low 13 at'.toNat := by unfold nameM; rw [if_pos hr]
  obtain ⟨n, rfl⟩ : ∃ n : Nat, at' = n := ⟨at'.toNat, by omega⟩
  rw [Int.toNat_natCast] at e
  simp (disch := (first | omega | (simp only [W0]; done) | (simp only [W0]; omega))) only [byteD, hu', h1, W1, ↓W2, unbyte, implies_true, ← List.map_take, ← List.map_drop, bne_self_eq_false, eqCells, flatTD, Nat.reducePow, ayield, eq_self, exists_eq_left', exists_eq_left, exists_eq', Int.reduceLE, Int.reduceLT, Nat.reduceLeDiff, Int.reduceToNat, Int.reduceAdd, Int.reduceSub, Int.reduceMul, Int.reduceNeg, Int.reduceEq, argEnv, aeval, get, put, ofVal, ofVals, List.map, cond_true, cond_false, Nat.reduceBEq, nexts, allocs, countAllocs, pad, Nat.reduceAdd, Nat.reduceMul, Nat.reduceSub, Nat.reduceLT, isVoid, aNilCheck, aExtract, constOp, TD.conc, aNilB, isNilD, notD, aCap, aClear, aAppendZ, aInt, aStr, aConv, aSlice, asNat?, cutTight, aIndexAddr, aFieldAddr, aField, aIndex, aLoad, aStore, aAlloc, aBox, aBuild, aBuildSlice, aMakeSlice, aLen, aMax, aMin, aAppend, aCopy, aBuiltin, TD.isSlice, TD.isAgg, TD.known, TD.isSeq, partD, partOb, cellsAt, Blk.cells, if_true, if_false, splice, fillD, dl, byteD, Int.reduceBEq, Int.reduceBNe, beq_self_eq_true, retQ, retK, resD, resL, andR, elemCells, isByte, chunk, reduceCtorEq, okVal, okCell, List.replicate, ne_eq, Nat.reduceEqDiff, headIds_cons, IntWalk.toNatUp]
  refine loopR (fun j : Nat => [(0, .int .u8 c.toNat), (1, .int .i64 ((n / 10 ^ j : Nat) : Int)), (5, .ptr 0 0), (6, .int .i64 (13 - (j : Int)))]) (fun j => [.live (laid j n)]) (fun j => j ≤ 13) (fun j => 13 - j) 0 (Nat.zero_le _) ?_ ?_
  · refine fitsR [0] ?_ ?_ (by simp [liveIds]) rfl
    · simp only [Int.natCast_add, Int.cast_ofNat_Int, fe_nil, fe_data, fe_ref, fe_refc, fe_ptr, fh_nil, fh_dead, fh_live, fh_froz, liveIds, ni_int, ni_bool, ni_str, ni_agg, ni_nil, ni_sl, ni_cp, ni_nilp, ni_fn, ni_nilf, ni_tup, ni_niface, ni_iface, ni_nilL, ni_consL, Bool.and_self, List.length_cons, List.length_nil, get, cond_true, cond_false, Nat.reduceBEq, List.getElem?_cons_zero, List.getElem?_cons_succ, true_and, and_true, eq_self, List.getD_cons_zero, List.getD_cons_succ, Nat.reduceAdd, Nat.reduceLT, Nat.pow_zero, Nat.div_one, Int.natCast_zero, Int.sub_zero]
    · rw [fh_live _ _ _ _ _ _ (laid_ni _ _)]
      exact ⟨rfl, trivial⟩
  intro j hj
  have hll := laid_len j n (by omega)
  obtain ⟨m, hm⟩ : ∃ m, n / 10 ^ j = m := ⟨_, rfl⟩
  have hmn : m / 10 = n / 10 ^ (j + 1) := by rw [← hm, Nat.div_div_eq_div_mul, Nat.pow_succ]
  have hmb : m ≤ 1099511627776 := by rw [← hm]; exact Nat.le_trans (Nat.div_le_self _ _) (by omega)
  cases h2 : decide (13 - (j : Int) > 0)
  · have h2' := of_decide_eq_false h2
    obtain rfl : j = 13 := by omega
    have h20 : decide ((0 : Int) > 0) = false := rfl
    have h13 : laid 13 n = D.int .u8 0 :: (low 13 n).map byteD := rfl
    have hl := low_len 13 n
    simp (disch := (first | omega | (simp only [W0]; done) | (simp only [W0]; omega))) only [h20, h13, hl, List.length_map, byteD, W1, ↓W2, unbyte, implies_true, ← List.map_take, ← List.map_drop, bne_self_eq_false, eqCells, flatTD, Nat.reducePow, ayield, eq_self, exists_eq_left', exists_eq_left, exists_eq', Int.reduceLE, Int.reduceLT, Nat.reduceLeDiff, Int.reduceToNat, Int.reduceAdd, Int.reduceSub, Int.reduceMul, Int.reduceNeg, Int.reduceEq, argEnv, aeval, get, put, ofVal, ofVals, List.map, cond_true, cond_false, Nat.reduceBEq, nexts, allocs, countAllocs, pad, Nat.reduceAdd, Nat.reduceMul, Nat.reduceSub, Nat.reduceLT, isVoid, aNilCheck, aExtract, constOp, TD.conc, aNilB, isNilD, notD, aCap, aClear, aAppendZ, aInt, aStr, aConv, aSlice, asNat?, cutTight, aIndexAddr, aFieldAddr, aField, aIndex, aLoad, aStore, aAlloc, aBox, aBuild, aBuildSlice, aMakeSlice, aLen, aMax, aMin, aAppend, aCopy, aBuiltin, TD.isSlice, TD.isAgg, TD.known, TD.isSeq, partD, partOb, cellsAt, Blk.cells, if_true, if_false, splice, fillD, dl, byteD, Int.reduceBEq, Int.reduceBNe, beq_self_eq_true, retQ, retK, resD, resL, andR, elemCells, isByte, chunk, reduceCtorEq, okVal, okCell, List.replicate, ne_eq, Nat.reduceEqDiff, headIds_cons, IntWalk.toNatUp]
    refine ⟨⟨_, rfl, by rw [List.length_cons, List.length_map, hl]; exact Nat.le_refl _⟩, ?_⟩
    have hb : (D.int .u8 c.toNat :: (low 13 n).map byteD) = (c :: low 13 n).map byteD := rfl
    have hbl : (c :: low 13 n).length = 14 := by rw [List.length_cons, hl]
    rw [hb, e]
    simp (disch := (first | omega | (simp only [W0]; done) | (simp only [W0]; omega))) only [hl, hbl, W1, ↓W2, unbyte, implies_true, ← List.map_take, ← List.map_drop, bne_self_eq_false, eqCells, flatTD, Nat.reducePow, ayield, eq_self, exists_eq_left', exists_eq_left, exists_eq', Int.reduceLE, Int.reduceLT, Nat.reduceLeDiff, Int.reduceToNat, Int.reduceAdd, Int.reduceSub, Int.reduceMul, Int.reduceNeg, Int.reduceEq, argEnv, aeval, get, put, ofVal, ofVals, List.map, cond_true, cond_false, Nat.reduceBEq, nexts, allocs, countAllocs, pad, Nat.reduceAdd, Nat.reduceMul, Nat.reduceSub, Nat.reduceLT, isVoid, aNilCheck, aExtract, constOp, TD.conc, aNilB, isNilD, notD, aCap, aClear, aAppendZ, aInt, aStr, aConv, aSlice, asNat?, cutTight, aIndexAddr, aFieldAddr, aField, aIndex, aLoad, aStore, aAlloc, aBox, aBuild, aBuildSlice, aMakeSlice, aLen, aMax, aMin, aAppend, aCopy, aBuiltin, TD.isSlice, TD.isAgg, TD.known, TD.isSeq, partD, partOb, cellsAt, Blk.cells, if_true, if_false, splice, fillD, dl, byteD, Int.reduceBEq, Int.reduceBNe, beq_self_eq_true, retQ, retK, resD, resL, andR, elemCells, isByte, chunk, reduceCtorEq, okVal, okCell, List.replicate, ne_eq, Nat.reduceEqDiff, headIds_cons, IntWalk.toNatUp]
    exact Sub.str (by simp)
  have h2' := of_decide_eq_true h2
  obtain ⟨k, hk⟩ : ∃ k : Nat, 13 - j = k := ⟨_, rfl⟩
  have ek : (13 : Int) - (j : Int) = (k : Int) := by omega
  have hput := laid_put j n (by omega)
  rw [hk, hm] at hput
  simp only [splice, List.length_cons, List.length_nil, Nat.zero_add, byteD] at hput
  have hdv : (48 : Int) + (m : Int) % 10 = ((dg m).toNat : Int) := by rw [dg_nat]; omega
  have hqv := quo_nat m
  have h2k : decide ((k : Int) > 0) = true := decide_eq_true (by omega)
  simp (disch := (first | omega | (simp only [W0]; done) | (simp only [W0]; omega))) only [h2k, hll, hm, ek, hdv, hqv, Nat.zero_add, Nat.mul_one, hput, W1, ↓W2, unbyte, implies_true, ← List.map_take, ← List.map_drop, bne_self_eq_false, eqCells, flatTD, Nat.reducePow, ayield, eq_self, exists_eq_left', exists_eq_left, exists_eq', Int.reduceLE, Int.reduceLT, Nat.reduceLeDiff, Int.reduceToNat, Int.reduceAdd, Int.reduceSub, Int.reduceMul, Int.reduceNeg, Int.reduceEq, argEnv, aeval, get, put, ofVal, ofVals, List.map, cond_true, cond_false, Nat.reduceBEq, nexts, allocs, countAllocs, pad, Nat.reduceAdd, Nat.reduceMul, Nat.reduceSub, Nat.reduceLT, isVoid, aNilCheck, aExtract, constOp, TD.conc, aNilB, isNilD, notD, aCap, aClear, aAppendZ, aInt, aStr, aConv, aSlice, asNat?, cutTight, aIndexAddr, aFieldAddr, aField, aIndex, aLoad, aStore, aAlloc, aBox, aBuild, aBuildSlice, aMakeSlice, aLen, aMax, aMin, aAppend, aCopy, aBuiltin, TD.isSlice, TD.isAgg, TD.known, TD.isSeq, partD, partOb, cellsAt, Blk.cells, if_true, if_false, splice, fillD, dl, byteD, Int.reduceBEq, Int.reduceBNe, beq_self_eq_true, retQ, retK, resD, resL, andR, elemCells, isByte, chunk, reduceCtorEq, okVal, okCell, List.replicate, ne_eq, Nat.reduceEqDiff, headIds_cons, IntWalk.toNatUp]
  refine ⟨j + 1, by omega, by omega, fitsR [0] ?_ ?_ (by simp [liveIds]) rfl⟩
  · have ek2 : (13 : Int) - ((j : Int) + 1) = (k : Int) - 1 := by omega
    simp only [Int.natCast_add, Int.cast_ofNat_Int, fe_nil, fe_data, fe_ref, fe_refc, fe_ptr, fh_nil, fh_dead, fh_live, fh_froz, liveIds, ni_int, ni_bool, ni_str, ni_agg, ni_nil, ni_sl, ni_cp, ni_nilp, ni_fn, ni_nilf, ni_tup, ni_niface, ni_iface, ni_nilL, ni_consL, Bool.and_self, List.length_cons, List.length_nil, get, cond_true, cond_false, Nat.reduceBEq, List.getElem?_cons_zero, List.getElem?_cons_succ, true_and, and_true, eq_self, List.getD_cons_zero, List.getD_cons_succ, Nat.reduceAdd, Nat.reduceLT, ← hmn, ek2]
  · rw [fh_live _ _ _ _ _ _ (laid_ni _ _)]
    exact ⟨rfl, trivial⟩

theorem seg_ok (at' : Int) (ho : okInt .i64 at') : PureF Tryd.prog 9 [.int .i64 at'] (.str (nameM 115 at')) := by
  refine pureD (rs := [.tmp 2]) tyOk mixed Tryd.func9 (by decide) rfl rfl (Nat.le_of_ble_eq_true rfl) (by decide) ?_
  have h : PureF Tryd.prog 14 [.int .u8 115, .int .i64 at'] (.str (nameM 115 at')) := name_ok 115 at' ho
  simp (disch := (first | omega | (simp only [W0]; done) | (simp only [W0]; omega))) only [W1, ↓W2, unbyte, implies_true, ← List.map_take, ← List.map_drop, bne_self_eq_false, eqCells, flatTD, Nat.reducePow, ayield, eq_self, exists_eq_left', exists_eq_left, exists_eq', Int.reduceLE, Int.reduceLT, Nat.reduceLeDiff, Int.reduceToNat, Int.reduceAdd, Int.reduceSub, Int.reduceMul, Int.reduceNeg, Int.reduceEq, argEnv, aeval, get, put, ofVal, ofVals, List.map, cond_true, cond_false, Nat.reduceBEq, nexts, allocs, countAllocs, pad, Nat.reduceAdd, Nat.reduceMul, Nat.reduceSub, Nat.reduceLT, isVoid, aNilCheck, aExtract, constOp, TD.conc, aNilB, isNilD, notD, aCap, aClear, aAppendZ, aInt, aStr, aConv, aSlice, asNat?, cutTight, aIndexAddr, aFieldAddr, aField, aIndex, aLoad, aStore, aAlloc, aBox, aBuild, aBuildSlice, aMakeSlice, aLen, aMax, aMin, aAppend, aCopy, aBuiltin, TD.isSlice, TD.isAgg, TD.known, TD.isSeq, partD, partOb, cellsAt, Blk.cells, if_true, if_false, splice, fillD, dl, byteD, Int.reduceBEq, Int.reduceBNe, beq_self_eq_true, retQ, retK, resD, resL, andR, elemCells, isByte, chunk, reduceCtorEq, okVal, okCell, List.replicate, ne_eq, Nat.reduceEqDiff, headIds_cons, IntWalk.toNatUp]
  refine callP h rfl ?_
  simp (disch := (first | omega | (simp only [W0]; done) | (simp only [W0]; omega))) only [W1, ↓W2, unbyte, implies_true, ← List.map_take, ← List.map_drop, bne_self_eq_false, eqCells, flatTD, Nat.reducePow, ayield, eq_self, exists_eq_left', exists_eq_left, exists_eq', Int.reduceLE, Int.reduceLT, Nat.reduceLeDiff, Int.reduceToNat, Int.reduceAdd, Int.reduceSub, Int.reduceMul, Int.reduceNeg, Int.reduceEq, argEnv, aeval, get, put, ofVal, ofVals, List.map, cond_true, cond_false, Nat.reduceBEq, nexts, allocs, countAllocs, pad, Nat.reduceAdd, Nat.reduceMul, Nat.reduceSub, Nat.reduceLT, isVoid, aNilCheck, aExtract, constOp, TD.conc, aNilB, isNilD, notD, aCap, aClear, aAppendZ, aInt, aStr, aConv, aSlice, asNat?, cutTight, aIndexAddr, aFieldAddr, aField, aIndex, aLoad, aStore, aAlloc, aBox, aBuild, aBuildSlice, aMakeSlice, aLen, aMax, aMin, aAppend, aCopy, aBuiltin, TD.isSlice, TD.isAgg, TD.known, TD.isSeq, partD, partOb, cellsAt, Blk.cells, if_true, if_false, splice, fillD, dl, byteD, Int.reduceBEq, Int.reduceBNe, beq_self_eq_true, retQ, retK, resD, resL, andR, elemCells, isByte, chunk, reduceCtorEq, okVal, okCell, List.replicate, ne_eq, Nat.reduceEqDiff, headIds_cons, IntWalk.toNatUp]
  exact Sub.refl rfl
theorem snap_ok (at' : Int) (ho : okInt .i64 at') : PureF Tryd.prog 11 [.int .i64 at'] (.str (nameM 116 at')) := by
  refine pureD (rs := [.tmp 2]) tyOk mixed Tryd.func11 (by decide) rfl rfl (Nat.le_of_ble_eq_true rfl) (by decide) ?_
  have h : PureF Tryd.prog 14 [.int .u8 116, .int .i64 at'] (.str (nameM 116 at')) := name_ok 116 at' ho
  simp (disch := (first | omega | (simp only [W0]; done) | (simp only [W0]; omega))) only [W1, ↓W2, unbyte, implies_true, ← List.map_take, ← List.map_drop, bne_self_eq_false, eqCells, flatTD, Nat.reducePow, ayield, eq_self, exists_eq_left', exists_eq_left, exists_eq', Int.reduceLE, Int.reduceLT, Nat.reduceLeDiff, Int.reduceToNat, Int.reduceAdd, Int.reduceSub, Int.reduceMul, Int.reduceNeg, Int.reduceEq, argEnv, aeval, get, put, ofVal, ofVals, List.map, cond_true, cond_false, Nat.reduceBEq, nexts, allocs, countAllocs, pad, Nat.reduceAdd, Nat.reduceMul, Nat.reduceSub, Nat.reduceLT, isVoid, aNilCheck, aExtract, constOp, TD.conc, aNilB, isNilD, notD, aCap, aClear, aAppendZ, aInt, aStr, aConv, aSlice, asNat?, cutTight, aIndexAddr, aFieldAddr, aField, aIndex, aLoad, aStore, aAlloc, aBox, aBuild, aBuildSlice, aMakeSlice, aLen, aMax, aMin, aAppend, aCopy, aBuiltin, TD.isSlice, TD.isAgg, TD.known, TD.isSeq, partD, partOb, cellsAt, Blk.cells, if_true, if_false, splice, fillD, dl, byteD, Int.reduceBEq, Int.reduceBNe, beq_self_eq_true, retQ, retK, resD, resL, andR, elemCells, isByte, chunk, reduceCtorEq, okVal, okCell, List.replicate, ne_eq, Nat.reduceEqDiff, headIds_cons, IntWalk.toNatUp]
  refine callP h rfl ?_
  simp (disch := (first | omega | (simp only [W0]; done) | (simp only [W0]; omega))) only [W1, ↓W2, unbyte, implies_true, ← List.map_take, ← List.map_drop, bne_self_eq_false, eqCells, flatTD, Nat.reducePow, ayield, eq_self, exists_eq_left', exists_eq_left, exists_eq', Int.reduceLE, Int.reduceLT, Nat.reduceLeDiff, Int.reduceToNat, Int.reduceAdd, Int.reduceSub, Int.reduceMul, Int.reduceNeg, Int.reduceEq, argEnv, aeval, get, put, ofVal, ofVals, List.map, cond_true, cond_false, Nat.reduceBEq, nexts, allocs, countAllocs, pad, Nat.reduceAdd, Nat.reduceMul, Nat.reduceSub, Nat.reduceLT, isVoid, aNilCheck, aExtract, constOp, TD.conc, aNilB, isNilD, notD, aCap, aClear, aAppendZ, aInt, aStr, aConv, aSlice, asNat?, cutTight, aIndexAddr, aFieldAddr, aField, aIndex, aLoad, aStore, aAlloc, aBox, aBuild, aBuildSlice, aMakeSlice, aLen, aMax, aMin, aAppend, aCopy, aBuiltin, TD.isSlice, TD.isAgg, TD.known, TD.isSeq, partD, partOb, cellsAt, Blk.cells, if_true, if_false, splice, fillD, dl, byteD, Int.reduceBEq, Int.reduceBNe, beq_self_eq_true, retQ, retK, resD, resL, andR, elemCells, isByte, chunk, reduceCtorEq, okVal, okCell, List.replicate, ne_eq, Nat.reduceEqDiff, headIds_cons, IntWalk.toNatUp]
  exact Sub.refl rfl

theorem digits_ok (n : Nat) (hn : n ≤ 1099511627776) : PureF Tryd.prog 15 [.int .i64 n] (.str (low 13 n)) := by
  refine pureD (rs := [.tmp 2]) tyOk mixed Tryd.func15 (by decide) rfl rfl (Nat.le_of_ble_eq_true rfl) (by decide) ?_
  simp (disch := (first | omega | (simp only [W0]; done) | (simp only [W0]; omega))) only [W1, ↓W2, unbyte, implies_true, ← List.map_take, ← List.map_drop, bne_self_eq_false, eqCells, flatTD, Nat.reducePow, ayield, eq_self, exists_eq_left', exists_eq_left, exists_eq', Int.reduceLE, Int.reduceLT, Nat.reduceLeDiff, Int.reduceToNat, Int.reduceAdd, Int.reduceSub, Int.reduceMul, Int.reduceNeg, Int.reduceEq, argEnv, aeval, get, put, ofVal, ofVals, List.map, cond_true, cond_false, Nat.reduceBEq, nexts, allocs, countAllocs, pad, Nat.reduceAdd, Nat.reduceMul, Nat.reduceSub, Nat.reduceLT, isVoid, aNilCheck, aExtract, constOp, TD.conc, aNilB, isNilD, notD, aCap, aClear, aAppendZ, aInt, aStr, aConv, aSlice, asNat?, cutTight, aIndexAddr, aFieldAddr, aField, aIndex, aLoad, aStore, aAlloc, aBox, aBuild, aBuildSlice, aMakeSlice, aLen, aMax, aMin, aAppend, aCopy, aBuiltin, TD.isSlice, TD.isAgg, TD.known, TD.isSeq, partD, partOb, cellsAt, Blk.cells, if_true, if_false, splice, fillD, dl, byteD, Int.reduceBEq, Int.reduceBNe, beq_self_eq_true, retQ, retK, resD, resL, andR, elemCells, isByte, chunk, reduceCtorEq, okVal, okCell, List.replicate, ne_eq, Nat.reduceEqDiff, headIds_cons, IntWalk.toNatUp]
  refine loopR (fun j : Nat => [(0, .int .i64 ((n / 10 ^ j : Nat) : Int)), (3, .str (low j n)), (4, .int .i64 j)]) (fun _ => []) (fun j => j ≤ 13) (fun j => 13 - j) 0 (Nat.zero_le _) ?_ ?_
  · refine fitsR [] ?_ ?_ (by simp [liveIds]) rfl
    · simp only [Int.natCast_add, Int.cast_ofNat_Int, fe_nil, fe_data, fe_ref, fe_refc, fe_ptr, fh_nil, fh_dead, fh_live, fh_froz, liveIds, ni_int, ni_bool, ni_str, ni_agg, ni_nil, ni_sl, ni_cp, ni_nilp, ni_fn, ni_nilf, ni_tup, ni_niface, ni_iface, ni_nilL, ni_consL, Bool.and_self, List.length_cons, List.length_nil, get, cond_true, cond_false, Nat.reduceBEq, List.getElem?_cons_zero, List.getElem?_cons_succ, true_and, and_true, eq_self, List.getD_cons_zero, List.getD_cons_succ, Nat.reduceAdd, Nat.reduceLT, Nat.pow_zero, Nat.div_one, Int.natCast_zero, low]
    · simp only [Int.natCast_add, Int.cast_ofNat_Int, fe_nil, fe_data, fe_ref, fe_refc, fe_ptr, fh_nil, fh_dead, fh_live, fh_froz, liveIds, ni_int, ni_bool, ni_str, ni_agg, ni_nil, ni_sl, ni_cp, ni_nilp, ni_fn, ni_nilf, ni_tup, ni_niface, ni_iface, ni_nilL, ni_consL, Bool.and_self, List.length_cons, List.length_nil, get, cond_true, cond_false, Nat.reduceBEq, List.getElem?_cons_zero, List.getElem?_cons_succ, true_and, and_true, eq_self, List.getD_cons_zero, List.getD_cons_succ, Nat.reduceAdd, Nat.reduceLT]
  intro j hj
  obtain ⟨m, hm⟩ : ∃ m, n / 10 ^ j = m := ⟨_, rfl⟩
  have hmn : m / 10 = n / 10 ^ (j + 1) := by rw [← hm, Nat.div_div_eq_div_mul, Nat.pow_succ]
  have hmb : m ≤ 1099511627776 := by rw [← hm]; exact Nat.le_trans (Nat.div_le_self _ _) (by omega)
  have hll := low_len j n
  cases h2 : decide ((j : Int) < 13)
  · have h2' := of_decide_eq_false h2
    obtain rfl : j = 13 := by omega
    have h20 : decide ((13 : Int) < 13) = false := rfl
    simp (disch := (first | omega | (simp only [W0]; done) | (simp only [W0]; omega))) only [h2, h20, W1, ↓W2, unbyte, implies_true, ← List.map_take, ← List.map_drop, bne_self_eq_false, eqCells, flatTD, Nat.reducePow, ayield, eq_self, exists_eq_left', exists_eq_left, exists_eq', Int.reduceLE, Int.reduceLT, Nat.reduceLeDiff, Int.reduceToNat, Int.reduceAdd, Int.reduceSub, Int.reduceMul, Int.reduceNeg, Int.reduceEq, argEnv, aeval, get, put, ofVal, ofVals, List.map, cond_true, cond_false, Nat.reduceBEq, nexts, allocs, countAllocs, pad, Nat.reduceAdd, Nat.reduceMul, Nat.reduceSub, Nat.reduceLT, isVoid, aNilCheck, aExtract, constOp, TD.conc, aNilB, isNilD, notD, aCap, aClear, aAppendZ, aInt, aStr, aConv, aSlice, asNat?, cutTight, aIndexAddr, aFieldAddr, aField, aIndex, aLoad, aStore, aAlloc, aBox, aBuild, aBuildSlice, aMakeSlice, aLen, aMax, aMin, aAppend, aCopy, aBuiltin, TD.isSlice, TD.isAgg, TD.known, TD.isSeq, partD, partOb, cellsAt, Blk.cells, if_true, if_false, splice, fillD, dl, byteD, Int.reduceBEq, Int.reduceBNe, beq_self_eq_true, retQ, retK, resD, resL, andR, elemCells, isByte, chunk, reduceCtorEq, okVal, okCell, List.replicate, ne_eq, Nat.reduceEqDiff, headIds_cons, IntWalk.toNatUp]
    exact Sub.refl rfl
  have h2' := of_decide_eq_true h2
  have hdv : (48 : Int) + (m : Int) % 10 = ((dg m).toNat : Int) := by rw [dg_nat]; omega
  have hlow : low (j + 1) n = dg m :: low j n := by rw [low, hm]
  have hof : UInt8.ofNat (dg m).toNat = dg m := by simp
  have hqv : (m : Int) / 10 = ((n / 10 ^ (j + 1) : Nat) : Int) := by rw [← hmn]; omega
  simp (disch := (first | omega | (simp only [W0]; done) | (simp only [W0]; omega))) only [h2, hm, hdv, hll, hof, hqv, W1, ↓W2, unbyte, implies_true, ← List.map_take, ← List.map_drop, bne_self_eq_false, eqCells, flatTD, Nat.reducePow, ayield, eq_self, exists_eq_left', exists_eq_left, exists_eq', Int.reduceLE, Int.reduceLT, Nat.reduceLeDiff, Int.reduceToNat, Int.reduceAdd, Int.reduceSub, Int.reduceMul, Int.reduceNeg, Int.reduceEq, argEnv, aeval, get, put, ofVal, ofVals, List.map, cond_true, cond_false, Nat.reduceBEq, nexts, allocs, countAllocs, pad, Nat.reduceAdd, Nat.reduceMul, Nat.reduceSub, Nat.reduceLT, isVoid, aNilCheck, aExtract, constOp, TD.conc, aNilB, isNilD, notD, aCap, aClear, aAppendZ, aInt, aStr, aConv, aSlice, asNat?, cutTight, aIndexAddr, aFieldAddr, aField, aIndex, aLoad, aStore, aAlloc, aBox, aBuild, aBuildSlice, aMakeSlice, aLen, aMax, aMin, aAppend, aCopy, aBuiltin, TD.isSlice, TD.isAgg, TD.known, TD.isSeq, partD, partOb, cellsAt, Blk.cells, if_true, if_false, splice, fillD, dl, byteD, Int.reduceBEq, Int.reduceBNe, beq_self_eq_true, retQ, retK, resD, resL, andR, elemCells, isByte, chunk, reduceCtorEq, okVal, okCell, List.replicate, ne_eq, Nat.reduceEqDiff, headIds_cons, IntWalk.toNatUp]
  refine ⟨j + 1, by omega, by omega, fitsR [] ?_ ?_ (by simp [liveIds]) rfl⟩
  · simp only [Int.natCast_add, Int.cast_ofNat_Int, fe_nil, fe_data, fe_ref, fe_refc, fe_ptr, fh_nil, fh_dead, fh_live, fh_froz, liveIds, ni_int, ni_bool, ni_str, ni_agg, ni_nil, ni_sl, ni_cp, ni_nilp, ni_fn, ni_nilf, ni_tup, ni_niface, ni_iface, ni_nilL, ni_consL, Bool.and_self, List.length_cons, List.length_nil, get, cond_true, cond_false, Nat.reduceBEq, List.getElem?_cons_zero, List.getElem?_cons_succ, true_and, and_true, eq_self, List.getD_cons_zero, List.getD_cons_succ, Nat.reduceAdd, Nat.reduceLT, hlow]
  · simp only [Int.natCast_add, Int.cast_ofNat_Int, fe_nil, fe_data, fe_ref, fe_refc, fe_ptr, fh_nil, fh_dead, fh_live, fh_froz, liveIds, ni_int, ni_bool, ni_str, ni_agg, ni_nil, ni_sl, ni_cp, ni_nilp, ni_fn, ni_nilf, ni_tup, ni_niface, ni_iface, ni_nilL, ni_consL, Bool.and_self, List.length_cons, List.length_nil, get, cond_true, cond_false, Nat.reduceBEq, List.getElem?_cons_zero, List.getElem?_cons_succ, true_and, and_true, eq_self, List.getD_cons_zero, List.getD_cons_succ, Nat.reduceAdd, Nat.reduceLT]

theorem segRef_ok (at' : Int) (ho : okInt .i64 at') : PureF Tryd.prog 10 [.int .i64 at'] (.str (nameM 115 at')) := by
  refine pureD (rs := [.tmp 2]) tyOk mixed Tryd.func10 (by decide) rfl rfl (Nat.le_of_ble_eq_true rfl) (by decide) ?_
  simp only [okInt, min_i64, max_i64] at ho
  cases h1 : decide (at' < 0)
  case true =>
    have e : nameM 115 at' = [] := by unfold nameM; rw [if_neg (by have := of_decide_eq_true h1; omega)]
    simp (disch := (first | omega | (simp only [W0]; done) | (simp only [W0]; omega))) only [h1, e, W1, ↓W2, unbyte, implies_true, ← List.map_take, ← List.map_drop, bne_self_eq_false, eqCells, flatTD, Nat.reducePow, ayield, eq_self, exists_eq_left', exists_eq_left, exists_eq', Int.reduceLE, Int.reduceLT, Nat.reduceLeDiff, Int.reduceToNat, Int.reduceAdd, Int.reduceSub, Int.reduceMul, Int.reduceNeg, Int.reduceEq, argEnv, aeval, get, put, ofVal, ofVals, List.map, cond_true, cond_false, Nat.reduceBEq, nexts, allocs, countAllocs, pad, Nat.reduceAdd, Nat.reduceMul, Nat.reduceSub, Nat.reduceLT, isVoid, aNilCheck, aExtract, constOp, TD.conc, aNilB, isNilD, notD, aCap, aClear, aAppendZ, aInt, aStr, aConv, aSlice, asNat?, cutTight, aIndexAddr, aFieldAddr, aField, aIndex, aLoad, aStore, aAlloc, aBox, aBuild, aBuildSlice, aMakeSlice, aLen, aMax, aMin, aAppend, aCopy, aBuiltin, TD.isSlice, TD.isAgg, TD.known, TD.isSeq, partD, partOb, cellsAt, Blk.cells, if_true, if_false, splice, fillD, dl, byteD, Int.reduceBEq, Int.reduceBNe, beq_self_eq_true, retQ, retK, resD, resL, andR, elemCells, isByte, chunk, reduceCtorEq, okVal, okCell, List.replicate, ne_eq, Nat.reduceEqDiff, headIds_cons, IntWalk.toNatUp]
    exact Sub.refl rfl
  cases h2 : decide (at' > 1099511627776)
  case true =>
    have e : nameM 115 at' = [] := by unfold nameM; rw [if_neg (by have := of_decide_eq_true h2; omega)]
    simp (disch := (first | omega | (simp only [W0]; done) | (simp only [W0]; omega))) only [h1, h2, e, W1, ↓W2, unbyte, implies_true, ← List.map_take, ← List.map_drop, bne_self_eq_false, eqCells, flatTD, Nat.reducePow, ayield, eq_self, exists_eq_left', exists_eq_left, exists_eq', Int.reduceLE, Int.reduceLT, Nat.reduceLeDiff, Int.reduceToNat, Int.reduceAdd, Int.reduceSub, Int.reduceMul, Int.reduceNeg, Int.reduceEq, argEnv, aeval, get, put, ofVal, ofVals, List.map, cond_true, cond_false, Nat.reduceBEq, nexts, allocs, countAllocs, pad, Nat.reduceAdd, Nat.reduceMul, Nat.reduceSub, Nat.reduceLT, isVoid, aNilCheck, aExtract, constOp, TD.conc, aNilB, isNilD, notD, aCap, aClear, aAppendZ, aInt, aStr, aConv, aSlice, asNat?, cutTight, aIndexAddr, aFieldAddr, aField, aIndex, aLoad, aStore, aAlloc, aBox, aBuild, aBuildSlice, aMakeSlice, aLen, aMax, aMin, aAppend, aCopy, aBuiltin, TD.isSlice, TD.isAgg, TD.known, TD.isSeq, partD, partOb, cellsAt, Blk.cells, if_true, if_false, splice, fillD, dl, byteD, Int.reduceBEq, Int.reduceBNe, beq_self_eq_true, retQ, retK, resD, resL, andR, elemCells, isByte, chunk, reduceCtorEq, okVal, okCell, List.replicate, ne_eq, Nat.reduceEqDiff, headIds_cons, IntWalk.toNatUp]
    exact Sub.refl rfl
  have h1' := of_decide_eq_false h1
  have h2' := of_decide_eq_false h2
  obtain ⟨n, rfl⟩ : ∃ n : Nat, at' = n := ⟨at'.toNat, by omega⟩
  have e : nameM 115 (n : Int) = 115 :: low 13 n := by unfold nameM; rw [if_pos (by omega), Int.toNat_natCast]
  have hl := low_len 13 n
  simp (disch := (first | omega | (simp only [W0]; done) | (simp only [W0]; omega))) only [h1, h2, e, W1, ↓W2, unbyte, implies_true, ← List.map_take, ← List.map_drop, bne_self_eq_false, eqCells, flatTD, Nat.reducePow, ayield, eq_self, exists_eq_left', exists_eq_left, exists_eq', Int.reduceLE, Int.reduceLT, Nat.reduceLeDiff, Int.reduceToNat, Int.reduceAdd, Int.reduceSub, Int.reduceMul, Int.reduceNeg, Int.reduceEq, argEnv, aeval, get, put, ofVal, ofVals, List.map, cond_true, cond_false, Nat.reduceBEq, nexts, allocs, countAllocs, pad, Nat.reduceAdd, Nat.reduceMul, Nat.reduceSub, Nat.reduceLT, isVoid, aNilCheck, aExtract, constOp, TD.conc, aNilB, isNilD, notD, aCap, aClear, aAppendZ, aInt, aStr, aConv, aSlice, asNat?, cutTight, aIndexAddr, aFieldAddr, aField, aIndex, aLoad, aStore, aAlloc, aBox, aBuild, aBuildSlice, aMakeSlice, aLen, aMax, aMin, aAppend, aCopy, aBuiltin, TD.isSlice, TD.isAgg, TD.known, TD.isSeq, partD, partOb, cellsAt, Blk.cells, if_true, if_false, splice, fillD, dl, byteD, Int.reduceBEq, Int.reduceBNe, beq_self_eq_true, retQ, retK, resD, resL, andR, elemCells, isByte, chunk, reduceCtorEq, okVal, okCell, List.replicate, ne_eq, Nat.reduceEqDiff, headIds_cons, IntWalk.toNatUp]
  refine callP (digits_ok n (by omega)) rfl ?_
  simp (disch := (first | omega | (simp only [W0]; done) | (simp only [W0]; omega))) only [hl, W1, ↓W2, unbyte, implies_true, ← List.map_take, ← List.map_drop, bne_self_eq_false, eqCells, flatTD, Nat.reducePow, ayield, eq_self, exists_eq_left', exists_eq_left, exists_eq', Int.reduceLE, Int.reduceLT, Nat.reduceLeDiff, Int.reduceToNat, Int.reduceAdd, Int.reduceSub, Int.reduceMul, Int.reduceNeg, Int.reduceEq, argEnv, aeval, get, put, ofVal, ofVals, List.map, cond_true, cond_false, Nat.reduceBEq, nexts, allocs, countAllocs, pad, Nat.reduceAdd, Nat.reduceMul, Nat.reduceSub, Nat.reduceLT, isVoid, aNilCheck, aExtract, constOp, TD.conc, aNilB, isNilD, notD, aCap, aClear, aAppendZ, aInt, aStr, aConv, aSlice, asNat?, cutTight, aIndexAddr, aFieldAddr, aField, aIndex, aLoad, aStore, aAlloc, aBox, aBuild, aBuildSlice, aMakeSlice, aLen, aMax, aMin, aAppend, aCopy, aBuiltin, TD.isSlice, TD.isAgg, TD.known, TD.isSeq, partD, partOb, cellsAt, Blk.cells, if_true, if_false, splice, fillD, dl, byteD, Int.reduceBEq, Int.reduceBNe, beq_self_eq_true, retQ, retK, resD, resL, andR, elemCells, isByte, chunk, reduceCtorEq, okVal, okCell, List.replicate, ne_eq, Nat.reduceEqDiff, headIds_cons, IntWalk.toNatUp]
  exact Sub.refl rfl
theorem snapRef_ok (at' : Int) (ho : okInt .i64 at') : PureF Tryd.prog 12 [.int .i64 at'] (.str (nameM 116 at')) := by
  refine pureD (rs := [.tmp 2]) tyOk mixed Tryd.func12 (by decide) rfl rfl (Nat.le_of_ble_eq_true rfl) (by decide) ?_
  simp only [okInt, min_i64, max_i64] at ho
  cases h1 : decide (at' < 0)
  case true =>
    have e : nameM 116 at' = [] := by unfold nameM; rw [if_neg (by have := of_decide_eq_true h1; omega)]
    simp (disch := (first | omega | (simp only [W0]; done) | (simp only [W0]; omega))) only [h1, e, W1, ↓W2, unbyte, implies_true, ← List.map_take, ← List.map_drop, bne_self_eq_false, eqCells, flatTD, Nat.reducePow, ayield, eq_self, exists_eq_left', exists_eq_left, exists_eq', Int.reduceLE, Int.reduceLT, Nat.reduceLeDiff, Int.reduceToNat, Int.reduceAdd, Int.reduceSub, Int.reduceMul, Int.reduceNeg, Int.reduceEq, argEnv, aeval, get, put, ofVal, ofVals, List.map, cond_true, cond_false, Nat.reduceBEq, nexts, allocs, countAllocs, pad, Nat.reduceAdd, Nat.reduceMul, Nat.reduceSub, Nat.reduceLT, isVoid, aNilCheck, aExtract, constOp, TD.conc, aNilB, isNilD, notD, aCap, aClear, aAppendZ, aInt, aStr, aConv, aSlice, asNat?, cutTight, aIndexAddr, aFieldAddr, aField, aIndex, aLoad, aStore, aAlloc, aBox, aBuild, aBuildSlice, aMakeSlice, aLen, aMax, aMin, aAppend, aCopy, aBuiltin, TD.isSlice, TD.isAgg, TD.known, TD.isSeq, partD, partOb, cellsAt, Blk.cells, if_true, if_false, splice, fillD, dl, byteD, Int.reduceBEq, Int.reduceBNe, beq_self_eq_true, retQ, retK, resD, resL, andR, elemCells, isByte, chunk, reduceCtorEq, okVal, okCell, List.replicate, ne_eq, Nat.reduceEqDiff, headIds_cons, IntWalk.toNatUp]
    exact Sub.refl rfl
  cases h2 : decide (at' > 1099511627776)
  case true =>
    have e : nameM 116 at' = [] := by unfold nameM; rw [if_neg (by have := of_decide_eq_true h2; omega)]
    simp (disch := (first | omega | (simp only [W0]; done) | (simp only [W0]; omega))) only [h1, h2, e, W1, ↓W2, unbyte, implies_true, ← List.map_take, ← List.map_drop, bne_self_eq_false, eqCells, flatTD, Nat.reducePow, ayield, eq_self, exists_eq_left', exists_eq_left, exists_eq', Int.reduceLE, Int.reduceLT, Nat.reduceLeDiff, Int.reduceToNat, Int.reduceAdd, Int.reduceSub, Int.reduceMul, Int.reduceNeg, Int.reduceEq, argEnv, aeval, get, put, ofVal, ofVals, List.map, cond_true, cond_false, Nat.reduceBEq, nexts, allocs, countAllocs, pad, Nat.reduceAdd, Nat.reduceMul, Nat.reduceSub, Nat.reduceLT, isVoid, aNilCheck, aExtract, constOp, TD.conc, aNilB, isNilD, notD, aCap, aClear, aAppendZ, aInt, aStr, aConv, aSlice, asNat?, cutTight, aIndexAddr, aFieldAddr, aField, aIndex, aLoad, aStore, aAlloc, aBox, aBuild, aBuildSlice, aMakeSlice, aLen, aMax, aMin, aAppend, aCopy, aBuiltin, TD.isSlice, TD.isAgg, TD.known, TD.isSeq, partD, partOb, cellsAt, Blk.cells, if_true, if_false, splice, fillD, dl, byteD, Int.reduceBEq, Int.reduceBNe, beq_self_eq_true, retQ, retK, resD, resL, andR, elemCells, isByte, chunk, reduceCtorEq, okVal, okCell, List.replicate, ne_eq, Nat.reduceEqDiff, headIds_cons, IntWalk.toNatUp]
    exact Sub.refl rfl
  have h1' := of_decide_eq_false h1
  have h2' := of_decide_eq_false h2
  obtain ⟨n, rfl⟩ : ∃ n : Nat, at' = n := ⟨at'.toNat, by omega⟩
  have e : nameM 116 (n : Int) = 116 :: low 13 n := by unfold nameM; rw [if_pos (by omega), Int.toNat_natCast]
  have hl := low_len 13 n
  simp (disch := (first | omega | (simp only [W0]; done) | (simp only [W0]; omega))) only [h1, h2, e, W1, ↓W2, unbyte, implies_true, ← List.map_take, ← List.map_drop, bne_self_eq_false, eqCells, flatTD, Nat.reducePow, ayield, eq_self, exists_eq_left', exists_eq_left, exists_eq', Int.reduceLE, Int.reduceLT, Nat.reduceLeDiff, Int.reduceToNat, Int.reduceAdd, Int.reduceSub, Int.reduceMul, Int.reduceNeg, Int.reduceEq, argEnv, aeval, get, put, ofVal, ofVals, List.map, cond_true, cond_false, Nat.reduceBEq, nexts, allocs, countAllocs, pad, Nat.reduceAdd, Nat.reduceMul, Nat.reduceSub, Nat.reduceLT, isVoid, aNilCheck, aExtract, constOp, TD.conc, aNilB, isNilD, notD, aCap, aClear, aAppendZ, aInt, aStr, aConv, aSlice, asNat?, cutTight, aIndexAddr, aFieldAddr, aField, aIndex, aLoad, aStore, aAlloc, aBox, aBuild, aBuildSlice, aMakeSlice, aLen, aMax, aMin, aAppend, aCopy, aBuiltin, TD.isSlice, TD.isAgg, TD.known, TD.isSeq, partD, partOb, cellsAt, Blk.cells, if_true, if_false, splice, fillD, dl, byteD, Int.reduceBEq, Int.reduceBNe, beq_self_eq_true, retQ, retK, resD, resL, andR, elemCells, isByte, chunk, reduceCtorEq, okVal, okCell, List.replicate, ne_eq, Nat.reduceEqDiff, headIds_cons, IntWalk.toNatUp]
  refine callP (digits_ok n (by omega)) rfl ?_
  simp (disch := (first | omega | (simp only [W0]; done) | (simp only [W0]; omega))) only [hl, W1, ↓W2, unbyte, implies_true, ← List.map_take, ← List.map_drop, bne_self_eq_false, eqCells, flatTD, Nat.reducePow, ayield, eq_self, exists_eq_left', exists_eq_left, exists_eq', Int.reduceLE, Int.reduceLT, Nat.reduceLeDiff, Int.reduceToNat, Int.reduceAdd, Int.reduceSub, Int.reduceMul, Int.reduceNeg, Int.reduceEq, argEnv, aeval, get, put, ofVal, ofVals, List.map, cond_true, cond_false, Nat.reduceBEq, nexts, allocs, countAllocs, pad, Nat.reduceAdd, Nat.reduceMul, Nat.reduceSub, Nat.reduceLT, isVoid, aNilCheck, aExtract, constOp, TD.conc, aNilB, isNilD, notD, aCap, aClear, aAppendZ, aInt, aStr, aConv, aSlice, asNat?, cutTight, aIndexAddr, aFieldAddr, aField, aIndex, aLoad, aStore, aAlloc, aBox, aBuild, aBuildSlice, aMakeSlice, aLen, aMax, aMin, aAppend, aCopy, aBuiltin, TD.isSlice, TD.isAgg, TD.known, TD.isSeq, partD, partOb, cellsAt, Blk.cells, if_true, if_false, splice, fillD, dl, byteD, Int.reduceBEq, Int.reduceBNe, beq_self_eq_true, retQ, retK, resD, resL, andR, elemCells, isByte, chunk, reduceCtorEq, okVal, okCell, List.replicate, ne_eq, Nat.reduceEqDiff, headIds_cons, IntWalk.toNatUp]
  exact Sub.refl rfl

theorem u8_beq (c k : UInt8) (n : Int) (hn : (k.toNat : Int) = n) : ((c.toNat : Int) == n) = (c == k) := by
  rw [Bool.eq_iff_iff, beq_iff_eq, beq_iff_eq, ← UInt8.toNat_inj]
  omega
theorem u8_bne (c k : UInt8) (n : Int) (hn : (k.toNat : Int) = n) : ((c.toNat : Int) != n) = !(c == k) := by
  show (!((c.toNat : Int) == n)) = _
  rw [u8_beq c k n hn]
theorem kind_short {s : List UInt8} (h1 : (s == [109]) = false) (h2 : (s == [110]) = false) (h3 : s.length ≠ 14) : kindM s = (0, 0) := by
  have h1' : s ≠ [109] := by simpa using h1
  have h2' : s ≠ [110] := by simpa using h2
  unfold kindM isNum
  rw [if_neg (fun h => h.elim h1' h2'), decide_eq_false h3, Bool.false_and, if_neg (by decide)]
theorem kind_long {c0 c1 : UInt8} {r : List UInt8} (hr : r.length = 12) : kindM (c0 :: c1 :: r) = if ((c0 == 115 || c0 == 116) && ((c1 :: r).all isDig && decide (val 0 (c1 :: r) ≤ 1099511627776))) = true then (c0, ((val 0 (c1 :: r) : Nat) : Int)) else (0, 0) := by
  unfold kindM isNum
  rw [if_neg (by rintro (h | h) <;> simp at h)]
  simp only [List.length_cons, hr, decide_true, Bool.true_and, List.headD_cons, List.tail_cons]
  rfl

/-- What a text is the name of. -/
theorem kind_ok (s : List UInt8) (hs : s.length ≤ 100) : PureF Tryd.prog 7 [.str s] (.tup [byteD (kindM s).1, .int .i64 (kindM s).2]) := by
  refine pureD (rs := [.tmp 2, .tmp 3]) tyOk mixed Tryd.func7 (by decide) rfl rfl (Nat.le_of_ble_eq_true rfl) (by decide) ?_
  cases h1 : (s == [109])
  case true =>
    have h1' : s = [109] := by simpa using h1
    subst h1'
    have e : kindM [109] = (109, 0) := rfl
    simp (disch := (first | omega | (simp only [W0]; done) | (simp only [W0]; omega))) only [h1, e, W1, ↓W2, unbyte, implies_true, ← List.map_take, ← List.map_drop, bne_self_eq_false, eqCells, flatTD, Nat.reducePow, ayield, eq_self, exists_eq_left', exists_eq_left, exists_eq', Int.reduceLE, Int.reduceLT, Nat.reduceLeDiff, Int.reduceToNat, Int.reduceAdd, Int.reduceSub, Int.reduceMul, Int.reduceNeg, Int.reduceEq, argEnv, aeval, get, put, ofVal, ofVals, List.map, cond_true, cond_false, Nat.reduceBEq, nexts, allocs, countAllocs, pad, Nat.reduceAdd, Nat.reduceMul, Nat.reduceSub, Nat.reduceLT, isVoid, aNilCheck, aExtract, constOp, TD.conc, aNilB, isNilD, notD, aCap, aClear, aAppendZ, aInt, aStr, aConv, aSlice, asNat?, cutTight, aIndexAddr, aFieldAddr, aField, aIndex, aLoad, aStore, aAlloc, aBox, aBuild, aBuildSlice, aMakeSlice, aLen, aMax, aMin, aAppend, aCopy, aBuiltin, TD.isSlice, TD.isAgg, TD.known, TD.isSeq, partD, partOb, cellsAt, Blk.cells, if_true, if_false, splice, fillD, dl, byteD, Int.reduceBEq, Int.reduceBNe, beq_self_eq_true, retQ, retK, resD, resL, andR, elemCells, isByte, chunk, reduceCtorEq, okVal, okCell, List.replicate, ne_eq, Nat.reduceEqDiff, headIds_cons, IntWalk.toNatUp]
    exact Sub.refl rfl
  cases h2 : (s == [110])
  case true =>
    have h2' : s = [110] := by simpa using h2
    subst h2'
    have e : kindM [110] = (110, 0) := rfl
    simp (disch := (first | omega | (simp only [W0]; done) | (simp only [W0]; omega))) only [h1, h2, e, W1, ↓W2, unbyte, implies_true, ← List.map_take, ← List.map_drop, bne_self_eq_false, eqCells, flatTD, Nat.reducePow, ayield, eq_self, exists_eq_left', exists_eq_left, exists_eq', Int.reduceLE, Int.reduceLT, Nat.reduceLeDiff, Int.reduceToNat, Int.reduceAdd, Int.reduceSub, Int.reduceMul, Int.reduceNeg, Int.reduceEq, argEnv, aeval, get, put, ofVal, ofVals, List.map, cond_true, cond_false, Nat.reduceBEq, nexts, allocs, countAllocs, pad, Nat.reduceAdd, Nat.reduceMul, Nat.reduceSub, Nat.reduceLT, isVoid, aNilCheck, aExtract, constOp, TD.conc, aNilB, isNilD, notD, aCap, aClear, aAppendZ, aInt, aStr, aConv, aSlice, asNat?, cutTight, aIndexAddr, aFieldAddr, aField, aIndex, aLoad, aStore, aAlloc, aBox, aBuild, aBuildSlice, aMakeSlice, aLen, aMax, aMin, aAppend, aCopy, aBuiltin, TD.isSlice, TD.isAgg, TD.known, TD.isSeq, partD, partOb, cellsAt, Blk.cells, if_true, if_false, splice, fillD, dl, byteD, Int.reduceBEq, Int.reduceBNe, beq_self_eq_true, retQ, retK, resD, resL, andR, elemCells, isByte, chunk, reduceCtorEq, okVal, okCell, List.replicate, ne_eq, Nat.reduceEqDiff, headIds_cons, IntWalk.toNatUp]
    exact Sub.refl rfl
  cases h3 : ((s.length : Int) != 14)
  case true =>
    have e := kind_short h1 h2 (by have := h3; simp at this; omega)
    simp (disch := (first | omega | (simp only [W0]; done) | (simp only [W0]; omega))) only [h1, h2, h3, e, byteD, W1, ↓W2, unbyte, implies_true, ← List.map_take, ← List.map_drop, bne_self_eq_false, eqCells, flatTD, Nat.reducePow, ayield, eq_self, exists_eq_left', exists_eq_left, exists_eq', Int.reduceLE, Int.reduceLT, Nat.reduceLeDiff, Int.reduceToNat, Int.reduceAdd, Int.reduceSub, Int.reduceMul, Int.reduceNeg, Int.reduceEq, argEnv, aeval, get, put, ofVal, ofVals, List.map, cond_true, cond_false, Nat.reduceBEq, nexts, allocs, countAllocs, pad, Nat.reduceAdd, Nat.reduceMul, Nat.reduceSub, Nat.reduceLT, isVoid, aNilCheck, aExtract, constOp, TD.conc, aNilB, isNilD, notD, aCap, aClear, aAppendZ, aInt, aStr, aConv, aSlice, asNat?, cutTight, aIndexAddr, aFieldAddr, aField, aIndex, aLoad, aStore, aAlloc, aBox, aBuild, aBuildSlice, aMakeSlice, aLen, aMax, aMin, aAppend, aCopy, aBuiltin, TD.isSlice, TD.isAgg, TD.known, TD.isSeq, partD, partOb, cellsAt, Blk.cells, if_true, if_false, splice, fillD, dl, byteD, Int.reduceBEq, Int.reduceBNe, beq_self_eq_true, retQ, retK, resD, resL, andR, elemCells, isByte, chunk, reduceCtorEq, okVal, okCell, List.replicate, ne_eq, Nat.reduceEqDiff, headIds_cons, IntWalk.toNatUp]
    exact Sub.refl rfl
  have h3' : s.length = 14 := by have := h3; simp at this; omega
  obtain ⟨c0, c1, r, rfl⟩ : ∃ c0 c1 r, s = c0 :: c1 :: r := by
    match s, h3' with
    | c0 :: c1 :: r, _ => exact ⟨c0, c1, r, rfl⟩
  have hr : r.length = 12 := by simpa using h3'
  have ek := kind_long (c0 := c0) (c1 := c1) hr
  have b0 := u8_bne c0 115 115 rfl
  have b1 := u8_bne c0 116 116 rfl
  have b2 := u8_beq c1 45 45 rfl
  have b3 := u8_beq c1 43 43 rfl
  have hl : (c0 :: c1 :: r).length = 14 := by simp [hr]
  have hno : ((c0 == 115 || c0 == 116) && ((c1 :: r).all isDig && decide (val 0 (c1 :: r) ≤ 1099511627776))) = false → kindM (c0 :: c1 :: r) = (0, 0) := fun h => by rw [ek, h]; rfl
  cases q01 : (c0 == 115 || c0 == 116)
  case false =>
    have e := hno (by rw [q01]; rfl)
    have q0 : (c0 == 115) = false := by simp only [Bool.or_eq_false_iff] at q01; exact q01.1
    have q1 : (c0 == 116) = false := by simp only [Bool.or_eq_false_iff] at q01; exact q01.2
    rw [q0] at b0
    rw [q1] at b1
    simp (disch := (first | omega | (simp only [W0]; done) | (simp only [W0]; omega))) only [h1, h2, h3, hr, b0, b1, e, byteD, Bool.not_false, W1, ↓W2, unbyte, implies_true, ← List.map_take, ← List.map_drop, bne_self_eq_false, eqCells, flatTD, Nat.reducePow, ayield, eq_self, exists_eq_left', exists_eq_left, exists_eq', Int.reduceLE, Int.reduceLT, Nat.reduceLeDiff, Int.reduceToNat, Int.reduceAdd, Int.reduceSub, Int.reduceMul, Int.reduceNeg, Int.reduceEq, argEnv, aeval, get, put, ofVal, ofVals, List.map, cond_true, cond_false, Nat.reduceBEq, nexts, allocs, countAllocs, pad, Nat.reduceAdd, Nat.reduceMul, Nat.reduceSub, Nat.reduceLT, isVoid, aNilCheck, aExtract, constOp, TD.conc, aNilB, isNilD, notD, aCap, aClear, aAppendZ, aInt, aStr, aConv, aSlice, asNat?, cutTight, aIndexAddr, aFieldAddr, aField, aIndex, aLoad, aStore, aAlloc, aBox, aBuild, aBuildSlice, aMakeSlice, aLen, aMax, aMin, aAppend, aCopy, aBuiltin, TD.isSlice, TD.isAgg, TD.known, TD.isSeq, partD, partOb, cellsAt, Blk.cells, if_true, if_false, splice, fillD, dl, byteD, Int.reduceBEq, Int.reduceBNe, beq_self_eq_true, retQ, retK, resD, resL, andR, elemCells, isByte, chunk, reduceCtorEq, okVal, okCell, List.replicate, ne_eq, Nat.reduceEqDiff, headIds_cons, IntWalk.toNatUp]
    exact Sub.refl rfl
  have key : ∀ (x : Bool), ((c0 == 115) = x) → True := fun _ _ => trivial
  cases q2 : (c1 == 45)
  case true =>
    have e := hno (by
      have : c1 = 45 := by simpa using q2
      rw [this, List.all_cons, show isDig 45 = false from rfl, Bool.false_and, Bool.false_and, Bool.and_false])
    rw [q2] at b2
    cases q0 : (c0 == 115)
    · have q1 : (c0 == 116) = true := by rw [q0] at q01; exact q01
      rw [q0] at b0
      rw [q1] at b1
      simp (disch := (first | omega | (simp only [W0]; done) | (simp only [W0]; omega))) only [h1, h2, h3, hr, b0, b1, b2, e, byteD, Bool.not_false, Bool.not_true, W1, ↓W2, unbyte, implies_true, ← List.map_take, ← List.map_drop, bne_self_eq_false, eqCells, flatTD, Nat.reducePow, ayield, eq_self, exists_eq_left', exists_eq_left, exists_eq', Int.reduceLE, Int.reduceLT, Nat.reduceLeDiff, Int.reduceToNat, Int.reduceAdd, Int.reduceSub, Int.reduceMul, Int.reduceNeg, Int.reduceEq, argEnv, aeval, get, put, ofVal, ofVals, List.map, cond_true, cond_false, Nat.reduceBEq, nexts, allocs, countAllocs, pad, Nat.reduceAdd, Nat.reduceMul, Nat.reduceSub, Nat.reduceLT, isVoid, aNilCheck, aExtract, constOp, TD.conc, aNilB, isNilD, notD, aCap, aClear, aAppendZ, aInt, aStr, aConv, aSlice, asNat?, cutTight, aIndexAddr, aFieldAddr, aField, aIndex, aLoad, aStore, aAlloc, aBox, aBuild, aBuildSlice, aMakeSlice, aLen, aMax, aMin, aAppend, aCopy, aBuiltin, TD.isSlice, TD.isAgg, TD.known, TD.isSeq, partD, partOb, cellsAt, Blk.cells, if_true, if_false, splice, fillD, dl, byteD, Int.reduceBEq, Int.reduceBNe, beq_self_eq_true, retQ, retK, resD, resL, andR, elemCells, isByte, chunk, reduceCtorEq, okVal, okCell, List.replicate, ne_eq, Nat.reduceEqDiff, headIds_cons, IntWalk.toNatUp]
      exact Sub.refl rfl
    · rw [q0] at b0
      simp (disch := (first | omega | (simp only [W0]; done) | (simp only [W0]; omega))) only [h1, h2, h3, hr, b0, b2, e, byteD, Bool.not_false, Bool.not_true, W1, ↓W2, unbyte, implies_true, ← List.map_take, ← List.map_drop, bne_self_eq_false, eqCells, flatTD, Nat.reducePow, ayield, eq_self, exists_eq_left', exists_eq_left, exists_eq', Int.reduceLE, Int.reduceLT, Nat.reduceLeDiff, Int.reduceToNat, Int.reduceAdd, Int.reduceSub, Int.reduceMul, Int.reduceNeg, Int.reduceEq, argEnv, aeval, get, put, ofVal, ofVals, List.map, cond_true, cond_false, Nat.reduceBEq, nexts, allocs, countAllocs, pad, Nat.reduceAdd, Nat.reduceMul, Nat.reduceSub, Nat.reduceLT, isVoid, aNilCheck, aExtract, constOp, TD.conc, aNilB, isNilD, notD, aCap, aClear, aAppendZ, aInt, aStr, aConv, aSlice, asNat?, cutTight, aIndexAddr, aFieldAddr, aField, aIndex, aLoad, aStore, aAlloc, aBox, aBuild, aBuildSlice, aMakeSlice, aLen, aMax, aMin, aAppend, aCopy, aBuiltin, TD.isSlice, TD.isAgg, TD.known, TD.isSeq, partD, partOb, cellsAt, Blk.cells, if_true, if_false, splice, fillD, dl, byteD, Int.reduceBEq, Int.reduceBNe, beq_self_eq_true, retQ, retK, resD, resL, andR, elemCells, isByte, chunk, reduceCtorEq, okVal, okCell, List.replicate, ne_eq, Nat.reduceEqDiff, headIds_cons, IntWalk.toNatUp]
      exact Sub.refl rfl
  rw [q2] at b2
  cases q3 : (c1 == 43)
  case true =>
    have e := hno (by
      have : c1 = 43 := by simpa using q3
      rw [this, List.all_cons, show isDig 43 = false from rfl, Bool.false_and, Bool.false_and, Bool.and_false])
    rw [q3] at b3
    cases q0 : (c0 == 115)
    · have q1 : (c0 == 116) = true := by rw [q0] at q01; exact q01
      rw [q0] at b0
      rw [q1] at b1
      simp (disch := (first | omega | (simp only [W0]; done) | (simp only [W0]; omega))) only [h1, h2, h3, hr, b0, b1, b2, b3, e, byteD, Bool.not_false, Bool.not_true, W1, ↓W2, unbyte, implies_true, ← List.map_take, ← List.map_drop, bne_self_eq_false, eqCells, flatTD, Nat.reducePow, ayield, eq_self, exists_eq_left', exists_eq_left, exists_eq', Int.reduceLE, Int.reduceLT, Nat.reduceLeDiff, Int.reduceToNat, Int.reduceAdd, Int.reduceSub, Int.reduceMul, Int.reduceNeg, Int.reduceEq, argEnv, aeval, get, put, ofVal, ofVals, List.map, cond_true, cond_false, Nat.reduceBEq, nexts, allocs, countAllocs, pad, Nat.reduceAdd, Nat.reduceMul, Nat.reduceSub, Nat.reduceLT, isVoid, aNilCheck, aExtract, constOp, TD.conc, aNilB, isNilD, notD, aCap, aClear, aAppendZ, aInt, aStr, aConv, aSlice, asNat?, cutTight, aIndexAddr, aFieldAddr, aField, aIndex, aLoad, aStore, aAlloc, aBox, aBuild, aBuildSlice, aMakeSlice, aLen, aMax, aMin, aAppend, aCopy, aBuiltin, TD.isSlice, TD.isAgg, TD.known, TD.isSeq, partD, partOb, cellsAt, Blk.cells, if_true, if_false, splice, fillD, dl, byteD, Int.reduceBEq, Int.reduceBNe, beq_self_eq_true, retQ, retK, resD, resL, andR, elemCells, isByte, chunk, reduceCtorEq, okVal, okCell, List.replicate, ne_eq, Nat.reduceEqDiff, headIds_cons, IntWalk.toNatUp]
      exact Sub.refl rfl
    · rw [q0] at b0
      simp (disch := (first | omega | (simp only [W0]; done) | (simp only [W0]; omega))) only [h1, h2, h3, hr, b0, b2, b3, e, byteD, Bool.not_false, Bool.not_true, W1, ↓W2, unbyte, implies_true, ← List.map_take, ← List.map_drop, bne_self_eq_false, eqCells, flatTD, Nat.reducePow, ayield, eq_self, exists_eq_left', exists_eq_left, exists_eq', Int.reduceLE, Int.reduceLT, Nat.reduceLeDiff, Int.reduceToNat, Int.reduceAdd, Int.reduceSub, Int.reduceMul, Int.reduceNeg, Int.reduceEq, argEnv, aeval, get, put, ofVal, ofVals, List.map, cond_true, cond_false, Nat.reduceBEq, nexts, allocs, countAllocs, pad, Nat.reduceAdd, Nat.reduceMul, Nat.reduceSub, Nat.reduceLT, isVoid, aNilCheck, aExtract, constOp, TD.conc, aNilB, isNilD, notD, aCap, aClear, aAppendZ, aInt, aStr, aConv, aSlice, asNat?, cutTight, aIndexAddr, aFieldAddr, aField, aIndex, aLoad, aStore, aAlloc, aBox, aBuild, aBuildSlice, aMakeSlice, aLen, aMax, aMin, aAppend, aCopy, aBuiltin, TD.isSlice, TD.isAgg, TD.known, TD.isSeq, partD, partOb, cellsAt, Blk.cells, if_true, if_false, splice, fillD, dl, byteD, Int.reduceBEq, Int.reduceBNe, beq_self_eq_true, retQ, retK, resD, resL, andR, elemCells, isByte, chunk, reduceCtorEq, okVal, okCell, List.replicate, ne_eq, Nat.reduceEqDiff, headIds_cons, IntWalk.toNatUp]
      exact Sub.refl rfl
  rw [q3] at b3
  have call : (∃ n : Nat, PureF Tryd.prog 13 [.str (c1 :: r)] (.tup [.int .i64 (n : Int), .niface]) ∧ n = val 0 (c1 :: r) ∧ (c1 :: r).all isDig = true ∧ n < 10000000000000) ∨ (PureF Tryd.prog 13 [.str (c1 :: r)] (.tup [.int .i64 0, .iface 41 (.cp [])]) ∧ (c1 :: r).all isDig = false) := by
    cases hd : (c1 :: r).all isDig
    · exact .inr ⟨atoi_no _ (by simp [hr]) (atoi_none q2 q3 hd), rfl⟩
    · have hv := val_lt (c1 :: r) 0 (by rw [List.all_eq_true] at hd; exact hd)
      have hv' : val 0 (c1 :: r) < 10000000000000 := by
        rw [show (c1 :: r).length = 13 by simp [hr]] at hv
        simpa using hv
      exact .inl ⟨val 0 (c1 :: r), atoi_yes _ _ (by simp [hr]) (by simp only [okInt, min_i64, max_i64]; omega) (atoi_val (by simp) hd), rfl, rfl, hv'⟩
  rcases call with ⟨n, hc, hn, hd, hnl⟩ | ⟨hc, hd⟩
  · cases q4 : decide ((n : Int) > 1099511627776)
    · have e : kindM (c0 :: c1 :: r) = (c0, (n : Int)) := by
        rw [ek, q01, hd, decide_eq_true (by rw [← hn]; have := of_decide_eq_false q4; omega), hn]
        rfl
      cases q0 : (c0 == 115)
      · have q1 : (c0 == 116) = true := by rw [q0] at q01; exact q01
        rw [q0] at b0
        rw [q1] at b1
        simp (disch := (first | omega | (simp only [W0]; done) | (simp only [W0]; omega))) only [h1, h2, h3, hr, b0, b1, b2, b3, byteD, Bool.not_false, Bool.not_true, W1, ↓W2, unbyte, implies_true, ← List.map_take, ← List.map_drop, bne_self_eq_false, eqCells, flatTD, Nat.reducePow, ayield, eq_self, exists_eq_left', exists_eq_left, exists_eq', Int.reduceLE, Int.reduceLT, Nat.reduceLeDiff, Int.reduceToNat, Int.reduceAdd, Int.reduceSub, Int.reduceMul, Int.reduceNeg, Int.reduceEq, argEnv, aeval, get, put, ofVal, ofVals, List.map, cond_true, cond_false, Nat.reduceBEq, nexts, allocs, countAllocs, pad, Nat.reduceAdd, Nat.reduceMul, Nat.reduceSub, Nat.reduceLT, isVoid, aNilCheck, aExtract, constOp, TD.conc, aNilB, isNilD, notD, aCap, aClear, aAppendZ, aInt, aStr, aConv, aSlice, asNat?, cutTight, aIndexAddr, aFieldAddr, aField, aIndex, aLoad, aStore, aAlloc, aBox, aBuild, aBuildSlice, aMakeSlice, aLen, aMax, aMin, aAppend, aCopy, aBuiltin, TD.isSlice, TD.isAgg, TD.known, TD.isSeq, partD, partOb, cellsAt, Blk.cells, if_true, if_false, splice, fillD, dl, byteD, Int.reduceBEq, Int.reduceBNe, beq_self_eq_true, retQ, retK, resD, resL, andR, elemCells, isByte, chunk, reduceCtorEq, okVal, okCell, List.replicate, ne_eq, Nat.reduceEqDiff, headIds_cons, IntWalk.toNatUp]
        refine callP hc rfl ?_
        simp (disch := (first | omega | (simp only [W0]; done) | (simp only [W0]; omega))) only [q4, e, W1, ↓W2, unbyte, implies_true, ← List.map_take, ← List.map_drop, bne_self_eq_false, eqCells, flatTD, Nat.reducePow, ayield, eq_self, exists_eq_left', exists_eq_left, exists_eq', Int.reduceLE, Int.reduceLT, Nat.reduceLeDiff, Int.reduceToNat, Int.reduceAdd, Int.reduceSub, Int.reduceMul, Int.reduceNeg, Int.reduceEq, argEnv, aeval, get, put, ofVal, ofVals, List.map, cond_true, cond_false, Nat.reduceBEq, nexts, allocs, countAllocs, pad, Nat.reduceAdd, Nat.reduceMul, Nat.reduceSub, Nat.reduceLT, isVoid, aNilCheck, aExtract, constOp, TD.conc, aNilB, isNilD, notD, aCap, aClear, aAppendZ, aInt, aStr, aConv, aSlice, asNat?, cutTight, aIndexAddr, aFieldAddr, aField, aIndex, aLoad, aStore, aAlloc, aBox, aBuild, aBuildSlice, aMakeSlice, aLen, aMax, aMin, aAppend, aCopy, aBuiltin, TD.isSlice, TD.isAgg, TD.known, TD.isSeq, partD, partOb, cellsAt, Blk.cells, if_true, if_false, splice, fillD, dl, byteD, Int.reduceBEq, Int.reduceBNe, beq_self_eq_true, retQ, retK, resD, resL, andR, elemCells, isByte, chunk, reduceCtorEq, okVal, okCell, List.replicate, ne_eq, Nat.reduceEqDiff, headIds_cons, IntWalk.toNatUp]
        exact Sub.refl rfl
      · rw [q0] at b0
        simp (disch := (first | omega | (simp only [W0]; done) | (simp only [W0]; omega))) only [h1, h2, h3, hr, b0, b2, b3, byteD, Bool.not_false, Bool.not_true, W1, ↓W2, unbyte, implies_true, ← List.map_take, ← List.map_drop, bne_self_eq_false, eqCells, flatTD, Nat.reducePow, ayield, eq_self, exists_eq_left', exists_eq_left, exists_eq', Int.reduceLE, Int.reduceLT, Nat.reduceLeDiff, Int.reduceToNat, Int.reduceAdd, Int.reduceSub, Int.reduceMul, Int.reduceNeg, Int.reduceEq, argEnv, aeval, get, put, ofVal, ofVals, List.map, cond_true, cond_false, Nat.reduceBEq, nexts, allocs, countAllocs, pad, Nat.reduceAdd, Nat.reduceMul, Nat.reduceSub, Nat.reduceLT, isVoid, aNilCheck, aExtract, constOp, TD.conc, aNilB, isNilD, notD, aCap, aClear, aAppendZ, aInt, aStr, aConv, aSlice, asNat?, cutTight, aIndexAddr, aFieldAddr, aField, aIndex, aLoad, aStore, aAlloc, aBox, aBuild, aBuildSlice, aMakeSlice, aLen, aMax, aMin, aAppend, aCopy, aBuiltin, TD.isSlice, TD.isAgg, TD.known, TD.isSeq, partD, partOb, cellsAt, Blk.cells, if_true, if_false, splice, fillD, dl, byteD, Int.reduceBEq, Int.reduceBNe, beq_self_eq_true, retQ, retK, resD, resL, andR, elemCells, isByte, chunk, reduceCtorEq, okVal, okCell, List.replicate, ne_eq, Nat.reduceEqDiff, headIds_cons, IntWalk.toNatUp]
        refine callP hc rfl ?_
        simp (disch := (first | omega | (simp only [W0]; done) | (simp only [W0]; omega))) only [q4, e, W1, ↓W2, unbyte, implies_true, ← List.map_take, ← List.map_drop, bne_self_eq_false, eqCells, flatTD, Nat.reducePow, ayield, eq_self, exists_eq_left', exists_eq_left, exists_eq', Int.reduceLE, Int.reduceLT, Nat.reduceLeDiff, Int.reduceToNat, Int.reduceAdd, Int.reduceSub, Int.reduceMul, Int.reduceNeg, Int.reduceEq, argEnv, aeval, get, put, ofVal, ofVals, List.map, cond_true, cond_false, Nat.reduceBEq, nexts, allocs, countAllocs, pad, Nat.reduceAdd, Nat.reduceMul, Nat.reduceSub, Nat.reduceLT, isVoid, aNilCheck, aExtract, constOp, TD.conc, aNilB, isNilD, notD, aCap, aClear, aAppendZ, aInt, aStr, aConv, aSlice, asNat?, cutTight, aIndexAddr, aFieldAddr, aField, aIndex, aLoad, aStore, aAlloc, aBox, aBuild, aBuildSlice, aMakeSlice, aLen, aMax, aMin, aAppend, aCopy, aBuiltin, TD.isSlice, TD.isAgg, TD.known, TD.isSeq, partD, partOb, cellsAt, Blk.cells, if_true, if_false, splice, fillD, dl, byteD, Int.reduceBEq, Int.reduceBNe, beq_self_eq_true, retQ, retK, resD, resL, andR, elemCells, isByte, chunk, reduceCtorEq, okVal, okCell, List.replicate, ne_eq, Nat.reduceEqDiff, headIds_cons, IntWalk.toNatUp]
        exact Sub.refl rfl
    · have e := hno (by rw [decide_eq_false (p := val 0 (c1 :: r) ≤ 1099511627776) (by rw [← hn]; have := of_decide_eq_true q4; omega), Bool.and_false, Bool.and_false])
      cases q0 : (c0 == 115)
      · have q1 : (c0 == 116) = true := by rw [q0] at q01; exact q01
        rw [q0] at b0
        rw [q1] at b1
        simp (disch := (first | omega | (simp only [W0]; done) | (simp only [W0]; omega))) only [h1, h2, h3, hr, b0, b1, b2, b3, byteD, Bool.not_false, Bool.not_true, W1, ↓W2, unbyte, implies_true, ← List.map_take, ← List.map_drop, bne_self_eq_false, eqCells, flatTD, Nat.reducePow, ayield, eq_self, exists_eq_left', exists_eq_left, exists_eq', Int.reduceLE, Int.reduceLT, Nat.reduceLeDiff, Int.reduceToNat, Int.reduceAdd, Int.reduceSub, Int.reduceMul, Int.reduceNeg, Int.reduceEq, argEnv, aeval, get, put, ofVal, ofVals, List.map, cond_true, cond_false, Nat.reduceBEq, nexts, allocs, countAllocs, pad, Nat.reduceAdd, Nat.reduceMul, Nat.reduceSub, Nat.reduceLT, isVoid, aNilCheck, aExtract, constOp, TD.conc, aNilB, isNilD, notD, aCap, aClear, aAppendZ, aInt, aStr, aConv, aSlice, asNat?, cutTight, aIndexAddr, aFieldAddr, aField, aIndex, aLoad, aStore, aAlloc, aBox, aBuild, aBuildSlice, aMakeSlice, aLen, aMax, aMin, aAppend, aCopy, aBuiltin, TD.isSlice, TD.isAgg, TD.known, TD.isSeq, partD, partOb, cellsAt, Blk.cells, if_true, if_false, splice, fillD, dl, byteD, Int.reduceBEq, Int.reduceBNe, beq_self_eq_true, retQ, retK, resD, resL, andR, elemCells, isByte, chunk, reduceCtorEq, okVal, okCell, List.replicate, ne_eq, Nat.reduceEqDiff, headIds_cons, IntWalk.toNatUp]
        refine callP hc rfl ?_
        simp (disch := (first | omega | (simp only [W0]; done) | (simp only [W0]; omega))) only [q4, e, W1, ↓W2, unbyte, implies_true, ← List.map_take, ← List.map_drop, bne_self_eq_false, eqCells, flatTD, Nat.reducePow, ayield, eq_self, exists_eq_left', exists_eq_left, exists_eq', Int.reduceLE, Int.reduceLT, Nat.reduceLeDiff, Int.reduceToNat, Int.reduceAdd, Int.reduceSub, Int.reduceMul, Int.reduceNeg, Int.reduceEq, argEnv, aeval, get, put, ofVal, ofVals, List.map, cond_true, cond_false, Nat.reduceBEq, nexts, allocs, countAllocs, pad, Nat.reduceAdd, Nat.reduceMul, Nat.reduceSub, Nat.reduceLT, isVoid, aNilCheck, aExtract, constOp, TD.conc, aNilB, isNilD, notD, aCap, aClear, aAppendZ, aInt, aStr, aConv, aSlice, asNat?, cutTight, aIndexAddr, aFieldAddr, aField, aIndex, aLoad, aStore, aAlloc, aBox, aBuild, aBuildSlice, aMakeSlice, aLen, aMax, aMin, aAppend, aCopy, aBuiltin, TD.isSlice, TD.isAgg, TD.known, TD.isSeq, partD, partOb, cellsAt, Blk.cells, if_true, if_false, splice, fillD, dl, byteD, Int.reduceBEq, Int.reduceBNe, beq_self_eq_true, retQ, retK, resD, resL, andR, elemCells, isByte, chunk, reduceCtorEq, okVal, okCell, List.replicate, ne_eq, Nat.reduceEqDiff, headIds_cons, IntWalk.toNatUp]
        exact Sub.refl rfl
      · rw [q0] at b0
        simp (disch := (first | omega | (simp only [W0]; done) | (simp only [W0]; omega))) only [h1, h2, h3, hr, b0, b2, b3, byteD, Bool.not_false, Bool.not_true, W1, ↓W2, unbyte, implies_true, ← List.map_take, ← List.map_drop, bne_self_eq_false, eqCells, flatTD, Nat.reducePow, ayield, eq_self, exists_eq_left', exists_eq_left, exists_eq', Int.reduceLE, Int.reduceLT, Nat.reduceLeDiff, Int.reduceToNat, Int.reduceAdd, Int.reduceSub, Int.reduceMul, Int.reduceNeg, Int.reduceEq, argEnv, aeval, get, put, ofVal, ofVals, List.map, cond_true, cond_false, Nat.reduceBEq, nexts, allocs, countAllocs, pad, Nat.reduceAdd, Nat.reduceMul, Nat.reduceSub, Nat.reduceLT, isVoid, aNilCheck, aExtract, constOp, TD.conc, aNilB, isNilD, notD, aCap, aClear, aAppendZ, aInt, aStr, aConv, aSlice, asNat?, cutTight, aIndexAddr, aFieldAddr, aField, aIndex, aLoad, aStore, aAlloc, aBox, aBuild, aBuildSlice, aMakeSlice, aLen, aMax, aMin, aAppend, aCopy, aBuiltin, TD.isSlice, TD.isAgg, TD.known, TD.isSeq, partD, partOb, cellsAt, Blk.cells, if_true, if_false, splice, fillD, dl, byteD, Int.reduceBEq, Int.reduceBNe, beq_self_eq_true, retQ, retK, resD, resL, andR, elemCells, isByte, chunk, reduceCtorEq, okVal, okCell, List.replicate, ne_eq, Nat.reduceEqDiff, headIds_cons, IntWalk.toNatUp]
        refine callP hc rfl ?_
        simp (disch := (first | omega | (simp only [W0]; done) | (simp only [W0]; omega))) only [q4, e, W1, ↓W2, unbyte, implies_true, ← List.map_take, ← List.map_drop, bne_self_eq_false, eqCells, flatTD, Nat.reducePow, ayield, eq_self, exists_eq_left', exists_eq_left, exists_eq', Int.reduceLE, Int.reduceLT, Nat.reduceLeDiff, Int.reduceToNat, Int.reduceAdd, Int.reduceSub, Int.reduceMul, Int.reduceNeg, Int.reduceEq, argEnv, aeval, get, put, ofVal, ofVals, List.map, cond_true, cond_false, Nat.reduceBEq, nexts, allocs, countAllocs, pad, Nat.reduceAdd, Nat.reduceMul, Nat.reduceSub, Nat.reduceLT, isVoid, aNilCheck, aExtract, constOp, TD.conc, aNilB, isNilD, notD, aCap, aClear, aAppendZ, aInt, aStr, aConv, aSlice, asNat?, cutTight, aIndexAddr, aFieldAddr, aField, aIndex, aLoad, aStore, aAlloc, aBox, aBuild, aBuildSlice, aMakeSlice, aLen, aMax, aMin, aAppend, aCopy, aBuiltin, TD.isSlice, TD.isAgg, TD.known, TD.isSeq, partD, partOb, cellsAt, Blk.cells, if_true, if_false, splice, fillD, dl, byteD, Int.reduceBEq, Int.reduceBNe, beq_self_eq_true, retQ, retK, resD, resL, andR, elemCells, isByte, chunk, reduceCtorEq, okVal, okCell, List.replicate, ne_eq, Nat.reduceEqDiff, headIds_cons, IntWalk.toNatUp]
        exact Sub.refl rfl
  · have e := hno (by rw [hd, Bool.false_and, Bool.and_false])
    cases q0 : (c0 == 115)
    · have q1 : (c0 == 116) = true := by rw [q0] at q01; exact q01
      rw [q0] at b0
      rw [q1] at b1
      simp (disch := (first | omega | (simp only [W0]; done) | (simp only [W0]; omega))) only [h1, h2, h3, hr, b0, b1, b2, b3, byteD, Bool.not_false, Bool.not_true, W1, ↓W2, unbyte, implies_true, ← List.map_take, ← List.map_drop, bne_self_eq_false, eqCells, flatTD, Nat.reducePow, ayield, eq_self, exists_eq_left', exists_eq_left, exists_eq', Int.reduceLE, Int.reduceLT, Nat.reduceLeDiff, Int.reduceToNat, Int.reduceAdd, Int.reduceSub, Int.reduceMul, Int.reduceNeg, Int.reduceEq, argEnv, aeval, get, put, ofVal, ofVals, List.map, cond_true, cond_false, Nat.reduceBEq, nexts, allocs, countAllocs, pad, Nat.reduceAdd, Nat.reduceMul, Nat.reduceSub, Nat.reduceLT, isVoid, aNilCheck, aExtract, constOp, TD.conc, aNilB, isNilD, notD, aCap, aClear, aAppendZ, aInt, aStr, aConv, aSlice, asNat?, cutTight, aIndexAddr, aFieldAddr, aField, aIndex, aLoad, aStore, aAlloc, aBox, aBuild, aBuildSlice, aMakeSlice, aLen, aMax, aMin, aAppend, aCopy, aBuiltin, TD.isSlice, TD.isAgg, TD.known, TD.isSeq, partD, partOb, cellsAt, Blk.cells, if_true, if_false, splice, fillD, dl, byteD, Int.reduceBEq, Int.reduceBNe, beq_self_eq_true, retQ, retK, resD, resL, andR, elemCells, isByte, chunk, reduceCtorEq, okVal, okCell, List.replicate, ne_eq, Nat.reduceEqDiff, headIds_cons, IntWalk.toNatUp]
      refine callP hc rfl ?_
      simp (disch := (first | omega | (simp only [W0]; done) | (simp only [W0]; omega))) only [e, W1, ↓W2, unbyte, implies_true, ← List.map_take, ← List.map_drop, bne_self_eq_false, eqCells, flatTD, Nat.reducePow, ayield, eq_self, exists_eq_left', exists_eq_left, exists_eq', Int.reduceLE, Int.reduceLT, Nat.reduceLeDiff, Int.reduceToNat, Int.reduceAdd, Int.reduceSub, Int.reduceMul, Int.reduceNeg, Int.reduceEq, argEnv, aeval, get, put, ofVal, ofVals, List.map, cond_true, cond_false, Nat.reduceBEq, nexts, allocs, countAllocs, pad, Nat.reduceAdd, Nat.reduceMul, Nat.reduceSub, Nat.reduceLT, isVoid, aNilCheck, aExtract, constOp, TD.conc, aNilB, isNilD, notD, aCap, aClear, aAppendZ, aInt, aStr, aConv, aSlice, asNat?, cutTight, aIndexAddr, aFieldAddr, aField, aIndex, aLoad, aStore, aAlloc, aBox, aBuild, aBuildSlice, aMakeSlice, aLen, aMax, aMin, aAppend, aCopy, aBuiltin, TD.isSlice, TD.isAgg, TD.known, TD.isSeq, partD, partOb, cellsAt, Blk.cells, if_true, if_false, splice, fillD, dl, byteD, Int.reduceBEq, Int.reduceBNe, beq_self_eq_true, retQ, retK, resD, resL, andR, elemCells, isByte, chunk, reduceCtorEq, okVal, okCell, List.replicate, ne_eq, Nat.reduceEqDiff, headIds_cons, IntWalk.toNatUp]
      exact Sub.refl rfl
    · rw [q0] at b0
      simp (disch := (first | omega | (simp only [W0]; done) | (simp only [W0]; omega))) only [h1, h2, h3, hr, b0, b2, b3, byteD, Bool.not_false, Bool.not_true, W1, ↓W2, unbyte, implies_true, ← List.map_take, ← List.map_drop, bne_self_eq_false, eqCells, flatTD, Nat.reducePow, ayield, eq_self, exists_eq_left', exists_eq_left, exists_eq', Int.reduceLE, Int.reduceLT, Nat.reduceLeDiff, Int.reduceToNat, Int.reduceAdd, Int.reduceSub, Int.reduceMul, Int.reduceNeg, Int.reduceEq, argEnv, aeval, get, put, ofVal, ofVals, List.map, cond_true, cond_false, Nat.reduceBEq, nexts, allocs, countAllocs, pad, Nat.reduceAdd, Nat.reduceMul, Nat.reduceSub, Nat.reduceLT, isVoid, aNilCheck, aExtract, constOp, TD.conc, aNilB, isNilD, notD, aCap, aClear, aAppendZ, aInt, aStr, aConv, aSlice, asNat?, cutTight, aIndexAddr, aFieldAddr, aField, aIndex, aLoad, aStore, aAlloc, aBox, aBuild, aBuildSlice, aMakeSlice, aLen, aMax, aMin, aAppend, aCopy, aBuiltin, TD.isSlice, TD.isAgg, TD.known, TD.isSeq, partD, partOb, cellsAt, Blk.cells, if_true, if_false, splice, fillD, dl, byteD, Int.reduceBEq, Int.reduceBNe, beq_self_eq_true, retQ, retK, resD, resL, andR, elemCells, isByte, chunk, reduceCtorEq, okVal, okCell, List.replicate, ne_eq, Nat.reduceEqDiff, headIds_cons, IntWalk.toNatUp]
      refine callP hc rfl ?_
      simp (disch := (first | omega | (simp only [W0]; done) | (simp only [W0]; omega))) only [e, W1, ↓W2, unbyte, implies_true, ← List.map_take, ← List.map_drop, bne_self_eq_false, eqCells, flatTD, Nat.reducePow, ayield, eq_self, exists_eq_left', exists_eq_left, exists_eq', Int.reduceLE, Int.reduceLT, Nat.reduceLeDiff, Int.reduceToNat, Int.reduceAdd, Int.reduceSub, Int.reduceMul, Int.reduceNeg, Int.reduceEq, argEnv, aeval, get, put, ofVal, ofVals, List.map, cond_true, cond_false, Nat.reduceBEq, nexts, allocs, countAllocs, pad, Nat.reduceAdd, Nat.reduceMul, Nat.reduceSub, Nat.reduceLT, isVoid, aNilCheck, aExtract, constOp, TD.conc, aNilB, isNilD, notD, aCap, aClear, aAppendZ, aInt, aStr, aConv, aSlice, asNat?, cutTight, aIndexAddr, aFieldAddr, aField, aIndex, aLoad, aStore, aAlloc, aBox, aBuild, aBuildSlice, aMakeSlice, aLen, aMax, aMin, aAppend, aCopy, aBuiltin, TD.isSlice, TD.isAgg, TD.known, TD.isSeq, partD, partOb, cellsAt, Blk.cells, if_true, if_false, splice, fillD, dl, byteD, Int.reduceBEq, Int.reduceBNe, beq_self_eq_true, retQ, retK, resD, resL, andR, elemCells, isByte, chunk, reduceCtorEq, okVal, okCell, List.replicate, ne_eq, Nat.reduceEqDiff, headIds_cons, IntWalk.toNatUp]
      exact Sub.refl rfl

end Go.Proofs.YtlkffgmejcgdbaaDoor
