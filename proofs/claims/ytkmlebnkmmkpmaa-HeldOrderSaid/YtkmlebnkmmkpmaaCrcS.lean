/- Sums of lists of texts, a sum's bytes: what each function returns. -/
import Derived.Test.YtkmlebnkmmkpmaaCrcM
namespace Go.Proofs.Ytkmlebnkmmkpmaa
set_option linter.all false
-- bundled

set_option maxRecDepth 100000

def Texts (l : List (List UInt8)) : Prop := l.length ≤ maxLen ∧ ∀ s, s ∈ l → s.length ≤ maxLen

theorem foldl_next {α β : Type} (f : β → α → β) (x : β) (l : List α) (i : Nat) (h : i < l.length) : (l.take (i + 1)).foldl f x = f ((l.take i).foldl f x) (l[i]'h) := by
  rw [List.take_succ_eq_append_getElem h, List.foldl_append]; rfl

def fourM (x : BitVec 32) : List UInt8 := [UInt8.ofNat (IntKind.u8.wrap x.toNat).toNat, UInt8.ofNat (IntKind.u8.wrap (x >>> 8).toNat).toNat, UInt8.ofNat (IntKind.u8.wrap (x >>> 16).toNat).toNat, UInt8.ofNat (IntKind.u8.wrap (x >>> 24).toNat).toNat]

theorem fourRef_ok (x : BitVec 32) : PureF Try.prog 77 [.int .u32 x.toNat] (.str (fourM x)) := by
  refine pureD (rs := [.tmp 2]) tyOk mixed Try.func77 (by decide) rfl rfl (Nat.le_of_ble_eq_true rfl) (by decide) ?_
  simp (disch := (first | omega | (simp only [List.length_take, List.length_drop, List.length_append, List.length_map, List.length_cons, List.length_nil]; done) | (simp only [List.length_take, List.length_drop, List.length_append, List.length_map, List.length_cons, List.length_nil]; omega))) only [↓and8, ↓or8, ↓xor8, ↓and32, ↓or32, ↓xor32, ↓and64, ↓or64, ↓xor64, neg32, not32, shr32, shr64, ofInt_nat32, ofInt_nat64, ofInt_nat8, wrap32, wrap64, wrap8, W1, ↓W2, unbyte, implies_true, ← List.map_take, ← List.map_drop, bne_self_eq_false, eqCells, flatTD, Nat.reducePow, ayield, eq_self, exists_eq_left', exists_eq_left, exists_eq', Int.reduceLE, Int.reduceLT, Nat.reduceLeDiff, Int.reduceToNat, Int.reduceAdd, Int.reduceSub, Int.reduceMul, Int.reduceNeg, Int.reduceEq, argEnv, aeval, get, put, ofVal, ofVals, List.map, cond_true, cond_false, Nat.reduceBEq, nexts, allocs, countAllocs, pad, Nat.reduceAdd, Nat.reduceMul, Nat.reduceSub, Nat.reduceLT, isVoid, aNilCheck, aExtract, aNilB, isNilD, notD, aCap, aClear, aAppendZ, aInt, aStr, aConv, aSlice, asNat?, cutTight, aIndexAddr, aFieldAddr, aField, aIndex, aLoad, aStore, aAlloc, aBox, aBuild, aBuildSlice, aMakeSlice, aLen, aMax, aMin, aAppend, aCopy, aBuiltin, TD.isSlice, TD.isAgg, TD.known, TD.isSeq, partD, partOb, cellsAt, Blk.cells, if_true, if_false, splice, fillD, dl, byteD, Int.reduceBEq, Int.reduceBNe, beq_self_eq_true, retQ, retK, resD, resL, andR, elemCells, isByte, chunk, reduceCtorEq, okVal, okCell, List.replicate, ne_eq, Nat.reduceEqDiff, headIds_cons, IntWalk.toNatUp]
  exact Sub.refl rfl


theorem sumM_1 (s : List UInt8) : sumM [s] = onT 0#32 s := rfl
theorem sumM_2 (a b : List UInt8) : sumM [a, b] = onT (onT 0#32 a) b := rfl
theorem texts_few {l : List (List UInt8)} {n : Nat} (h1 : l.length ≤ 4) (hn : n ≤ 281474976710656) (h2 : ∀ s, s ∈ l → s.length ≤ n) : Texts l := ⟨by rw [maxLen_lit]; omega, fun s hs => by rw [maxLen_lit]; have := h2 s hs; omega⟩

end Go.Proofs.Ytkmlebnkmmkpmaa
