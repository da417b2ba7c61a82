/- Of records in a row one of every so many is kept: the law is true of every input. -/
import Derived.Test.YtlpbhmhkobhkeaaSparseL
namespace Go.Proofs.Ytlpbhmhkobhkeaa
set_option linter.all false
-- bundled

set_option maxRecDepth 100000

def posK (sizes : List UInt8) (i : Nat) : Nat := i + ((sizes.take i).map UInt8.toNat).sum
def mkK (b : Nat) (sizes : List UInt8) (i : Nat) : GMark := ⟨(b : Int) + (i : Int), (posK sizes i : Int)⟩
def allK (b : Nat) (sizes : List UInt8) (i : Nat) : List GMark := (List.range i).map (mkK b sizes)
def numK (n i : Nat) : Nat := (i + n - 1) / n
def keptK (b n : Nat) (sizes : List UInt8) (i : Nat) : List GMark := (List.range (numK n i)).map fun q => mkK b sizes (q * n)

theorem posK_step (sizes : List UInt8) (i : Nat) (h : i < sizes.length) : posK sizes (i + 1) = posK sizes i + 1 + (sizes[i]).toNat := by
  simp only [posK]
  rw [List.take_succ_eq_append_getElem h, List.map_append, List.sum_append]
  simp
  omega
theorem posK_le (sizes : List UInt8) (i : Nat) (h : i ≤ sizes.length) : posK sizes i ≤ i * 256 := by
  induction i with
  | zero => simp [posK]
  | succ i ih =>
    rw [posK_step sizes i (by omega)]
    have := (sizes[i]'(by omega)).toNat_lt
    have := ih (by omega)
    omega
theorem posK_lt (sizes : List UInt8) (i j : Nat) (h : i < j) (hj : j ≤ sizes.length) : posK sizes i < posK sizes j := by
  induction j with
  | zero => omega
  | succ j ih =>
    rw [posK_step sizes j (by omega)]
    by_cases c : i = j
    · subst c; omega
    · have := ih (by omega) (by omega)
      omega

theorem numK_add (n i : Nat) (hn : 0 < n) : numK n (i + 1) = i / n + 1 := by
  unfold numK
  have h := Nat.div_add_mod i n
  have h2 : i + 1 + n - 1 = i + n := by omega
  rw [h2, Nat.add_div_right i hn]
theorem numK_now (n i : Nat) (hn : 0 < n) : numK n i = if i % n = 0 then i / n else i / n + 1 := by
  unfold numK
  have h := Nat.div_add_mod i n
  have hr := Nat.mod_lt i hn
  split
  · rename_i h0
    have e : i + n - 1 = n * (i / n) + (n - 1) := by omega
    rw [e, Nat.mul_add_div hn, Nat.div_eq_of_lt (show n - 1 < n by omega)]
    omega
  · rename_i h0
    have e : i + n - 1 = n * (i / n) + (n + (i % n - 1)) := by omega
    rw [e, Nat.mul_add_div hn]
    have : (n + (i % n - 1)) / n = 1 := by
      rw [Nat.add_div_left _ hn, Nat.div_eq_of_lt (show i % n - 1 < n by omega)]
    omega

theorem kept_step (b n : Nat) (sizes : List UInt8) (i : Nat) (hn : 0 < n) (hb : b ≤ 65535) (hi : i ≤ 300) : addM (keptK b n sizes i) b n (mkK b sizes i) = keptK b n sizes (i + 1) := by
  have hw : IntKind.i64.wrap ((mkK b sizes i).off - (b : Int)) = (i : Int) := by
    simp only [mkK]
    rw [IntWalk.i64_in _ (by omega)]
    omega
  have ht : ((i : Int).tmod (n : Int) == 0) = decide (i % n = 0) := by
    rw [Int.tmod_eq_emod_of_nonneg (by omega), Bool.eq_iff_iff, beq_iff_eq, decide_eq_true_eq]
    omega
  rw [addM, hw, ht, keptK, keptK, numK_add n i hn, numK_now n i hn]
  by_cases h0 : i % n = 0
  · have e : i / n * n = i := by have := Nat.div_add_mod i n; rw [Nat.mul_comm]; omega
    simp [h0, List.range_succ, e]
  · simp [h0]

theorem rgt_range (f : Nat → GMark) (last : GMark) (s k : Nat) (h0 : 0 < k → last.off < (f s).off ∧ last.pos < (f s).pos) (h : ∀ i, s ≤ i → i + 1 < s + k → (f i).off < (f (i + 1)).off ∧ (f i).pos < (f (i + 1)).pos) :
    rgt last ((List.range' s k).map f) = true := by
  induction k generalizing s last with
  | zero => rfl
  | succ k ih =>
    simp only [List.range'_succ, List.map_cons, rgt, Bool.and_eq_true, decide_eq_true_eq]
    have := h0 (by omega)
    exact ⟨this.1, this.2, ih (f s) (s + 1) (fun hk => h s (Nat.le_refl _) (by omega)) (fun i h1 h2 => h i (by omega) (by omega))⟩

theorem num_le (n i : Nat) (hn : 0 < n) : numK n i ≤ i := by
  have := numK_now n i hn
  have h := Nat.div_add_mod i n
  have h1 : i / n ≤ i := Nat.div_le_self i n
  split at this
  · omega
  · have h3 : i / n * 1 ≤ i / n * n := Nat.mul_le_mul_left _ hn
    have h4 := Nat.mul_comm n (i / n)
    omega
theorem num_mul (n i q : Nat) (hn : 0 < n) (hq : q < numK n i) : q * n < i := by
  have := numK_now n i hn
  have h := Nat.div_add_mod i n
  have hm := Nat.mul_comm n (i / n)
  split at this
  · have : (q + 1) * n ≤ i / n * n := Nat.mul_le_mul_right n (by omega)
    rw [Nat.succ_mul] at this
    omega
  · have : q * n ≤ i / n * n := Nat.mul_le_mul_right n (by omega)
    omega

theorem kept_right (b n : Nat) (sizes : List UInt8) (i : Nat) (hn : 0 < n) (hi : i ≤ sizes.length) : rightM (keptK b n sizes i) = true := by
  unfold rightM keptK
  rw [List.range_eq_range']
  refine rgt_range _ _ _ _ (fun _ => ?_) (fun q _ hq => ?_)
  · simp only [mkK]; omega
  · have h1 := num_mul n i (q + 1) hn (by omega)
    have h2 : q * n < (q + 1) * n := by rw [Nat.succ_mul]; omega
    have h3 := posK_lt sizes (q * n) ((q + 1) * n) h2 (by omega)
    simp only [mkK]
    omega

theorem cut_is (l : List GMark) (off : Int) (c : Nat) (hc : c ≤ l.length) (h1 : ∀ j (h : j < c), (l[j]'(by omega)).off ≤ off) (h2 : ∀ h : c < l.length, off < l[c].off) : cutM l off = c := by
  have hl := cut_le l off
  rcases Nat.lt_trichotomy (cutM l off) c with h | h | h
  · have := cut_at l off (by omega)
    have := h1 _ h
    omega
  · exact h
  · have := cut_in l off c (by omega) h
    have := h2 (by omega)
    omega

theorem kept_get (b n : Nat) (sizes : List UInt8) (i q : Nat) (h : q < (keptK b n sizes i).length) : (keptK b n sizes i)[q] = mkK b sizes (q * n) := by simp [keptK]
theorem kept_len (b n : Nat) (sizes : List UInt8) (i : Nat) : (keptK b n sizes i).length = numK n i := by simp [keptK]

theorem kept_find (b n : Nat) (sizes : List UInt8) (i : Nat) (hn : 0 < n) (hi : i < sizes.length) : findM (keptK b n sizes sizes.length) ((b : Int) + (i : Int)) = (mkK b sizes (i / n * n), true) := by
  have hnum := numK_now n sizes.length hn
  have hdiv : i / n ≤ sizes.length / n := Nat.div_le_div_right (by omega)
  have e1 := Nat.div_add_mod i n
  have e2 := Nat.div_add_mod sizes.length n
  have m1 := Nat.mul_comm n (i / n)
  have m2 := Nat.mul_comm n (sizes.length / n)
  have r1 := Nat.mod_lt i hn
  have hlt : i / n < numK n sizes.length := by
    split at hnum
    · rcases Nat.lt_or_ge (i / n) (sizes.length / n) with c | c
      · omega
      · have : i / n = sizes.length / n := by omega
        rw [this] at e1
        omega
    · omega
  have hc : cutM (keptK b n sizes sizes.length) ((b : Int) + (i : Int)) = i / n + 1 := by
    refine cut_is _ _ _ (by rw [kept_len]; omega) (fun j hj => ?_) (fun h => ?_)
    · rw [kept_get]
      simp only [mkK]
      have : j * n ≤ i / n * n := Nat.mul_le_mul_right n (by omega)
      omega
    · rw [kept_get]
      simp only [mkK, Nat.succ_mul]
      omega
  have hl : i / n < (keptK b n sizes sizes.length).length := by rw [kept_len]; exact hlt
  unfold findM
  rw [hc]
  simp [hl, kept_get]

theorem kept_none (b n : Nat) (sizes : List UInt8) (i : Nat) : findM (keptK b n sizes i) ((b : Int) - 1) = (⟨0, 0⟩, false) := by
  have hc : cutM (keptK b n sizes i) ((b : Int) - 1) = 0 := cut_is _ _ 0 (Nat.zero_le _) (fun j hj => absurd hj (Nat.not_lt_zero j)) (fun h => by rw [kept_get]; simp only [mkK]; omega)
  simp [findM, hc]

def allD (i : Nat) : D := if i = 0 then .nil else .ref 0 0 i 2
def allH (b : Nat) (sizes : List UInt8) (i : Nat) : AHeap := if i = 0 then [] else [.live (((allK b sizes i).map GMark.d).flatMap D.cells)]

theorem allK_step (b : Nat) (sizes : List UInt8) (i : Nat) : allK b sizes (i + 1) = allK b sizes i ++ [mkK b sizes i] := by simp [allK, List.range_succ]
theorem allK_len (b : Nat) (sizes : List UInt8) (i : Nat) : (allK b sizes i).length = i := by simp [allK]

theorem sparseKeeps (b : Nat) (every : UInt8) (sizes : List UInt8) (hb : b ≤ 65535) (hl : sizes.length ≤ reach) : PureF Try.prog 13 [.int .u16 b, byteD every, dl 1 byteD sizes] (.bool true) := by
  refine pureD (rs := [.tmp 6]) tyOk mixed Try.func13 (by decide) rfl rfl (Nat.le_of_ble_eq_true rfl) (by decide) ?_
  have hl' := hl
  rw [reach_lit] at hl'
  have he := every.toNat_lt
  simp (disch := (first | omega | (simp only [List.length_take, List.length_drop, List.length_append, List.length_map, List.length_cons, List.length_nil]; done) | (simp only [List.length_take, List.length_drop, List.length_append, List.length_map, List.length_cons, List.length_nil]; omega))) only [W1, ↓W2, unbyte, implies_true, ← List.map_take, ← List.map_drop, bne_self_eq_false, eqCells, flatTD, Nat.reducePow, ayield, eq_self, exists_eq_left', exists_eq_left, Int.reduceLE, Int.reduceLT, Nat.reduceLeDiff, Int.reduceToNat, Int.reduceAdd, Int.reduceSub, Int.reduceMul, Int.reduceNeg, Int.reduceEq, argEnv, aeval, get, put, ofVal, ofVals, List.map, cond_true, cond_false, Nat.reduceBEq, nexts, allocs, countAllocs, pad, Nat.reduceAdd, Nat.reduceMul, Nat.reduceSub, Nat.reduceLT, isVoid, aNilCheck, aExtract, aInt, aStr, aConv, aSlice, asNat?, cutTight, aIndexAddr, aFieldAddr, aField, aIndex, aLoad, aStore, aAlloc, aBox, aBuild, aBuildSlice, aMakeSlice, aLen, aMax, aMin, aAppend, aCopy, aBuiltin, TD.isSlice, TD.isAgg, TD.known, TD.isSeq, partD, partOb, cellsAt, Blk.cells, if_true, if_false, splice, fillD, dl, byteD, Int.reduceBEq, beq_self_eq_true, retQ, retK, resD, resL, andR, elemCells, isByte, chunk, reduceCtorEq, okVal, okCell, List.replicate, ne_eq, Nat.reduceEqDiff, IntWalk.toNatUp]
  refine acond_split ?_ ?_ <;> intro h3
  · simp (disch := (first | omega | (simp only [List.length_take, List.length_drop, List.length_append, List.length_map, List.length_cons, List.length_nil]; done) | (simp only [List.length_take, List.length_drop, List.length_append, List.length_map, List.length_cons, List.length_nil]; omega))) only [h3, W1, ↓W2, unbyte, implies_true, ← List.map_take, ← List.map_drop, bne_self_eq_false, eqCells, flatTD, Nat.reducePow, ayield, eq_self, exists_eq_left', exists_eq_left, Int.reduceLE, Int.reduceLT, Nat.reduceLeDiff, Int.reduceToNat, Int.reduceAdd, Int.reduceSub, Int.reduceMul, Int.reduceNeg, Int.reduceEq, argEnv, aeval, get, put, ofVal, ofVals, List.map, cond_true, cond_false, Nat.reduceBEq, nexts, allocs, countAllocs, pad, Nat.reduceAdd, Nat.reduceMul, Nat.reduceSub, Nat.reduceLT, isVoid, aNilCheck, aExtract, aInt, aStr, aConv, aSlice, asNat?, cutTight, aIndexAddr, aFieldAddr, aField, aIndex, aLoad, aStore, aAlloc, aBox, aBuild, aBuildSlice, aMakeSlice, aLen, aMax, aMin, aAppend, aCopy, aBuiltin, TD.isSlice, TD.isAgg, TD.known, TD.isSeq, partD, partOb, cellsAt, Blk.cells, if_true, if_false, splice, fillD, dl, byteD, Int.reduceBEq, beq_self_eq_true, retQ, retK, resD, resL, andR, elemCells, isByte, chunk, reduceCtorEq, okVal, okCell, List.replicate, ne_eq, Nat.reduceEqDiff, IntWalk.toNatUp]
    refine callP awake08 rfl ?_
    simp (disch := (first | omega | (simp only [List.length_take, List.length_drop, List.length_append, List.length_map, List.length_cons, List.length_nil]; done) | (simp only [List.length_take, List.length_drop, List.length_append, List.length_map, List.length_cons, List.length_nil]; omega))) only [W1, ↓W2, unbyte, implies_true, ← List.map_take, ← List.map_drop, bne_self_eq_false, eqCells, flatTD, Nat.reducePow, ayield, eq_self, exists_eq_left', exists_eq_left, Int.reduceLE, Int.reduceLT, Nat.reduceLeDiff, Int.reduceToNat, Int.reduceAdd, Int.reduceSub, Int.reduceMul, Int.reduceNeg, Int.reduceEq, argEnv, aeval, get, put, ofVal, ofVals, List.map, cond_true, cond_false, Nat.reduceBEq, nexts, allocs, countAllocs, pad, Nat.reduceAdd, Nat.reduceMul, Nat.reduceSub, Nat.reduceLT, isVoid, aNilCheck, aExtract, aInt, aStr, aConv, aSlice, asNat?, cutTight, aIndexAddr, aFieldAddr, aField, aIndex, aLoad, aStore, aAlloc, aBox, aBuild, aBuildSlice, aMakeSlice, aLen, aMax, aMin, aAppend, aCopy, aBuiltin, TD.isSlice, TD.isAgg, TD.known, TD.isSeq, partD, partOb, cellsAt, Blk.cells, if_true, if_false, splice, fillD, dl, byteD, Int.reduceBEq, beq_self_eq_true, retQ, retK, resD, resL, andR, elemCells, isByte, chunk, reduceCtorEq, okVal, okCell, List.replicate, ne_eq, Nat.reduceEqDiff, IntWalk.toNatUp]
    exact Sub.refl rfl
  simp (disch := (first | omega | (simp only [List.length_take, List.length_drop, List.length_append, List.length_map, List.length_cons, List.length_nil]; done) | (simp only [List.length_take, List.length_drop, List.length_append, List.length_map, List.length_cons, List.length_nil]; omega))) only [h3, W1, ↓W2, unbyte, implies_true, ← List.map_take, ← List.map_drop, bne_self_eq_false, eqCells, flatTD, Nat.reducePow, ayield, eq_self, exists_eq_left', exists_eq_left, Int.reduceLE, Int.reduceLT, Nat.reduceLeDiff, Int.reduceToNat, Int.reduceAdd, Int.reduceSub, Int.reduceMul, Int.reduceNeg, Int.reduceEq, argEnv, aeval, get, put, ofVal, ofVals, List.map, cond_true, cond_false, Nat.reduceBEq, nexts, allocs, countAllocs, pad, Nat.reduceAdd, Nat.reduceMul, Nat.reduceSub, Nat.reduceLT, isVoid, aNilCheck, aExtract, aInt, aStr, aConv, aSlice, asNat?, cutTight, aIndexAddr, aFieldAddr, aField, aIndex, aLoad, aStore, aAlloc, aBox, aBuild, aBuildSlice, aMakeSlice, aLen, aMax, aMin, aAppend, aCopy, aBuiltin, TD.isSlice, TD.isAgg, TD.known, TD.isSeq, partD, partOb, cellsAt, Blk.cells, if_true, if_false, splice, fillD, dl, byteD, Int.reduceBEq, beq_self_eq_true, retQ, retK, resD, resL, andR, elemCells, isByte, chunk, reduceCtorEq, okVal, okCell, List.replicate, ne_eq, Nat.reduceEqDiff, IntWalk.toNatUp]
  have h300 := of_decide_eq_false h3
  obtain ⟨n, hn⟩ : ∃ n : Nat, (1 : Int) + (every.toNat : Int) = n := ⟨1 + every.toNat, by omega⟩
  have hn0 : 0 < n := by omega
  have hn256 : n ≤ 256 := by omega
  simp (disch := (first | omega | (simp only [List.length_take, List.length_drop, List.length_append, List.length_map, List.length_cons, List.length_nil]; done) | (simp only [List.length_take, List.length_drop, List.length_append, List.length_map, List.length_cons, List.length_nil]; omega))) only [hn, W1, ↓W2, unbyte, implies_true, ← List.map_take, ← List.map_drop, bne_self_eq_false, eqCells, flatTD, Nat.reducePow, ayield, eq_self, exists_eq_left', exists_eq_left, Int.reduceLE, Int.reduceLT, Nat.reduceLeDiff, Int.reduceToNat, Int.reduceAdd, Int.reduceSub, Int.reduceMul, Int.reduceNeg, Int.reduceEq, argEnv, aeval, get, put, ofVal, ofVals, List.map, cond_true, cond_false, Nat.reduceBEq, nexts, allocs, countAllocs, pad, Nat.reduceAdd, Nat.reduceMul, Nat.reduceSub, Nat.reduceLT, isVoid, aNilCheck, aExtract, aInt, aStr, aConv, aSlice, asNat?, cutTight, aIndexAddr, aFieldAddr, aField, aIndex, aLoad, aStore, aAlloc, aBox, aBuild, aBuildSlice, aMakeSlice, aLen, aMax, aMin, aAppend, aCopy, aBuiltin, TD.isSlice, TD.isAgg, TD.known, TD.isSeq, partD, partOb, cellsAt, Blk.cells, if_true, if_false, splice, fillD, dl, byteD, Int.reduceBEq, beq_self_eq_true, retQ, retK, resD, resL, andR, elemCells, isByte, chunk, reduceCtorEq, okVal, okCell, List.replicate, ne_eq, Nat.reduceEqDiff, IntWalk.toNatUp]
  refine loopR (fun i : Nat => [(2, .sl 1 (sizes.map byteD) false), (7, .int .i64 b), (8, .int .i64 n), (9, .sl 2 ((keptK b n sizes i).map GMark.d) false), (10, allD i), (11, .int .i64 (posK sizes i)), (12, .int .i64 i)]) (allH b sizes) (fun i => i ≤ sizes.length) (fun i => sizes.length - i) 0 (Nat.zero_le _) ?_ ?_
  · refine .trans _ _ _ _ _ _ (.weak _ _ [(2, .sl 1 (sizes.map byteD) false), (7, .int .i64 b), (8, .int .i64 n), (9, .nil), (10, .nil), (11, .int .i64 0), (12, .int .i64 0)] ?_) (.le _ _ _ _ ⟨leD_refl _, leD_refl _, leD_refl _, .inl (show le1 .nil (.sl 2 (((List.range (numK n 0)).map fun q => mkK b sizes (q * n)).map GMark.d) false) from ?_), leD_refl _, leD_refl _, leD_refl _, trivial⟩ (leH_refl _))
    · simp [weaker, get, hn]
    · have : numK n 0 = 0 := by rw [numK_now n 0 hn0]; simp
      rw [this]
      exact le1_nil _ _
  intro i hi
  have hstep : ∀ h : i < sizes.length, posK sizes (i + 1) = posK sizes i + 1 + (sizes[i]).toNat := posK_step sizes i
  have hpos := posK_le sizes i hi
  have hkl := num_le n i hn0
  have hkl2 := num_le n (i + 1) hn0
  have hk := kept_step b n sizes i hn0 hb (by omega)
  have hlen := kept_len b n sizes i
  have hlen2 := kept_len b n sizes (i + 1)
  have hge : numK n i ≤ numK n (i + 1) ∧ numK n (i + 1) ≤ numK n i + 1 := by
    rw [numK_now n i hn0, numK_add n i hn0]
    split <;> omega
  have ecs : (mkK b sizes i).d = .agg [.int .i64 ((b : Int) + (i : Int)), .int .i64 (posK sizes i)] := rfl
  have hfl := flat_len GMark.d 2 (fun _ => rfl) (allK b sizes i)
  have hfa := flat_all GMark.d (fun _ => rfl) (allK b sizes i)
  have hft := flat_take GMark.d 2 (fun _ => rfl) (allK b sizes i)
  have hal := allK_len b sizes i
  rw [hal] at hfl hft
  have hgo : ∀ x : Nat, (decide ((numK n (i + 1) : Int) < numK n i) = false) ∧ decide ((numK n (i + 1) : Int) > (numK n i : Int) + 1) = false := fun _ => ⟨decide_eq_false (by omega), decide_eq_false (by omega)⟩
  have g1 := (hgo 0).1
  have g2 := (hgo 0).2
  have hR := kept_right b n sizes i hn0 hi
  have hnow := numK_now n i hn0
  have hq : (((i : Int) + (n : Int)) - 1) / (n : Int) = (numK n i : Int) := by
    unfold numK
    have : ((i : Int) + (n : Int)) - 1 = ((i + n - 1 : Nat) : Int) := by omega
    rw [this]
    norm_cast
  rcases Nat.eq_zero_or_pos i with h0 | h0
  · subst h0
    simp (disch := (first | omega | (simp only [List.length_take, List.length_drop, List.length_append, List.length_map, List.length_cons, List.length_nil]; done) | (simp only [List.length_take, List.length_drop, List.length_append, List.length_map, List.length_cons, List.length_nil]; omega))) only [show allD 0 = .nil from rfl, show allH b sizes 0 = [] from rfl, W1, ↓W2, unbyte, implies_true, ← List.map_take, ← List.map_drop, bne_self_eq_false, eqCells, flatTD, Nat.reducePow, ayield, eq_self, exists_eq_left', exists_eq_left, Int.reduceLE, Int.reduceLT, Nat.reduceLeDiff, Int.reduceToNat, Int.reduceAdd, Int.reduceSub, Int.reduceMul, Int.reduceNeg, Int.reduceEq, argEnv, aeval, get, put, ofVal, ofVals, List.map, cond_true, cond_false, Nat.reduceBEq, nexts, allocs, countAllocs, pad, Nat.reduceAdd, Nat.reduceMul, Nat.reduceSub, Nat.reduceLT, isVoid, aNilCheck, aExtract, aInt, aStr, aConv, aSlice, asNat?, cutTight, aIndexAddr, aFieldAddr, aField, aIndex, aLoad, aStore, aAlloc, aBox, aBuild, aBuildSlice, aMakeSlice, aLen, aMax, aMin, aAppend, aCopy, aBuiltin, TD.isSlice, TD.isAgg, TD.known, TD.isSeq, partD, partOb, cellsAt, Blk.cells, if_true, if_false, splice, fillD, dl, byteD, Int.reduceBEq, beq_self_eq_true, retQ, retK, resD, resL, andR, elemCells, isByte, chunk, reduceCtorEq, okVal, okCell, List.replicate, ne_eq, Nat.reduceEqDiff, IntWalk.toNatUp]
    refine acond_split ?_ ?_ <;> intro h1
    · have h1 := of_decide_eq_true h1
      have hs1 := hstep (by omega)
      have h8 := (sizes[0]'(by omega)).toNat_lt
      simp (disch := (first | omega | (simp only [List.length_take, List.length_drop, List.length_append, List.length_map, List.length_cons, List.length_nil]; done) | (simp only [List.length_take, List.length_drop, List.length_append, List.length_map, List.length_cons, List.length_nil]; omega))) only [W1, ↓W2, unbyte, implies_true, ← List.map_take, ← List.map_drop, bne_self_eq_false, eqCells, flatTD, Nat.reducePow, ayield, eq_self, exists_eq_left', exists_eq_left, Int.reduceLE, Int.reduceLT, Nat.reduceLeDiff, Int.reduceToNat, Int.reduceAdd, Int.reduceSub, Int.reduceMul, Int.reduceNeg, Int.reduceEq, argEnv, aeval, get, put, ofVal, ofVals, List.map, cond_true, cond_false, Nat.reduceBEq, nexts, allocs, countAllocs, pad, Nat.reduceAdd, Nat.reduceMul, Nat.reduceSub, Nat.reduceLT, isVoid, aNilCheck, aExtract, aInt, aStr, aConv, aSlice, asNat?, cutTight, aIndexAddr, aFieldAddr, aField, aIndex, aLoad, aStore, aAlloc, aBox, aBuild, aBuildSlice, aMakeSlice, aLen, aMax, aMin, aAppend, aCopy, aBuiltin, TD.isSlice, TD.isAgg, TD.known, TD.isSeq, partD, partOb, cellsAt, Blk.cells, if_true, if_false, splice, fillD, dl, byteD, Int.reduceBEq, beq_self_eq_true, retQ, retK, resD, resL, andR, elemCells, isByte, chunk, reduceCtorEq, okVal, okCell, List.replicate, ne_eq, Nat.reduceEqDiff, IntWalk.toNatUp]
      refine callP (add_ok (keptK b n sizes 0) b n (mkK b sizes 0) (by omega) (by omega)) (by simp only [List.all_cons, List.all_nil, ni_sl, ni_int, ni_bool, ni_str, ni_agg, ni_consL, ni_nilL, dl, byteD, noL _ GMark.noIds, GMark.d, Bool.and_self]) ?_
      simp (disch := (first | omega | (simp only [List.length_take, List.length_drop, List.length_append, List.length_map, List.length_cons, List.length_nil]; done) | (simp only [List.length_take, List.length_drop, List.length_append, List.length_map, List.length_cons, List.length_nil]; omega))) only [hk, hlen, hlen2, g1, g2, W1, ↓W2, unbyte, implies_true, ← List.map_take, ← List.map_drop, bne_self_eq_false, eqCells, flatTD, Nat.reducePow, ayield, eq_self, exists_eq_left', exists_eq_left, Int.reduceLE, Int.reduceLT, Nat.reduceLeDiff, Int.reduceToNat, Int.reduceAdd, Int.reduceSub, Int.reduceMul, Int.reduceNeg, Int.reduceEq, argEnv, aeval, get, put, ofVal, ofVals, List.map, cond_true, cond_false, Nat.reduceBEq, nexts, allocs, countAllocs, pad, Nat.reduceAdd, Nat.reduceMul, Nat.reduceSub, Nat.reduceLT, isVoid, aNilCheck, aExtract, aInt, aStr, aConv, aSlice, asNat?, cutTight, aIndexAddr, aFieldAddr, aField, aIndex, aLoad, aStore, aAlloc, aBox, aBuild, aBuildSlice, aMakeSlice, aLen, aMax, aMin, aAppend, aCopy, aBuiltin, TD.isSlice, TD.isAgg, TD.known, TD.isSeq, partD, partOb, cellsAt, Blk.cells, if_true, if_false, splice, fillD, dl, byteD, Int.reduceBEq, beq_self_eq_true, retQ, retK, resD, resL, andR, elemCells, isByte, chunk, reduceCtorEq, okVal, okCell, List.replicate, ne_eq, Nat.reduceEqDiff, IntWalk.toNatUp]
      have hHs : allH b sizes 1 = [.live (((allK b sizes 1).map GMark.d).flatMap D.cells)] := rfl
      refine ⟨0 + 1, by omega, by omega, fitsR [2] ?_ ?_ (by simp [hHs, liveIds]) rfl⟩
      · simp only [Int.natCast_add, Int.cast_ofNat_Int, fe_nil, fe_data, fe_ref, fe_ptr, fh_nil, fh_dead, fh_live, fh_froz, liveIds, ni_int, ni_bool, ni_str, ni_agg, ni_nil, ni_sl, ni_cp, ni_nilp, ni_fn, ni_nilf, ni_tup, ni_niface, ni_iface, ni_nilL, ni_consL, Bool.and_self, List.length_cons, List.length_nil, get, cond_true, cond_false, Nat.reduceBEq, List.getElem?_cons_zero, List.getElem?_cons_succ, true_and, and_true, eq_self, List.getD_cons_zero, List.getD_cons_succ, Nat.reduceAdd, Nat.reduceLT, noL _ GMark.noIds, noL byteD (fun _ => rfl), hs1, show allD 1 = .ref 0 0 1 2 from rfl]
      · simp only [Int.natCast_add, Int.cast_ofNat_Int, fe_nil, fe_data, fe_ref, fe_ptr, fh_nil, fh_dead, fh_live, fh_froz, liveIds, ni_int, ni_bool, ni_str, ni_agg, ni_nil, ni_sl, ni_cp, ni_nilp, ni_fn, ni_nilf, ni_tup, ni_niface, ni_iface, ni_nilL, ni_consL, Bool.and_self, List.length_cons, List.length_nil, get, cond_true, cond_false, Nat.reduceBEq, List.getElem?_cons_zero, List.getElem?_cons_succ, true_and, and_true, eq_self, List.getD_cons_zero, List.getD_cons_succ, Nat.reduceAdd, Nat.reduceLT, hHs, flat_noIds GMark.d (fun _ => rfl)]
        simp [allK, mkK, GMark.d, D.cells]
    · have hz : sizes = [] := by
        have := of_decide_eq_false h1
        exact List.length_eq_zero_iff.1 (by omega)
      subst hz
      have hz1 : numK n 0 = 0 := by rw [hnow]; simp
      have hz2 : ((0 : Int) + (n : Int) - 1) / (n : Int) = 0 := Int.ediv_eq_zero_of_lt (by omega) (by omega)
      have hk0 : keptK b n [] 0 = [] := by simp [keptK, hz1]
      simp (disch := (first | omega | (simp only [List.length_take, List.length_drop, List.length_append, List.length_map, List.length_cons, List.length_nil]; done) | (simp only [List.length_take, List.length_drop, List.length_append, List.length_map, List.length_cons, List.length_nil]; omega))) only [h1, hz1, hz2, hlen, W1, ↓W2, unbyte, implies_true, ← List.map_take, ← List.map_drop, bne_self_eq_false, eqCells, flatTD, Nat.reducePow, ayield, eq_self, exists_eq_left', exists_eq_left, Int.reduceLE, Int.reduceLT, Nat.reduceLeDiff, Int.reduceToNat, Int.reduceAdd, Int.reduceSub, Int.reduceMul, Int.reduceNeg, Int.reduceEq, argEnv, aeval, get, put, ofVal, ofVals, List.map, cond_true, cond_false, Nat.reduceBEq, nexts, allocs, countAllocs, pad, Nat.reduceAdd, Nat.reduceMul, Nat.reduceSub, Nat.reduceLT, isVoid, aNilCheck, aExtract, aInt, aStr, aConv, aSlice, asNat?, cutTight, aIndexAddr, aFieldAddr, aField, aIndex, aLoad, aStore, aAlloc, aBox, aBuild, aBuildSlice, aMakeSlice, aLen, aMax, aMin, aAppend, aCopy, aBuiltin, TD.isSlice, TD.isAgg, TD.known, TD.isSeq, partD, partOb, cellsAt, Blk.cells, if_true, if_false, splice, fillD, dl, byteD, Int.reduceBEq, beq_self_eq_true, retQ, retK, resD, resL, andR, elemCells, isByte, chunk, reduceCtorEq, okVal, okCell, List.replicate, ne_eq, Nat.reduceEqDiff, IntWalk.toNatUp]
      refine callP (right_ok _ (by rw [hlen, reach_lit]; omega)) (by simp only [List.all_cons, List.all_nil, ni_sl, ni_int, ni_bool, ni_str, ni_agg, ni_consL, ni_nilL, dl, byteD, noL _ GMark.noIds, Bool.and_self]) ?_
      simp (disch := (first | omega | (simp only [List.length_take, List.length_drop, List.length_append, List.length_map, List.length_cons, List.length_nil]; done) | (simp only [List.length_take, List.length_drop, List.length_append, List.length_map, List.length_cons, List.length_nil]; omega))) only [hR, W1, ↓W2, unbyte, implies_true, ← List.map_take, ← List.map_drop, bne_self_eq_false, eqCells, flatTD, Nat.reducePow, ayield, eq_self, exists_eq_left', exists_eq_left, Int.reduceLE, Int.reduceLT, Nat.reduceLeDiff, Int.reduceToNat, Int.reduceAdd, Int.reduceSub, Int.reduceMul, Int.reduceNeg, Int.reduceEq, argEnv, aeval, get, put, ofVal, ofVals, List.map, cond_true, cond_false, Nat.reduceBEq, nexts, allocs, countAllocs, pad, Nat.reduceAdd, Nat.reduceMul, Nat.reduceSub, Nat.reduceLT, isVoid, aNilCheck, aExtract, aInt, aStr, aConv, aSlice, asNat?, cutTight, aIndexAddr, aFieldAddr, aField, aIndex, aLoad, aStore, aAlloc, aBox, aBuild, aBuildSlice, aMakeSlice, aLen, aMax, aMin, aAppend, aCopy, aBuiltin, TD.isSlice, TD.isAgg, TD.known, TD.isSeq, partD, partOb, cellsAt, Blk.cells, if_true, if_false, splice, fillD, dl, byteD, Int.reduceBEq, beq_self_eq_true, retQ, retK, resD, resL, andR, elemCells, isByte, chunk, reduceCtorEq, okVal, okCell, List.replicate, ne_eq, Nat.reduceEqDiff, IntWalk.toNatUp]
      refine loopR (fun _ : Unit => [(7, .int .i64 b), (8, .int .i64 n), (9, .sl 2 ((keptK b n [] 0).map GMark.d) false), (10, .nil), (15, .int .i64 0)]) (fun _ => []) (fun _ => True) (fun _ => 0) () trivial ?_ ?_
      · refine fitsR [] ?_ ?_ (by simp [liveIds]) rfl
        · simp only [Int.natCast_add, Int.cast_ofNat_Int, fe_nil, fe_data, fe_ref, fe_ptr, fh_nil, fh_dead, fh_live, fh_froz, liveIds, ni_int, ni_bool, ni_str, ni_agg, ni_nil, ni_sl, ni_cp, ni_nilp, ni_fn, ni_nilf, ni_tup, ni_niface, ni_iface, ni_nilL, ni_consL, Bool.and_self, List.length_cons, List.length_nil, get, cond_true, cond_false, Nat.reduceBEq, List.getElem?_cons_zero, List.getElem?_cons_succ, true_and, and_true, eq_self, List.getD_cons_zero, List.getD_cons_succ, Nat.reduceAdd, Nat.reduceLT, noL _ GMark.noIds]
        · simp only [Int.natCast_add, Int.cast_ofNat_Int, fe_nil, fe_data, fe_ref, fe_ptr, fh_nil, fh_dead, fh_live, fh_froz, liveIds, ni_int, ni_bool, ni_str, ni_agg, ni_nil, ni_sl, ni_cp, ni_nilp, ni_fn, ni_nilf, ni_tup, ni_niface, ni_iface, ni_nilL, ni_consL, Bool.and_self, List.length_cons, List.length_nil, get, cond_true, cond_false, Nat.reduceBEq, List.getElem?_cons_zero, List.getElem?_cons_succ, true_and, and_true, eq_self, List.getD_cons_zero, List.getD_cons_succ, Nat.reduceAdd, Nat.reduceLT]
      intro _ _
      simp (disch := (first | omega | (simp only [List.length_take, List.length_drop, List.length_append, List.length_map, List.length_cons, List.length_nil]; done) | (simp only [List.length_take, List.length_drop, List.length_append, List.length_map, List.length_cons, List.length_nil]; omega))) only [W1, ↓W2, unbyte, implies_true, ← List.map_take, ← List.map_drop, bne_self_eq_false, eqCells, flatTD, Nat.reducePow, ayield, eq_self, exists_eq_left', exists_eq_left, Int.reduceLE, Int.reduceLT, Nat.reduceLeDiff, Int.reduceToNat, Int.reduceAdd, Int.reduceSub, Int.reduceMul, Int.reduceNeg, Int.reduceEq, argEnv, aeval, get, put, ofVal, ofVals, List.map, cond_true, cond_false, Nat.reduceBEq, nexts, allocs, countAllocs, pad, Nat.reduceAdd, Nat.reduceMul, Nat.reduceSub, Nat.reduceLT, isVoid, aNilCheck, aExtract, aInt, aStr, aConv, aSlice, asNat?, cutTight, aIndexAddr, aFieldAddr, aField, aIndex, aLoad, aStore, aAlloc, aBox, aBuild, aBuildSlice, aMakeSlice, aLen, aMax, aMin, aAppend, aCopy, aBuiltin, TD.isSlice, TD.isAgg, TD.known, TD.isSeq, partD, partOb, cellsAt, Blk.cells, if_true, if_false, splice, fillD, dl, byteD, Int.reduceBEq, beq_self_eq_true, retQ, retK, resD, resL, andR, elemCells, isByte, chunk, reduceCtorEq, okVal, okCell, List.replicate, ne_eq, Nat.reduceEqDiff, IntWalk.toNatUp]
      have hno := kept_none b n [] 0
      refine callP (find_ok _ _ (by rw [hlen, reach_lit]; omega) hR) (by simp only [List.all_cons, List.all_nil, ni_sl, ni_int, ni_bool, ni_str, ni_agg, ni_consL, ni_nilL, dl, byteD, noL _ GMark.noIds, Bool.and_self]) ?_
      simp (disch := (first | omega | (simp only [List.length_take, List.length_drop, List.length_append, List.length_map, List.length_cons, List.length_nil]; done) | (simp only [List.length_take, List.length_drop, List.length_append, List.length_map, List.length_cons, List.length_nil]; omega))) only [hno, GMark.d, W1, ↓W2, unbyte, implies_true, ← List.map_take, ← List.map_drop, bne_self_eq_false, eqCells, flatTD, Nat.reducePow, ayield, eq_self, exists_eq_left', exists_eq_left, Int.reduceLE, Int.reduceLT, Nat.reduceLeDiff, Int.reduceToNat, Int.reduceAdd, Int.reduceSub, Int.reduceMul, Int.reduceNeg, Int.reduceEq, argEnv, aeval, get, put, ofVal, ofVals, List.map, cond_true, cond_false, Nat.reduceBEq, nexts, allocs, countAllocs, pad, Nat.reduceAdd, Nat.reduceMul, Nat.reduceSub, Nat.reduceLT, isVoid, aNilCheck, aExtract, aInt, aStr, aConv, aSlice, asNat?, cutTight, aIndexAddr, aFieldAddr, aField, aIndex, aLoad, aStore, aAlloc, aBox, aBuild, aBuildSlice, aMakeSlice, aLen, aMax, aMin, aAppend, aCopy, aBuiltin, TD.isSlice, TD.isAgg, TD.known, TD.isSeq, partD, partOb, cellsAt, Blk.cells, if_true, if_false, splice, fillD, dl, byteD, Int.reduceBEq, beq_self_eq_true, retQ, retK, resD, resL, andR, elemCells, isByte, chunk, reduceCtorEq, okVal, okCell, List.replicate, ne_eq, Nat.reduceEqDiff, IntWalk.toNatUp]
      refine callP awake08 rfl ?_
      simp (disch := (first | omega | (simp only [List.length_take, List.length_drop, List.length_append, List.length_map, List.length_cons, List.length_nil]; done) | (simp only [List.length_take, List.length_drop, List.length_append, List.length_map, List.length_cons, List.length_nil]; omega))) only [W1, ↓W2, unbyte, implies_true, ← List.map_take, ← List.map_drop, bne_self_eq_false, eqCells, flatTD, Nat.reducePow, ayield, eq_self, exists_eq_left', exists_eq_left, Int.reduceLE, Int.reduceLT, Nat.reduceLeDiff, Int.reduceToNat, Int.reduceAdd, Int.reduceSub, Int.reduceMul, Int.reduceNeg, Int.reduceEq, argEnv, aeval, get, put, ofVal, ofVals, List.map, cond_true, cond_false, Nat.reduceBEq, nexts, allocs, countAllocs, pad, Nat.reduceAdd, Nat.reduceMul, Nat.reduceSub, Nat.reduceLT, isVoid, aNilCheck, aExtract, aInt, aStr, aConv, aSlice, asNat?, cutTight, aIndexAddr, aFieldAddr, aField, aIndex, aLoad, aStore, aAlloc, aBox, aBuild, aBuildSlice, aMakeSlice, aLen, aMax, aMin, aAppend, aCopy, aBuiltin, TD.isSlice, TD.isAgg, TD.known, TD.isSeq, partD, partOb, cellsAt, Blk.cells, if_true, if_false, splice, fillD, dl, byteD, Int.reduceBEq, beq_self_eq_true, retQ, retK, resD, resL, andR, elemCells, isByte, chunk, reduceCtorEq, okVal, okCell, List.replicate, ne_eq, Nat.reduceEqDiff, IntWalk.toNatUp]
      exact Sub.refl rfl
  · have hD : allD i = .ref 0 0 i 2 := if_neg (by omega)
    have hH : allH b sizes i = [.live (((allK b sizes i).map GMark.d).flatMap D.cells)] := if_neg (by omega)
    simp (disch := (first | omega | (simp only [List.length_take, List.length_drop, List.length_append, List.length_map, List.length_cons, List.length_nil]; done) | (simp only [List.length_take, List.length_drop, List.length_append, List.length_map, List.length_cons, List.length_nil]; omega))) only [hD, hH, W1, ↓W2, unbyte, implies_true, ← List.map_take, ← List.map_drop, bne_self_eq_false, eqCells, flatTD, Nat.reducePow, ayield, eq_self, exists_eq_left', exists_eq_left, Int.reduceLE, Int.reduceLT, Nat.reduceLeDiff, Int.reduceToNat, Int.reduceAdd, Int.reduceSub, Int.reduceMul, Int.reduceNeg, Int.reduceEq, argEnv, aeval, get, put, ofVal, ofVals, List.map, cond_true, cond_false, Nat.reduceBEq, nexts, allocs, countAllocs, pad, Nat.reduceAdd, Nat.reduceMul, Nat.reduceSub, Nat.reduceLT, isVoid, aNilCheck, aExtract, aInt, aStr, aConv, aSlice, asNat?, cutTight, aIndexAddr, aFieldAddr, aField, aIndex, aLoad, aStore, aAlloc, aBox, aBuild, aBuildSlice, aMakeSlice, aLen, aMax, aMin, aAppend, aCopy, aBuiltin, TD.isSlice, TD.isAgg, TD.known, TD.isSeq, partD, partOb, cellsAt, Blk.cells, if_true, if_false, splice, fillD, dl, byteD, Int.reduceBEq, beq_self_eq_true, retQ, retK, resD, resL, andR, elemCells, isByte, chunk, reduceCtorEq, okVal, okCell, List.replicate, ne_eq, Nat.reduceEqDiff, IntWalk.toNatUp]
    refine acond_split ?_ ?_ <;> intro h1
    · have h1 := of_decide_eq_true h1
      have hs1 := hstep (by omega)
      have h8 := (sizes[i]'(by omega)).toNat_lt
      simp (disch := (first | omega | (simp only [List.length_take, List.length_drop, List.length_append, List.length_map, List.length_cons, List.length_nil]; done) | (simp only [List.length_take, List.length_drop, List.length_append, List.length_map, List.length_cons, List.length_nil]; omega))) only [W1, ↓W2, unbyte, implies_true, ← List.map_take, ← List.map_drop, bne_self_eq_false, eqCells, flatTD, Nat.reducePow, ayield, eq_self, exists_eq_left', exists_eq_left, Int.reduceLE, Int.reduceLT, Nat.reduceLeDiff, Int.reduceToNat, Int.reduceAdd, Int.reduceSub, Int.reduceMul, Int.reduceNeg, Int.reduceEq, argEnv, aeval, get, put, ofVal, ofVals, List.map, cond_true, cond_false, Nat.reduceBEq, nexts, allocs, countAllocs, pad, Nat.reduceAdd, Nat.reduceMul, Nat.reduceSub, Nat.reduceLT, isVoid, aNilCheck, aExtract, aInt, aStr, aConv, aSlice, asNat?, cutTight, aIndexAddr, aFieldAddr, aField, aIndex, aLoad, aStore, aAlloc, aBox, aBuild, aBuildSlice, aMakeSlice, aLen, aMax, aMin, aAppend, aCopy, aBuiltin, TD.isSlice, TD.isAgg, TD.known, TD.isSeq, partD, partOb, cellsAt, Blk.cells, if_true, if_false, splice, fillD, dl, byteD, Int.reduceBEq, beq_self_eq_true, retQ, retK, resD, resL, andR, elemCells, isByte, chunk, reduceCtorEq, okVal, okCell, List.replicate, ne_eq, Nat.reduceEqDiff, IntWalk.toNatUp]
      refine callP (add_ok (keptK b n sizes i) b n (mkK b sizes i) (by omega) (by omega)) (by simp only [List.all_cons, List.all_nil, ni_sl, ni_int, ni_bool, ni_str, ni_agg, ni_consL, ni_nilL, dl, byteD, noL _ GMark.noIds, GMark.d, Bool.and_self]) ?_
      simp (disch := (first | omega | (simp only [List.length_take, List.length_drop, List.length_append, List.length_map, List.length_cons, List.length_nil]; done) | (simp only [List.length_take, List.length_drop, List.length_append, List.length_map, List.length_cons, List.length_nil]; omega))) only [hk, hlen, hlen2, g1, g2, hft, hfl, hfa, W1, ↓W2, unbyte, implies_true, ← List.map_take, ← List.map_drop, bne_self_eq_false, eqCells, flatTD, Nat.reducePow, ayield, eq_self, exists_eq_left', exists_eq_left, Int.reduceLE, Int.reduceLT, Nat.reduceLeDiff, Int.reduceToNat, Int.reduceAdd, Int.reduceSub, Int.reduceMul, Int.reduceNeg, Int.reduceEq, argEnv, aeval, get, put, ofVal, ofVals, List.map, cond_true, cond_false, Nat.reduceBEq, nexts, allocs, countAllocs, pad, Nat.reduceAdd, Nat.reduceMul, Nat.reduceSub, Nat.reduceLT, isVoid, aNilCheck, aExtract, aInt, aStr, aConv, aSlice, asNat?, cutTight, aIndexAddr, aFieldAddr, aField, aIndex, aLoad, aStore, aAlloc, aBox, aBuild, aBuildSlice, aMakeSlice, aLen, aMax, aMin, aAppend, aCopy, aBuiltin, TD.isSlice, TD.isAgg, TD.known, TD.isSeq, partD, partOb, cellsAt, Blk.cells, if_true, if_false, splice, fillD, dl, byteD, Int.reduceBEq, beq_self_eq_true, retQ, retK, resD, resL, andR, elemCells, isByte, chunk, reduceCtorEq, okVal, okCell, List.replicate, ne_eq, Nat.reduceEqDiff, IntWalk.toNatUp]
      have hHs : allH b sizes (i + 1) = [.live (((allK b sizes (i + 1)).map GMark.d).flatMap D.cells)] := if_neg (by omega)
      refine ⟨i + 1, by omega, by omega, fitsR [3] ?_ ?_ (by simp [hHs, liveIds]) rfl⟩
      · simp only [Int.natCast_add, Int.cast_ofNat_Int, fe_nil, fe_data, fe_ref, fe_ptr, fh_nil, fh_dead, fh_live, fh_froz, liveIds, ni_int, ni_bool, ni_str, ni_agg, ni_nil, ni_sl, ni_cp, ni_nilp, ni_fn, ni_nilf, ni_tup, ni_niface, ni_iface, ni_nilL, ni_consL, Bool.and_self, List.length_cons, List.length_nil, get, cond_true, cond_false, Nat.reduceBEq, List.getElem?_cons_zero, List.getElem?_cons_succ, true_and, and_true, eq_self, List.getD_cons_zero, List.getD_cons_succ, Nat.reduceAdd, Nat.reduceLT, noL _ GMark.noIds, noL byteD (fun _ => rfl), hs1, show allD (i + 1) = .ref 0 0 (i + 1) 2 from if_neg (by omega)]
      · simp only [Int.natCast_add, Int.cast_ofNat_Int, fe_nil, fe_data, fe_ref, fe_ptr, fh_nil, fh_dead, fh_live, fh_froz, liveIds, ni_int, ni_bool, ni_str, ni_agg, ni_nil, ni_sl, ni_cp, ni_nilp, ni_fn, ni_nilf, ni_tup, ni_niface, ni_iface, ni_nilL, ni_consL, Bool.and_self, List.length_cons, List.length_nil, get, cond_true, cond_false, Nat.reduceBEq, List.getElem?_cons_zero, List.getElem?_cons_succ, true_and, and_true, eq_self, List.getD_cons_zero, List.getD_cons_succ, Nat.reduceAdd, Nat.reduceLT, hHs, flat_noIds GMark.d (fun _ => rfl)]
        simp only [allK_step, List.map_append, List.flatMap_append, List.map, List.flatMap_cons, List.flatMap_nil, ecs, D.cells, List.append_nil]
    · have hz : i = sizes.length := by have := of_decide_eq_false h1; omega
      subst hz
      simp (disch := (first | omega | (simp only [List.length_take, List.length_drop, List.length_append, List.length_map, List.length_cons, List.length_nil]; done) | (simp only [List.length_take, List.length_drop, List.length_append, List.length_map, List.length_cons, List.length_nil]; omega))) only [h1, hlen, hq, W1, ↓W2, unbyte, implies_true, ← List.map_take, ← List.map_drop, bne_self_eq_false, eqCells, flatTD, Nat.reducePow, ayield, eq_self, exists_eq_left', exists_eq_left, Int.reduceLE, Int.reduceLT, Nat.reduceLeDiff, Int.reduceToNat, Int.reduceAdd, Int.reduceSub, Int.reduceMul, Int.reduceNeg, Int.reduceEq, argEnv, aeval, get, put, ofVal, ofVals, List.map, cond_true, cond_false, Nat.reduceBEq, nexts, allocs, countAllocs, pad, Nat.reduceAdd, Nat.reduceMul, Nat.reduceSub, Nat.reduceLT, isVoid, aNilCheck, aExtract, aInt, aStr, aConv, aSlice, asNat?, cutTight, aIndexAddr, aFieldAddr, aField, aIndex, aLoad, aStore, aAlloc, aBox, aBuild, aBuildSlice, aMakeSlice, aLen, aMax, aMin, aAppend, aCopy, aBuiltin, TD.isSlice, TD.isAgg, TD.known, TD.isSeq, partD, partOb, cellsAt, Blk.cells, if_true, if_false, splice, fillD, dl, byteD, Int.reduceBEq, beq_self_eq_true, retQ, retK, resD, resL, andR, elemCells, isByte, chunk, reduceCtorEq, okVal, okCell, List.replicate, ne_eq, Nat.reduceEqDiff, IntWalk.toNatUp]
      refine callP (right_ok _ (by rw [hlen, reach_lit]; omega)) (by simp only [List.all_cons, List.all_nil, ni_sl, ni_int, ni_bool, ni_str, ni_agg, ni_consL, ni_nilL, dl, byteD, noL _ GMark.noIds, Bool.and_self]) ?_
      simp (disch := (first | omega | (simp only [List.length_take, List.length_drop, List.length_append, List.length_map, List.length_cons, List.length_nil]; done) | (simp only [List.length_take, List.length_drop, List.length_append, List.length_map, List.length_cons, List.length_nil]; omega))) only [hR, W1, ↓W2, unbyte, implies_true, ← List.map_take, ← List.map_drop, bne_self_eq_false, eqCells, flatTD, Nat.reducePow, ayield, eq_self, exists_eq_left', exists_eq_left, Int.reduceLE, Int.reduceLT, Nat.reduceLeDiff, Int.reduceToNat, Int.reduceAdd, Int.reduceSub, Int.reduceMul, Int.reduceNeg, Int.reduceEq, argEnv, aeval, get, put, ofVal, ofVals, List.map, cond_true, cond_false, Nat.reduceBEq, nexts, allocs, countAllocs, pad, Nat.reduceAdd, Nat.reduceMul, Nat.reduceSub, Nat.reduceLT, isVoid, aNilCheck, aExtract, aInt, aStr, aConv, aSlice, asNat?, cutTight, aIndexAddr, aFieldAddr, aField, aIndex, aLoad, aStore, aAlloc, aBox, aBuild, aBuildSlice, aMakeSlice, aLen, aMax, aMin, aAppend, aCopy, aBuiltin, TD.isSlice, TD.isAgg, TD.known, TD.isSeq, partD, partOb, cellsAt, Blk.cells, if_true, if_false, splice, fillD, dl, byteD, Int.reduceBEq, beq_self_eq_true, retQ, retK, resD, resL, andR, elemCells, isByte, chunk, reduceCtorEq, okVal, okCell, List.replicate, ne_eq, Nat.reduceEqDiff, IntWalk.toNatUp]
      refine loopR (fun i : Nat => [(7, .int .i64 b), (8, .int .i64 n), (9, .sl 2 ((keptK b n sizes sizes.length).map GMark.d) false), (10, .ref 0 0 sizes.length 2), (15, .int .i64 i)]) (fun _ => [.live (((allK b sizes sizes.length).map GMark.d).flatMap D.cells)]) (fun i => i ≤ sizes.length) (fun i => sizes.length - i) 0 (Nat.zero_le _) ?_ ?_
      · refine fitsR [0] ?_ ?_ (by simp [liveIds]) rfl
        · simp only [Int.natCast_add, Int.cast_ofNat_Int, fe_nil, fe_data, fe_ref, fe_ptr, fh_nil, fh_dead, fh_live, fh_froz, liveIds, ni_int, ni_bool, ni_str, ni_agg, ni_nil, ni_sl, ni_cp, ni_nilp, ni_fn, ni_nilf, ni_tup, ni_niface, ni_iface, ni_nilL, ni_consL, Bool.and_self, List.length_cons, List.length_nil, get, cond_true, cond_false, Nat.reduceBEq, List.getElem?_cons_zero, List.getElem?_cons_succ, true_and, and_true, eq_self, List.getD_cons_zero, List.getD_cons_succ, Nat.reduceAdd, Nat.reduceLT, noL _ GMark.noIds]
        · simp only [Int.natCast_add, Int.cast_ofNat_Int, fe_nil, fe_data, fe_ref, fe_ptr, fh_nil, fh_dead, fh_live, fh_froz, liveIds, ni_int, ni_bool, ni_str, ni_agg, ni_nil, ni_sl, ni_cp, ni_nilp, ni_fn, ni_nilf, ni_tup, ni_niface, ni_iface, ni_nilL, ni_consL, Bool.and_self, List.length_cons, List.length_nil, get, cond_true, cond_false, Nat.reduceBEq, List.getElem?_cons_zero, List.getElem?_cons_succ, true_and, and_true, eq_self, List.getD_cons_zero, List.getD_cons_succ, Nat.reduceAdd, Nat.reduceLT, flat_noIds GMark.d (fun _ => rfl)]
      intro i hi
      simp (disch := (first | omega | (simp only [List.length_take, List.length_drop, List.length_append, List.length_map, List.length_cons, List.length_nil]; done) | (simp only [List.length_take, List.length_drop, List.length_append, List.length_map, List.length_cons, List.length_nil]; omega))) only [W1, ↓W2, unbyte, implies_true, ← List.map_take, ← List.map_drop, bne_self_eq_false, eqCells, flatTD, Nat.reducePow, ayield, eq_self, exists_eq_left', exists_eq_left, Int.reduceLE, Int.reduceLT, Nat.reduceLeDiff, Int.reduceToNat, Int.reduceAdd, Int.reduceSub, Int.reduceMul, Int.reduceNeg, Int.reduceEq, argEnv, aeval, get, put, ofVal, ofVals, List.map, cond_true, cond_false, Nat.reduceBEq, nexts, allocs, countAllocs, pad, Nat.reduceAdd, Nat.reduceMul, Nat.reduceSub, Nat.reduceLT, isVoid, aNilCheck, aExtract, aInt, aStr, aConv, aSlice, asNat?, cutTight, aIndexAddr, aFieldAddr, aField, aIndex, aLoad, aStore, aAlloc, aBox, aBuild, aBuildSlice, aMakeSlice, aLen, aMax, aMin, aAppend, aCopy, aBuiltin, TD.isSlice, TD.isAgg, TD.known, TD.isSeq, partD, partOb, cellsAt, Blk.cells, if_true, if_false, splice, fillD, dl, byteD, Int.reduceBEq, beq_self_eq_true, retQ, retK, resD, resL, andR, elemCells, isByte, chunk, reduceCtorEq, okVal, okCell, List.replicate, ne_eq, Nat.reduceEqDiff, IntWalk.toNatUp]
      refine acond_split ?_ ?_ <;> intro h2
      · have h2 := of_decide_eq_true h2
        have hin : i < sizes.length := by omega
        have hg0 := flat_getD GMark.d 2 (fun _ => rfl) (allK b sizes sizes.length) i 0 (by rw [hal]; exact hin) (by decide) .any
        rw [Nat.add_zero] at hg0
        have hgi : (allK b sizes sizes.length)[i]'(by rw [hal]; exact hin) = mkK b sizes i := by simp [allK]
        rw [hgi] at hg0
        have hg0 : (((allK b sizes sizes.length).map GMark.d).flatMap D.cells).getD (i * 2) .any = .int .i64 ((b : Int) + i) := hg0
        simp (disch := (first | omega | (simp only [List.length_take, List.length_drop, List.length_append, List.length_map, List.length_cons, List.length_nil]; done) | (simp only [List.length_take, List.length_drop, List.length_append, List.length_map, List.length_cons, List.length_nil]; omega))) only [hfl, Nat.zero_add, Nat.add_zero, hg0, W1, ↓W2, unbyte, implies_true, ← List.map_take, ← List.map_drop, bne_self_eq_false, eqCells, flatTD, Nat.reducePow, ayield, eq_self, exists_eq_left', exists_eq_left, Int.reduceLE, Int.reduceLT, Nat.reduceLeDiff, Int.reduceToNat, Int.reduceAdd, Int.reduceSub, Int.reduceMul, Int.reduceNeg, Int.reduceEq, argEnv, aeval, get, put, ofVal, ofVals, List.map, cond_true, cond_false, Nat.reduceBEq, nexts, allocs, countAllocs, pad, Nat.reduceAdd, Nat.reduceMul, Nat.reduceSub, Nat.reduceLT, isVoid, aNilCheck, aExtract, aInt, aStr, aConv, aSlice, asNat?, cutTight, aIndexAddr, aFieldAddr, aField, aIndex, aLoad, aStore, aAlloc, aBox, aBuild, aBuildSlice, aMakeSlice, aLen, aMax, aMin, aAppend, aCopy, aBuiltin, TD.isSlice, TD.isAgg, TD.known, TD.isSeq, partD, partOb, cellsAt, Blk.cells, if_true, if_false, splice, fillD, dl, byteD, Int.reduceBEq, beq_self_eq_true, retQ, retK, resD, resL, andR, elemCells, isByte, chunk, reduceCtorEq, okVal, okCell, List.replicate, ne_eq, Nat.reduceEqDiff, IntWalk.toNatUp]
        refine callP (find_ok _ _ (by rw [hlen, reach_lit]; omega) hR) (by simp only [List.all_cons, List.all_nil, ni_sl, ni_int, ni_bool, ni_str, ni_agg, ni_consL, ni_nilL, dl, byteD, noL _ GMark.noIds, Bool.and_self]) ?_
        have hfd := kept_find b n sizes i hn0 hin
        have hdm := Nat.div_add_mod i n
        have hmm := Nat.mul_comm n (i / n)
        have hml := Nat.mod_lt i hn0
        obtain ⟨k, hk2⟩ : ∃ k, k = i / n * n := ⟨_, rfl⟩
        rw [← hk2] at hfd
        have hki : k ≤ i := by omega
        have c1 : decide ((k : Int) < 0) = false := decide_eq_false (by omega)
        have c2 : decide ((k : Int) > (i : Int)) = false := decide_eq_false (by omega)
        have c3 : decide ((i : Int) - (k : Int) ≥ (n : Int)) = false := decide_eq_false (by omega)
        have hbk : (b : Int) + (k : Int) - (b : Int) = k := by omega
        have hgk := flat_row GMark.d 2 (fun _ => rfl) (allK b sizes sizes.length) k (by rw [hal]; omega)
        have hgi : (allK b sizes sizes.length)[k]'(by rw [hal]; omega) = mkK b sizes k := by simp [allK]
        rw [hgi] at hgk
        have hgk : ((((allK b sizes sizes.length).map GMark.d).flatMap D.cells).drop (k * 2)).take 2 = [.int .i64 ((b : Int) + (k : Int)), .int .i64 (posK sizes k)] := hgk
        have eck : (mkK b sizes k).d = .agg [.int .i64 ((b : Int) + (k : Int)), .int .i64 (posK sizes k)] := rfl
        have eck1 : (mkK b sizes k).off = (b : Int) + (k : Int) := rfl
        simp (disch := (first | omega | (simp only [List.length_take, List.length_drop, List.length_append, List.length_map, List.length_cons, List.length_nil]; done) | (simp only [List.length_take, List.length_drop, List.length_append, List.length_map, List.length_cons, List.length_nil]; omega))) only [hfd, eck, hbk, W1, ↓W2, unbyte, implies_true, ← List.map_take, ← List.map_drop, bne_self_eq_false, eqCells, flatTD, Nat.reducePow, ayield, eq_self, exists_eq_left', exists_eq_left, Int.reduceLE, Int.reduceLT, Nat.reduceLeDiff, Int.reduceToNat, Int.reduceAdd, Int.reduceSub, Int.reduceMul, Int.reduceNeg, Int.reduceEq, argEnv, aeval, get, put, ofVal, ofVals, List.map, cond_true, cond_false, Nat.reduceBEq, nexts, allocs, countAllocs, pad, Nat.reduceAdd, Nat.reduceMul, Nat.reduceSub, Nat.reduceLT, isVoid, aNilCheck, aExtract, aInt, aStr, aConv, aSlice, asNat?, cutTight, aIndexAddr, aFieldAddr, aField, aIndex, aLoad, aStore, aAlloc, aBox, aBuild, aBuildSlice, aMakeSlice, aLen, aMax, aMin, aAppend, aCopy, aBuiltin, TD.isSlice, TD.isAgg, TD.known, TD.isSeq, partD, partOb, cellsAt, Blk.cells, if_true, if_false, splice, fillD, dl, byteD, Int.reduceBEq, beq_self_eq_true, retQ, retK, resD, resL, andR, elemCells, isByte, chunk, reduceCtorEq, okVal, okCell, List.replicate, ne_eq, Nat.reduceEqDiff, IntWalk.toNatUp]
        refine draw_fast 0 ?_ ?_
        · decide +kernel
        simp (disch := (first | omega | (simp only [List.length_take, List.length_drop, List.length_append, List.length_map, List.length_cons, List.length_nil]; done) | (simp only [List.length_take, List.length_drop, List.length_append, List.length_map, List.length_cons, List.length_nil]; omega))) only [c1, c2, c3, hfl, Nat.zero_add, Nat.add_zero, hgk, W1, ↓W2, unbyte, implies_true, ← List.map_take, ← List.map_drop, bne_self_eq_false, eqCells, flatTD, Nat.reducePow, ayield, eq_self, exists_eq_left', exists_eq_left, Int.reduceLE, Int.reduceLT, Nat.reduceLeDiff, Int.reduceToNat, Int.reduceAdd, Int.reduceSub, Int.reduceMul, Int.reduceNeg, Int.reduceEq, argEnv, aeval, get, put, ofVal, ofVals, List.map, cond_true, cond_false, Nat.reduceBEq, nexts, allocs, countAllocs, pad, Nat.reduceAdd, Nat.reduceMul, Nat.reduceSub, Nat.reduceLT, isVoid, aNilCheck, aExtract, aInt, aStr, aConv, aSlice, asNat?, cutTight, aIndexAddr, aFieldAddr, aField, aIndex, aLoad, aStore, aAlloc, aBox, aBuild, aBuildSlice, aMakeSlice, aLen, aMax, aMin, aAppend, aCopy, aBuiltin, TD.isSlice, TD.isAgg, TD.known, TD.isSeq, partD, partOb, cellsAt, Blk.cells, if_true, if_false, splice, fillD, dl, byteD, Int.reduceBEq, beq_self_eq_true, retQ, retK, resD, resL, andR, elemCells, isByte, chunk, reduceCtorEq, okVal, okCell, List.replicate, ne_eq, Nat.reduceEqDiff, IntWalk.toNatUp]
        refine tend_fast ?_ ?_
        · decide +kernel
        simp (disch := (first | omega | (simp only [List.length_take, List.length_drop, List.length_append, List.length_map, List.length_cons, List.length_nil]; done) | (simp only [List.length_take, List.length_drop, List.length_append, List.length_map, List.length_cons, List.length_nil]; omega))) only [W1, ↓W2, unbyte, implies_true, ← List.map_take, ← List.map_drop, bne_self_eq_false, eqCells, flatTD, Nat.reducePow, ayield, eq_self, exists_eq_left', exists_eq_left, Int.reduceLE, Int.reduceLT, Nat.reduceLeDiff, Int.reduceToNat, Int.reduceAdd, Int.reduceSub, Int.reduceMul, Int.reduceNeg, Int.reduceEq, argEnv, aeval, get, put, ofVal, ofVals, List.map, cond_true, cond_false, Nat.reduceBEq, nexts, allocs, countAllocs, pad, Nat.reduceAdd, Nat.reduceMul, Nat.reduceSub, Nat.reduceLT, isVoid, aNilCheck, aExtract, aInt, aStr, aConv, aSlice, asNat?, cutTight, aIndexAddr, aFieldAddr, aField, aIndex, aLoad, aStore, aAlloc, aBox, aBuild, aBuildSlice, aMakeSlice, aLen, aMax, aMin, aAppend, aCopy, aBuiltin, TD.isSlice, TD.isAgg, TD.known, TD.isSeq, partD, partOb, cellsAt, Blk.cells, if_true, if_false, splice, fillD, dl, byteD, Int.reduceBEq, beq_self_eq_true, retQ, retK, resD, resL, andR, elemCells, isByte, chunk, reduceCtorEq, okVal, okCell, List.replicate, ne_eq, Nat.reduceEqDiff, IntWalk.toNatUp]
        refine ⟨i + 1, by omega, by omega, fitsR [0] ?_ ?_ (by simp [liveIds]) rfl⟩
        · simp only [Int.natCast_add, Int.cast_ofNat_Int, fe_nil, fe_data, fe_ref, fe_ptr, fh_nil, fh_dead, fh_live, fh_froz, liveIds, ni_int, ni_bool, ni_str, ni_agg, ni_nil, ni_sl, ni_cp, ni_nilp, ni_fn, ni_nilf, ni_tup, ni_niface, ni_iface, ni_nilL, ni_consL, Bool.and_self, List.length_cons, List.length_nil, get, cond_true, cond_false, Nat.reduceBEq, List.getElem?_cons_zero, List.getElem?_cons_succ, true_and, and_true, eq_self, List.getD_cons_zero, List.getD_cons_succ, Nat.reduceAdd, Nat.reduceLT, noL _ GMark.noIds]
        · simp only [Int.natCast_add, Int.cast_ofNat_Int, fe_nil, fe_data, fe_ref, fe_ptr, fh_nil, fh_dead, fh_live, fh_froz, liveIds, ni_int, ni_bool, ni_str, ni_agg, ni_nil, ni_sl, ni_cp, ni_nilp, ni_fn, ni_nilf, ni_tup, ni_niface, ni_iface, ni_nilL, ni_consL, Bool.and_self, List.length_cons, List.length_nil, get, cond_true, cond_false, Nat.reduceBEq, List.getElem?_cons_zero, List.getElem?_cons_succ, true_and, and_true, eq_self, List.getD_cons_zero, List.getD_cons_succ, Nat.reduceAdd, Nat.reduceLT, flat_noIds GMark.d (fun _ => rfl)]
      · simp (disch := (first | omega | (simp only [List.length_take, List.length_drop, List.length_append, List.length_map, List.length_cons, List.length_nil]; done) | (simp only [List.length_take, List.length_drop, List.length_append, List.length_map, List.length_cons, List.length_nil]; omega))) only [h2, W1, ↓W2, unbyte, implies_true, ← List.map_take, ← List.map_drop, bne_self_eq_false, eqCells, flatTD, Nat.reducePow, ayield, eq_self, exists_eq_left', exists_eq_left, Int.reduceLE, Int.reduceLT, Nat.reduceLeDiff, Int.reduceToNat, Int.reduceAdd, Int.reduceSub, Int.reduceMul, Int.reduceNeg, Int.reduceEq, argEnv, aeval, get, put, ofVal, ofVals, List.map, cond_true, cond_false, Nat.reduceBEq, nexts, allocs, countAllocs, pad, Nat.reduceAdd, Nat.reduceMul, Nat.reduceSub, Nat.reduceLT, isVoid, aNilCheck, aExtract, aInt, aStr, aConv, aSlice, asNat?, cutTight, aIndexAddr, aFieldAddr, aField, aIndex, aLoad, aStore, aAlloc, aBox, aBuild, aBuildSlice, aMakeSlice, aLen, aMax, aMin, aAppend, aCopy, aBuiltin, TD.isSlice, TD.isAgg, TD.known, TD.isSeq, partD, partOb, cellsAt, Blk.cells, if_true, if_false, splice, fillD, dl, byteD, Int.reduceBEq, beq_self_eq_true, retQ, retK, resD, resL, andR, elemCells, isByte, chunk, reduceCtorEq, okVal, okCell, List.replicate, ne_eq, Nat.reduceEqDiff, IntWalk.toNatUp]
        have hno := kept_none b n sizes sizes.length
        refine callP (find_ok _ _ (by rw [hlen, reach_lit]; omega) hR) (by simp only [List.all_cons, List.all_nil, ni_sl, ni_int, ni_bool, ni_str, ni_agg, ni_consL, ni_nilL, dl, byteD, noL _ GMark.noIds, Bool.and_self]) ?_
        simp (disch := (first | omega | (simp only [List.length_take, List.length_drop, List.length_append, List.length_map, List.length_cons, List.length_nil]; done) | (simp only [List.length_take, List.length_drop, List.length_append, List.length_map, List.length_cons, List.length_nil]; omega))) only [hno, GMark.d, W1, ↓W2, unbyte, implies_true, ← List.map_take, ← List.map_drop, bne_self_eq_false, eqCells, flatTD, Nat.reducePow, ayield, eq_self, exists_eq_left', exists_eq_left, Int.reduceLE, Int.reduceLT, Nat.reduceLeDiff, Int.reduceToNat, Int.reduceAdd, Int.reduceSub, Int.reduceMul, Int.reduceNeg, Int.reduceEq, argEnv, aeval, get, put, ofVal, ofVals, List.map, cond_true, cond_false, Nat.reduceBEq, nexts, allocs, countAllocs, pad, Nat.reduceAdd, Nat.reduceMul, Nat.reduceSub, Nat.reduceLT, isVoid, aNilCheck, aExtract, aInt, aStr, aConv, aSlice, asNat?, cutTight, aIndexAddr, aFieldAddr, aField, aIndex, aLoad, aStore, aAlloc, aBox, aBuild, aBuildSlice, aMakeSlice, aLen, aMax, aMin, aAppend, aCopy, aBuiltin, TD.isSlice, TD.isAgg, TD.known, TD.isSeq, partD, partOb, cellsAt, Blk.cells, if_true, if_false, splice, fillD, dl, byteD, Int.reduceBEq, beq_self_eq_true, retQ, retK, resD, resL, andR, elemCells, isByte, chunk, reduceCtorEq, okVal, okCell, List.replicate, ne_eq, Nat.reduceEqDiff, IntWalk.toNatUp]
        refine callP awake08 rfl ?_
        simp (disch := (first | omega | (simp only [List.length_take, List.length_drop, List.length_append, List.length_map, List.length_cons, List.length_nil]; done) | (simp only [List.length_take, List.length_drop, List.length_append, List.length_map, List.length_cons, List.length_nil]; omega))) only [W1, ↓W2, unbyte, implies_true, ← List.map_take, ← List.map_drop, bne_self_eq_false, eqCells, flatTD, Nat.reducePow, ayield, eq_self, exists_eq_left', exists_eq_left, Int.reduceLE, Int.reduceLT, Nat.reduceLeDiff, Int.reduceToNat, Int.reduceAdd, Int.reduceSub, Int.reduceMul, Int.reduceNeg, Int.reduceEq, argEnv, aeval, get, put, ofVal, ofVals, List.map, cond_true, cond_false, Nat.reduceBEq, nexts, allocs, countAllocs, pad, Nat.reduceAdd, Nat.reduceMul, Nat.reduceSub, Nat.reduceLT, isVoid, aNilCheck, aExtract, aInt, aStr, aConv, aSlice, asNat?, cutTight, aIndexAddr, aFieldAddr, aField, aIndex, aLoad, aStore, aAlloc, aBox, aBuild, aBuildSlice, aMakeSlice, aLen, aMax, aMin, aAppend, aCopy, aBuiltin, TD.isSlice, TD.isAgg, TD.known, TD.isSeq, partD, partOb, cellsAt, Blk.cells, if_true, if_false, splice, fillD, dl, byteD, Int.reduceBEq, beq_self_eq_true, retQ, retK, resD, resL, andR, elemCells, isByte, chunk, reduceCtorEq, okVal, okCell, List.replicate, ne_eq, Nat.reduceEqDiff, IntWalk.toNatUp]
        exact Sub.refl rfl

end Go.Proofs.Ytlpbhmhkobhkeaa
