/- From a row's reading of arguments to abstract values, and from a function of data to a row's answer. Of no program. -/
import Derived.Test.YtbabdalfkmdlhaaA22
import Derived.ProofKit
import Derived.SizedLaws
import Derived.WideKeyArgs
import Derived.OpenShut
namespace Go.Proofs.Ytbabdalfkmdlhaa
set_option linter.all false
open Go.ChangeShapes

/-- The bytes that one string or slice takes at most. -/
def reach : Nat := 140737488351232

def toE (agg : Bool) (xs : List D) : D := if agg then .agg xs else xs.getD 0 .any

/-- Data of a type, by its cells. -/
def TypedC (τ : Ty) : Nat → TypeId → List D → Prop
  | 0, _, _ => False
  | fuel + 1, t, xs =>
    match (τ t).td with
    | .bool => ∃ b, xs = [.bool b]
    | .int k => ∃ n, k.min ≤ n ∧ n ≤ k.max ∧ xs = [.int k n]
    | .str => ∃ s, s.length ≤ reach ∧ xs = [.str s]
    | .slice e => ∃ es, es.length ≤ reach ∧ xs = [.sl (τ e).size es false] ∧ ∀ x, x ∈ es → ∃ ys, TypedC τ fuel e ys ∧ x = toE (τ e).td.isAgg ys
    | .struct fs => xs.length = (τ t).size ∧ ∀ f, f ∈ fs → TypedC τ fuel f.2 ((xs.drop f.1).take (τ f.2).size)
    | .array n e => xs.length = (τ t).size ∧ ∀ i, i < n → TypedC τ fuel e ((xs.drop (i * (τ e).size)).take (τ e).size)
    | _ => False

def Typed (τ : Ty) (fuel : Nat) (t : TypeId) (d : D) : Prop := ∃ xs, TypedC τ fuel t xs ∧ d = toE (τ t).td.isAgg xs

def fieldsOk (τ : Ty) : List (Nat × TypeId) → Nat → Nat → Bool
  | [], o, total => o == total
  | f :: fs, o, total => f.1 == o && fieldsOk τ fs (o + (τ f.2).size) total

/-- A type of what this reads: bools, integers, strings, slices, structs, arrays. -/
def supp (τ : Ty) : Nat → TypeId → Bool
  | 0, _ => false
  | fuel + 1, t =>
    match (τ t).td with
    | .bool | .int _ | .str => (τ t).size == 1
    | .slice e => (τ t).size == 1 && supp τ fuel e
    | .struct fs => fieldsOk τ fs 0 (τ t).size && fs.all fun f => supp τ fuel f.2
    | .array n e => n * (τ e).size == (τ t).size && supp τ fuel e
    | _ => false

/-- The elements of slices take bytes. -/
def posB (P : Program) (τ : Ty) : Nat → TypeId → Bool
  | 0, _ => true
  | fuel + 1, t =>
    match (τ t).td with
    | .slice e => decide (0 < P.bytesOf e) && posB P τ fuel e
    | .struct fs => fs.all fun f => posB P τ fuel f.2
    | .array _ e => posB P τ fuel e
    | _ => true

theorem weightsAll_mem {H : Type} {P : Program} {e : TypeId} : ∀ {l : List (DataW H)} {d : DataW H}, d ∈ l → ∀ n ∈ d.weights P e, n ∈ DataW.weightsAll P e l
  | [], _, h, _, _ => by cases h
  | x :: l, d, h, n, hn => by
    simp only [DataW.weightsAll, List.mem_append]
    rcases List.mem_cons.1 h with rfl | h
    · exact .inl hn
    · exact .inr (weightsAll_mem h n hn)

section
variable {P : Program} {τ : Ty} {H : Type} {enc : TypeId × Value → H} {w : World} {base : Nat} {sp : Nat → Bool} {held : Bool}

/-- Cells and what is told of them. -/
def CellsRel (w : World) (xs : List D) (cs : List Value) : Prop :=
  xs.length = cs.length ∧ ∀ (i : Nat) (x : D) (v : Value), xs[i]? = some x → cs[i]? = some v → Rel w (fun b => b < w.heap.size) [] x v ∧ v.oneCell' = true

theorem CellsRel.one {x : D} {v : Value} (h : Rel w (fun b => b < w.heap.size) [] x v) (h1 : v.oneCell' = true) : CellsRel w [x] [v] := by
  refine ⟨rfl, fun i y u hy hu => ?_⟩
  cases i with
  | zero => simp at hy hu; subst hy; subst hu; exact ⟨h, h1⟩
  | succ i => simp at hy

theorem CellsRel.append {xs ys : List D} {cs ds : List Value} (h : CellsRel w xs cs) (h' : CellsRel w ys ds) : CellsRel w (xs ++ ys) (cs ++ ds) := by
  refine ⟨by simp [h.1, h'.1], fun i x v hx hv => ?_⟩
  by_cases hi : i < xs.length
  · rw [List.getElem?_append_left hi] at hx
    rw [List.getElem?_append_left (by rw [← h.1]; exact hi)] at hv
    exact h.2 i x v hx hv
  · rw [List.getElem?_append_right (by omega)] at hx
    rw [List.getElem?_append_right (by rw [← h.1]; omega), ← h.1] at hv
    exact h'.2 _ x v hx hv

theorem mapM_all {α β : Type} {f : α → Option β} : ∀ {l : List α} {r : List β}, l.mapM f = some r → ∀ x, x ∈ l → ∃ y, f x = some y
  | [], _, _, x, hx => by cases hx
  | a :: l, r, h, x, hx => by
    rw [List.mapM_cons] at h
    cases ha : f a with
    | none => rw [ha] at h; simp at h
    | some y =>
      rw [ha] at h
      cases hl : l.mapM f with
      | none => rw [hl] at h; simp at h
      | some r' =>
        rcases List.mem_cons.1 hx with rfl | hx
        · exact ⟨y, ha⟩
        · exact mapM_all hl x hx

theorem cell_lt {a : Addr} {v : Value} (h : w.cell? a = some v) : a.block < w.heap.size := by
  unfold World.cell? at h
  by_cases hb : a.block < w.heap.size
  · exact hb
  · rw [Array.getElem?_eq_none (by omega)] at h; simp at h

theorem cells_get {a : Addr} {n : Nat} {cs : List Value} (h : w.cells? base a n = some cs) : cs.length = n ∧ ∀ j, j < n → ∃ v, cs[j]? = some v ∧ w.cell? (a.add j) = some v := by
  unfold World.cells? at h
  split at h
  · have gen : ∀ (l : List Nat) (r : List Value), (l.mapM fun i => w.cell? (a.add i)) = some r → r.length = l.length ∧ ∀ (j k : Nat), l[j]? = some k → ∃ v, r[j]? = some v ∧ w.cell? (a.add k) = some v := by
      intro l
      induction l with
      | nil => intro r hr; simp at hr; subst hr; exact ⟨rfl, fun j k h => by simp at h⟩
      | cons x l ih =>
        intro r hr
        rw [List.mapM_cons] at hr
        cases hx : w.cell? (a.add x) with
        | none => rw [hx] at hr; simp at hr
        | some y =>
          rw [hx] at hr
          cases hl : l.mapM fun i => w.cell? (a.add i) with
          | none => rw [hl] at hr; simp at hr
          | some r' =>
            rw [hl] at hr
            simp at hr
            subst hr
            obtain ⟨h1, h2⟩ := ih r' hl
            refine ⟨by simp [h1], fun j k hj => ?_⟩
            cases j with
            | zero => simp at hj; subst hj; exact ⟨y, rfl, hx⟩
            | succ j => exact h2 j k (by simpa using hj)
    obtain ⟨h1, h2⟩ := gen _ _ h
    exact ⟨by simpa using h1, fun j hj => h2 j j (by simp [hj])⟩
  · cases h

theorem addr_add_add (a : Addr) (i j : Nat) : (a.add i).add j = a.add (i + j) := by
  unfold Addr.add
  by_cases hi : i = 0
  · subst hi; simp
  · by_cases hj : j = 0
    · subst hj; simp [hi]
    · simp [hi, hj, Nat.add_assoc]

theorem fields_join (Q : TypeId → List D → Prop) (cs : List Value) : ∀ (fs : List (Nat × TypeId)) (o total : Nat), fieldsOk τ fs o total = true → total = cs.length →
    (∀ f, f ∈ fs → ∃ xs, CellsRel w xs ((cs.drop f.1).take (τ f.2).size) ∧ Q f.2 xs) → ∃ xs, CellsRel w xs (cs.drop o) ∧ ∀ f, f ∈ fs → o ≤ f.1 ∧ Q f.2 ((xs.drop (f.1 - o)).take (τ f.2).size)
  | [], o, total, h, ht, _ => by
    simp only [fieldsOk, beq_iff_eq] at h
    subst h
    refine ⟨[], ?_, fun f hf => by cases hf⟩
    rw [List.drop_of_length_le (by omega)]
    exact ⟨rfl, fun i x v h => by simp at h⟩
  | f :: fs, o, total, h, ht, hq => by
    simp only [fieldsOk, Bool.and_eq_true, beq_iff_eq] at h
    obtain ⟨ys, h1, h2⟩ := fields_join Q cs fs _ total h.2 ht (fun f hf => hq f (List.mem_cons_of_mem _ hf))
    obtain ⟨xs, h3, h4⟩ := hq f (by simp)
    have hle : o + (τ f.2).size ≤ total := by
      have : ∀ (l : List (Nat × TypeId)) (a : Nat), fieldsOk τ l a total = true → a ≤ total := by
        intro l
        induction l with
        | nil => intro a ha; simp only [fieldsOk, beq_iff_eq] at ha; omega
        | cons g l ih => intro a ha; simp only [fieldsOk, Bool.and_eq_true] at ha; have := ih _ ha.2; omega
      exact this fs _ h.2
    have hlen : xs.length = (τ f.2).size := by rw [h3.1, h.1]; simp; omega
    refine ⟨xs ++ ys, ?_, fun g hg => ?_⟩
    · have := h3.append h1
      rw [h.1] at this
      have e : (cs.drop o).take (τ f.2).size ++ cs.drop (o + (τ f.2).size) = cs.drop o := by
        rw [← List.drop_drop]; exact List.take_append_drop _ _
      rwa [e] at this
    · rcases List.mem_cons.1 hg with rfl | hg
      · refine ⟨by omega, ?_⟩
        rw [h.1, Nat.sub_self, List.drop_zero, List.take_append_of_le_length (by omega), List.take_of_length_le (by omega)]
        exact h4
      · obtain ⟨k1, k2⟩ := h2 g hg
        refine ⟨by omega, ?_⟩
        have e : (xs ++ ys).drop (g.1 - o) = ys.drop (g.1 - (o + (τ f.2).size)) := by
          rw [List.drop_append, List.drop_of_length_le (by omega), List.nil_append]
          congr 1
          omega
        rw [e]
        exact k2

theorem array_join (Q : List D → Prop) (cs : List Value) (z : Nat) : ∀ (n o : Nat), o * z + n * z = cs.length → (∀ i, i < n → ∃ xs, CellsRel w xs ((cs.drop ((o + i) * z)).take z) ∧ Q xs) →
    ∃ xs, CellsRel w xs (cs.drop (o * z)) ∧ ∀ i, i < n → Q ((xs.drop (i * z)).take z)
  | 0, o, h, _ => by
    refine ⟨[], ?_, fun i hi => by omega⟩
    rw [List.drop_of_length_le (by omega)]
    exact ⟨rfl, fun i x v h => by simp at h⟩
  | n + 1, o, h, hq => by
    have e1 : (o + 1) * z = o * z + z := Nat.succ_mul _ _
    have e2 : (n + 1) * z = n * z + z := Nat.succ_mul _ _
    obtain ⟨ys, h1, h2⟩ := array_join Q cs z n (o + 1) (by omega) (fun i hi => by
      have := hq (i + 1) (by omega)
      rwa [show o + (i + 1) = o + 1 + i by omega] at this)
    obtain ⟨xs, h3, h4⟩ := hq 0 (by omega)
    rw [Nat.add_zero] at h3
    have hlen : xs.length = z := by rw [h3.1]; simp; omega
    refine ⟨xs ++ ys, ?_, fun i hi => ?_⟩
    · have := h3.append h1
      rw [e1] at this
      have e : (cs.drop (o * z)).take z ++ cs.drop (o * z + z) = cs.drop (o * z) := by
        rw [← List.drop_drop]; exact List.take_append_drop _ _
      rwa [e] at this
    · cases i with
      | zero =>
        rw [Nat.zero_mul, List.drop_zero, List.take_append_of_le_length (by omega), List.take_of_length_le (by omega)]
        exact h4
      | succ i =>
        have e3 : (i + 1) * z = i * z + z := Nat.succ_mul _ _
        rw [e3, List.drop_append, List.drop_of_length_le (by omega), List.nil_append]
        have := h2 i (by omega)
        rwa [show i * z + z - xs.length = i * z by omega]

theorem cellsOf_eq (hT : TyOk P τ) {t : TypeId} (h : (τ t).td.known = true) : P.cellsOf t = (τ t).size := by
  obtain ⟨i, h1, _, h3, _⟩ := (hT t h).info
  simp [Program.cellsOf, h1, h3]

theorem supp_known {fuel : Nat} {t : TypeId} (h : supp τ fuel t = true) : (τ t).td.known = true := by
  cases fuel with
  | zero => simp [supp] at h
  | succ n =>
    unfold supp at h
    cases ht : (τ t).td <;> rw [ht] at h <;> first | rfl | cases h

theorem toE_cells {agg : Bool} {fuel : Nat} {t : TypeId} {ys : List D} (h : TypedC τ fuel t ys) (he : agg = (τ t).td.isAgg) : (toE agg ys).cells = ys := by
  subst he
  cases fuel with
  | zero => exact h.elim
  | succ n =>
    unfold TypedC at h
    cases ht : (τ t).td <;> rw [ht] at h <;> first | exact h.elim | rfl | (obtain ⟨b, rfl⟩ := h; rfl) | (obtain ⟨m, _, _, rfl⟩ := h; rfl) | (obtain ⟨m, _, rfl⟩ := h; rfl) | (obtain ⟨m, _, rfl, _⟩ := h; rfl)

/-- What a row reads is data of its type. -/
theorem trod_typed (hT : TyOk P τ) : ∀ (fuel : Nat) (t : TypeId) (cs : List Value) (x : DataW H × List MemPlace) (n : Nat), DataW.trod enc P w base sp held n t cs = some x → supp τ fuel t = true → posB P τ fuel t = true → (∀ m, m ∈ x.1.weights P t → m ≤ reachBytes) →
    ∃ xs, CellsRel w xs cs ∧ xs.length = (τ t).size ∧ TypedC τ fuel t xs
  | 0, t, cs, x, n, h, hs, _, _ => by simp [supp] at hs
  | fuel + 1, t, cs, x, n, h, hs, hp, hwt => by
    have hat := hT t (supp_known hs)
    have hcell := cellsOf_eq hT (supp_known hs)
    unfold supp at hs
    unfold posB at hp
    unfold TypedC
    cases ht : (τ t).td <;> rw [ht] at hs hp <;> try (cases hs; done)
    case bool =>
      obtain ⟨b, rfl, _⟩ := DataW.trod_bool (hat.bool ht) h
      exact ⟨_, CellsRel.one (.bool b) rfl, by simpa using (beq_iff_eq.1 hs).symm, b, rfl⟩
    case int k =>
      obtain ⟨m, rfl, _, hw⟩ := DataW.trod_int (hat.int ht) h
      simp only [Lit.wf, Bool.and_eq_true, decide_eq_true_eq] at hw
      exact ⟨_, CellsRel.one (.int k m hw.1 hw.2) rfl, by simpa using (beq_iff_eq.1 hs).symm, m, hw.1, hw.2, rfl⟩
    case str =>
      obtain ⟨b, rfl, rfl, hb⟩ := DataW.trod_string (hat.str ht) h
      have hr : b.data.toList.length ≤ reach := hwt _ (by simp [DataW.weights])
      have hb' : b.data.toList.length ≤ maxLen := by rw [Array.length_toList]; exact hb
      have : Rel w (fun b => b < w.heap.size) [] (.str b.data.toList) (.string b) := .str b.data.toList hb'
      exact ⟨_, CellsRel.one this rfl, by simpa using (beq_iff_eq.1 hs).symm, _, hr, rfl⟩
    case slice e =>
      simp only [Bool.and_eq_true, beq_iff_eq] at hs
      simp only [Bool.and_eq_true, decide_eq_true_eq] at hp
      have hce := cellsOf_eq hT (supp_known hs.2)
      rcases DataW.trod_slice (hat.slice ht) h with ⟨rfl, _⟩ | ⟨a, len, cap, elems, rest, m, _, rfl, rfl, _, hlc, hcm, hel, hget, _⟩
      · exact ⟨_, CellsRel.one (.slNone (τ e).size false) rfl, by simp [hs.1], [], Nat.zero_le _, rfl, fun x hx => by cases hx⟩
      · have hlr : len ≤ reach := by
          have h1 := hwt ((elems.length + rest.length) * P.bytesOf e) (by simp [DataW.weights, hat.slice ht])
          have h2 : elems.length + rest.length ≤ (elems.length + rest.length) * P.bytesOf e := Nat.le_mul_of_pos_right _ hp.1
          have h3 : reachBytes = reach := rfl
          omega
        rw [hce] at hget
        have each : ∀ i, ∃ ys, i < len → (∀ j, j < (τ e).size → ∃ (d : D) (v : Value), ys[j]? = some d ∧ w.cell? (a.add (i * (τ e).size + j)) = some v ∧ Rel w (fun b => b < w.heap.size) [] d v ∧ v.oneCell' = true) ∧ ys.length = (τ e).size ∧ TypedC τ fuel e ys := by
          intro i
          by_cases hi : i < len
          · have h1 := hget i hi
            rw [List.getElem?_eq_getElem (by omega)] at h1
            cases hc : w.cells? base (a.add (i * (τ e).size)) (τ e).size with
            | none => rw [hc] at h1; simp at h1
            | some cs' =>
              rw [hc] at h1
              simp only [Option.bind_some] at h1
              obtain ⟨ys, k1, k2, k3⟩ := trod_typed hT fuel e cs' _ m h1 hs.2 hp.2 (fun n hn => hwt n (by
                simp only [DataW.weights, hat.slice ht, List.mem_cons, List.mem_append]
                exact .inr (.inl (weightsAll_mem (List.mem_map.2 ⟨_, List.getElem_mem (by omega), rfl⟩) n hn))))
              obtain ⟨k4, k5⟩ := cells_get hc
              refine ⟨ys, fun _ => ⟨fun j hj => ?_, k2, k3⟩⟩
              obtain ⟨v, k6, k7⟩ := k5 j hj
              rw [addr_add_add] at k7
              have hjl : j < ys.length := by omega
              obtain ⟨k8, k9⟩ := k1.2 j _ v (List.getElem?_eq_getElem hjl) k6
              exact ⟨_, v, List.getElem?_eq_getElem hjl, k7, k8, k9⟩
          · exact ⟨[], fun h => absurd h hi⟩
        obtain ⟨Y, hY⟩ := Classical.axiomOfChoice each
        have hidx : ∀ i, i < len * (τ e).size → i / (τ e).size < len ∧ i % (τ e).size < (τ e).size ∧ i / (τ e).size * (τ e).size + i % (τ e).size = i := fun i hi => by
          have hz : 0 < (τ e).size := by
            rcases Nat.eq_zero_or_pos (τ e).size with h0 | h0
            · rw [h0] at hi; omega
            · exact h0
          refine ⟨Nat.div_lt_of_lt_mul (by rw [Nat.mul_comm]; exact hi), Nat.mod_lt _ hz, ?_⟩
          rw [Nat.mul_comm]; exact Nat.div_add_mod i _
        refine ⟨[.sl (τ e).size ((List.range len).map fun i => toE (τ e).td.isAgg (Y i)) false], CellsRel.one ?_ rfl, by simp [hs.1], _, by simp; omega, rfl, fun x hx => ?_⟩
        · have hel2 : ((List.range len).map fun i => toE (τ e).td.isAgg (Y i)).length = len := by simp
          have hcells : ∀ i, i < len → (toE (τ e).td.isAgg (Y i)).cells = Y i := fun i hi => toE_cells (hY i hi).2.2 rfl
          have := Rel.sl (w := w) (S := fun b => b < w.heap.size) (β := []) (τ e).size ((List.range len).map fun i => toE (τ e).td.isAgg (Y i)) false a cap (fun i => (w.cell? (a.add i)).getD undef) (by rw [hel2]; exact hlc) hcm (fun h => by cases h)
            (fun x hx => by
              obtain ⟨i, hi, rfl⟩ := List.mem_map.1 hx
              rw [hcells i (List.mem_range.1 hi)]
              exact (hY i (List.mem_range.1 hi)).2.1)
            (fun i hi => by
              rw [hel2] at hi
              obtain ⟨k1, k2, k3⟩ := hidx i hi
              obtain ⟨d, v, k4, k5, k6, k7⟩ := (hY _ k1).1 _ k2
              rw [k3] at k5
              rw [k5]
              refine ⟨?_, rfl, k7⟩
              have := cell_lt k5
              rwa [show (a.add i).block = a.block from by unfold Addr.add; split <;> rfl] at this)
            (fun i x j d hx hd => by
              have hi : i < len := by
                have := (List.getElem?_eq_some_iff.1 hx).1
                simpa using this
              rw [List.getElem?_map, List.getElem?_range hi] at hx
              simp only [Option.map_some, Option.some.injEq] at hx
              subst hx
              rw [hcells i hi] at hd
              have hj : j < (τ e).size := by rw [← (hY i hi).2.1]; exact (List.getElem?_eq_some_iff.1 hd).1
              obtain ⟨d', v, k4, k5, k6, k7⟩ := (hY i hi).1 j hj
              rw [hd] at k4
              cases k4
              simp only [k5, Option.getD_some]
              exact k6)
          rw [hel2] at this
          exact this
        · obtain ⟨i, hi, rfl⟩ := List.mem_map.1 hx
          exact ⟨Y i, (hY i (List.mem_range.1 hi)).2.2, rfl⟩
    case struct fs =>
      simp only [Bool.and_eq_true, List.all_eq_true] at hs
      simp only [List.all_eq_true] at hp
      obtain ⟨g, hg, hgf⟩ := hat.struct ht
      obtain ⟨xs, m, _, rfl, hlen, hxs, hget⟩ := DataW.trod_struct hg h
      rw [hcell] at hlen
      obtain ⟨ys, h1, h2⟩ := fields_join (w := w) (τ := τ) (TypedC τ fuel) cs fs 0 (τ t).size hs.1 hlen.symm (fun f hf => by
        rw [← hgf] at hf
        obtain ⟨g0, hg0, rfl⟩ := List.mem_map.1 hf
        obtain ⟨i, hi⟩ := List.getElem?_of_mem hg0
        have hsf := hs.2 (g0.offset, g0.type) (by rw [← hgf]; exact hf)
        have h3 := hget i g0 (by simpa using hi)
        rw [cellsOf_eq hT (supp_known hsf)] at h3
        have hlt : i < xs.length := by rw [hxs]; simpa using (List.getElem?_eq_some_iff.1 hi).1
        rw [List.getElem?_eq_getElem hlt] at h3
        obtain ⟨ys, k1, _, k3⟩ := trod_typed hT fuel g0.type _ _ m h3 hsf (hp (g0.offset, g0.type) (by rw [← hgf]; exact hf)) (fun n hn => hwt n (by
          simp only [DataW.weights, hg]
          exact DataW.weights_mem_each (j := i) (t := g0.type) (d := xs[i].1) (by rw [List.getElem?_map, hi]; rfl) (by rw [List.getElem?_map, List.getElem?_eq_getElem hlt]; rfl) n hn))
        exact ⟨ys, k1, k3⟩)
      rw [List.drop_zero] at h1
      exact ⟨ys, h1, by rw [h1.1, hlen], by rw [h1.1, hlen], fun f hf => by simpa using (h2 f hf).2⟩
    case array k e =>
      simp only [Bool.and_eq_true, beq_iff_eq] at hs
      obtain ⟨xs, m, _, rfl, hlen, hxs, hget⟩ := DataW.trod_array (hat.array ht) h
      rw [hcell] at hlen
      rw [cellsOf_eq hT (supp_known hs.2)] at hget
      obtain ⟨ys, h1, h2⟩ := array_join (w := w) (TypedC τ fuel e) cs (τ e).size k 0 (by omega) (fun i hi => by
        have h3 := hget i hi
        rw [List.getElem?_eq_getElem (by omega)] at h3
        obtain ⟨ys, k1, _, k3⟩ := trod_typed hT fuel e _ _ m h3 hs.2 hp (fun n hn => hwt n (by
          simp only [DataW.weights, hat.array ht]
          exact weightsAll_mem (List.mem_map.2 ⟨_, List.getElem_mem (by omega), rfl⟩) n hn))
        rw [Nat.zero_add]
        exact ⟨ys, k1, k3⟩)
      rw [Nat.zero_mul, List.drop_zero] at h1
      exact ⟨ys, h1, by rw [h1.1, hlen], by rw [h1.1, hlen], h2⟩

/-- A parameter's value. -/
theorem param_rel (hT : TyOk P τ) {base' : Nat} {fuel : Nat} {t : TypeId} {v : Value} {d : DataW H} {ps : List MemPlace} (h : DataW.Trod enc P w base sp held t v d ps) (hs : supp τ fuel t = true) (hp : posB P τ fuel t = true) (hwt : ∀ m, m ∈ d.weights P t → m ≤ reachBytes) (hv : Value.okWide P w .any base' t v) :
    ∃ x, Typed τ fuel t x ∧ Rel w (fun b => b < w.heap.size) [] x v := by
  obtain ⟨n, hn⟩ := h
  obtain ⟨xs, h1, h2, h3⟩ := trod_typed hT fuel t v.cells.toList _ n hn hs hp hwt
  refine ⟨toE (τ t).td.isAgg xs, ⟨xs, h3, rfl⟩, ?_⟩
  have hat := hT t (supp_known hs)
  cases fuel with
  | zero => exact h3.elim
  | succ fuel =>
    cases ht : (τ t).td
    case struct fs =>
      obtain ⟨g, hg, _⟩ := hat.struct ht
      unfold Value.okWide at hv
      rw [hg] at hv
      obtain ⟨cs, rfl, _, _⟩ := hv
      simp only [TD.isAgg, toE, if_true]
      exact .agg xs cs (by have := h1.1; simp [Value.cells] at this; omega) (fun i u hu => by
        have hlt : i < xs.length := by rw [h1.1]; simp [Value.cells]; exact (Array.getElem?_eq_some_iff.1 hu).1
        exact (h1.2 i _ u (List.getElem?_eq_getElem hlt) (by simpa [Value.cells] using hu)).2) (fun i x u hx hu => (h1.2 i x u hx (by simpa [Value.cells] using hu)).1)
    case array k e =>
      unfold Value.okWide at hv
      rw [hat.array ht] at hv
      obtain ⟨cs, rfl, _, _⟩ := hv
      simp only [TD.isAgg, toE, if_true]
      exact .agg xs cs (by have := h1.1; simp [Value.cells] at this; omega) (fun i u hu => by
        have hlt : i < xs.length := by rw [h1.1]; simp [Value.cells]; exact (Array.getElem?_eq_some_iff.1 hu).1
        exact (h1.2 i _ u (List.getElem?_eq_getElem hlt) (by simpa [Value.cells] using hu)).2) (fun i x u hx hu => (h1.2 i x u hx (by simpa [Value.cells] using hu)).1)
    all_goals
      unfold TypedC at h3
      rw [ht] at h3
      first
        | exact h3.elim
        | (have hc : v.cells.toList = [v] := by
             unfold Value.okWide at hv
             first
               | (rw [hat.bool ht] at hv; cases v <;> first | rfl | (simp [Cell.okWide, Cell.ok, hat.bool ht] at hv))
               | (rw [hat.int ht] at hv; cases v <;> first | rfl | (simp [Cell.okWide, Cell.ok, hat.int ht] at hv))
               | (rw [hat.str ht] at hv; cases v <;> first | rfl | (simp [Cell.okWide, Cell.ok, hat.str ht] at hv))
               | (rw [hat.slice ht] at hv; cases v <;> first | rfl | (simp [Cell.okWide, Cell.ok, hat.slice ht] at hv))
           rw [hc] at h1
           have hx : xs.length = 1 := h1.1
           obtain ⟨x, rfl⟩ := List.length_eq_one_iff.1 hx
           exact (h1.2 0 x v rfl rfl).1)

end
end Go.Proofs.Ytbabdalfkmdlhaa
