/- From a row's reading of arguments to abstract values, and from a function of data to a row's answer. Of no program. -/
import Derived.Test.YtlkffgmejcgdbaaDoorL3
import Derived.ProofKit
import Derived.SizedLaws
import Derived.WideKeyArgs
import Derived.OpenShut
import Derived.Laws.Externs
namespace Go.Proofs.YtlkffgmejcgdbaaDoor
set_option linter.all false
open Go.ChangeShapes

/-- The bytes that one string or slice takes at most. -/
def reach : Nat := 140737488351232

def toE (agg : Bool) (xs : List D) : D := if agg then .agg xs else xs.getD 0 .any

/-- Data of a type, by its cells. -/
def TypedC (τ : Ty) : Nat → TypeId → List D → Prop
  | 0, _, _ => False
  | fuel + 1, t, xs =>
    match (τ t).td with
    | .bool => ∃ b, xs = [.bool b]
    | .int k => ∃ n, k.min ≤ n ∧ n ≤ k.max ∧ xs = [.int k n]
    | .str => ∃ s, s.length ≤ reach ∧ xs = [.str s]
    | .slice e => ∃ es, es.length ≤ reach ∧ xs = [.sl (τ e).size es false] ∧ ∀ x, x ∈ es → ∃ ys, TypedC τ fuel e ys ∧ x = toE (τ e).td.isAgg ys
    | .struct fs => xs.length = (τ t).size ∧ ∀ f, f ∈ fs → TypedC τ fuel f.2 ((xs.drop f.1).take (τ f.2).size)
    | .array n e => xs.length = (τ t).size ∧ ∀ i, i < n → TypedC τ fuel e ((xs.drop (i * (τ e).size)).take (τ e).size)
    | _ => False

def Typed (τ : Ty) (fuel : Nat) (t : TypeId) (d : D) : Prop := ∃ xs, TypedC τ fuel t xs ∧ d = toE (τ t).td.isAgg xs

def fieldsOk (τ : Ty) : List (Nat × TypeId) → Nat → Nat → Bool
  | [], o, total => o == total
  | f :: fs, o, total => f.1 == o && fieldsOk τ fs (o + (τ f.2).size) total

/-- A type of what this reads: bools, integers, strings, slices, structs, arrays. -/
def supp (τ : Ty) : Nat → TypeId → Bool
  | 0, _ => false
  | fuel + 1, t =>
    match (τ t).td with
    | .bool | .int _ | .str => (τ t).size == 1
    | .slice e => (τ t).size == 1 && supp τ fuel e
    | .struct fs => fieldsOk τ fs 0 (τ t).size && fs.all fun f => supp τ fuel f.2
    | .array n e => n * (τ e).size == (τ t).size && supp τ fuel e
    | _ => false

/-- The elements of slices take bytes. -/
def posB (P : Program) (τ : Ty) : Nat → TypeId → Bool
  | 0, _ => true
  | fuel + 1, t =>
    match (τ t).td with
    | .slice e => decide (0 < P.bytesOf e) && posB P τ fuel e
    | .struct fs => fs.all fun f => posB P τ fuel f.2
    | .array _ e => posB P τ fuel e
    | _ => true

theorem weightsAll_mem {H : Type} {P : Program} {e : TypeId} : ∀ {l : List (DataW H)} {d : DataW H}, d ∈ l → ∀ n ∈ d.weights P e, n ∈ DataW.weightsAll P e l
  | [], _, h, _, _ => by cases h
  | x :: l, d, h, n, hn => by
    simp only [DataW.weightsAll, List.mem_append]
    rcases List.mem_cons.1 h with rfl | h
    · exact .inl hn
    · exact .inr (weightsAll_mem h n hn)

section
variable {P : Program} {τ : Ty} {H : Type} {enc : TypeId × Value → H} {w : World} {base : Nat} {sp : Nat → Bool} {held : Bool}

/-- Cells and what is told of them. -/
def CellsRel (w : World) (xs : List D) (cs : List Value) : Prop :=
  xs.length = cs.length ∧ ∀ (i : Nat) (x : D) (v : Value), xs[i]? = some x → cs[i]? = some v → Rel w (fun b => b < w.heap.size) [] x v ∧ v.oneCell' = true

theorem CellsRel.one {x : D} {v : Value} (h : Rel w (fun b => b < w.heap.size) [] x v) (h1 : v.oneCell' = true) : CellsRel w [x] [v] := by
  refine ⟨rfl, fun i y u hy hu => ?_⟩
  cases i with
  | zero => simp at hy hu; subst hy; subst hu; exact ⟨h, h1⟩
  | succ i => simp at hy

theorem CellsRel.append {xs ys : List D} {cs ds : List Value} (h : CellsRel w xs cs) (h' : CellsRel w ys ds) : CellsRel w (xs ++ ys) (cs ++ ds) := by
  refine ⟨by simp [h.1, h'.1], fun i x v hx hv => ?_⟩
  by_cases hi : i < xs.length
  · rw [List.getElem?_append_left hi] at hx
    rw [List.getElem?_append_left (by rw [← h.1]; exact hi)] at hv
    exact h.2 i x v hx hv
  · rw [List.getElem?_append_right (by omega)] at hx
    rw [List.getElem?_append_right (by rw [← h.1]; omega), ← h.1] at hv
    exact h'.2 _ x v hx hv

theorem mapM_all {α β : Type} {f : α → Option β} : ∀ {l : List α} {r : List β}, l.mapM f = some r → ∀ x, x ∈ l → ∃ y, f x = some y
  | [], _, _, x, hx => by cases hx
  | a :: l, r, h, x, hx => by
    rw [List.mapM_cons] at h
    cases ha : f a with
    | none => rw [ha] at h; simp at h
    | some y =>
      rw [ha] at h
      cases hl : l.mapM f with
      | none => rw [hl] at h; simp at h
      | some r' =>
        rcases List.mem_cons.1 hx with rfl | hx
        · exact ⟨y, ha⟩
        · exact mapM_all hl x hx

theorem cell_lt {a : Addr} {v : Value} (h : w.cell? a = some v) : a.block < w.heap.size := by
  unfold World.cell? at h
  by_cases hb : a.block < w.heap.size
  · exact hb
  · rw [Array.getElem?_eq_none (by omega)] at h; simp at h

theorem cells_get {a : Addr} {n : Nat} {cs : List Value} (h : w.cells? base a n = some cs) : cs.length = n ∧ ∀ j, j < n → ∃ v, cs[j]? = some v ∧ w.cell? (a.add j) = some v := by
  unfold World.cells? at h
  split at h
  · have gen : ∀ (l : List Nat) (r : List Value), (l.mapM fun i => w.cell? (a.add i)) = some r → r.length = l.length ∧ ∀ (j k : Nat), l[j]? = some k → ∃ v, r[j]? = some v ∧ w.cell? (a.add k) = some v := by
      intro l
      induction l with
      | nil => intro r hr; simp at hr; subst hr; exact ⟨rfl, fun j k h => by simp at h⟩
      | cons x l ih =>
        intro r hr
        rw [List.mapM_cons] at hr
        cases hx : w.cell? (a.add x) with
        | none => rw [hx] at hr; simp at hr
        | some y =>
          rw [hx] at hr
          cases hl : l.mapM fun i => w.cell? (a.add i) with
          | none => rw [hl] at hr; simp at hr
          | some r' =>
            rw [hl] at hr
            simp at hr
            subst hr
            obtain ⟨h1, h2⟩ := ih r' hl
            refine ⟨by simp [h1], fun j k hj => ?_⟩
            cases j with
            | zero => simp at hj; subst hj; exact ⟨y, rfl, hx⟩
            | succ j => exact h2 j k (by simpa using hj)
    obtain ⟨h1, h2⟩ := gen _ _ h
    exact ⟨by simpa using h1, fun j hj => h2 j j (by simp [hj])⟩
  · cases h

theorem addr_add_add (a : Addr) (i j : Nat) : (a.add i).add j = a.add (i + j) := by
  unfold Addr.add
  by_cases hi : i = 0
  · subst hi; simp
  · by_cases hj : j = 0
    · subst hj; simp [hi]
    · simp [hi, hj, Nat.add_assoc]

theorem fields_join (Q : TypeId → List D → Prop) (cs : List Value) : ∀ (fs : List (Nat × TypeId)) (o total : Nat), fieldsOk τ fs o total = true → total = cs.length →
    (∀ f, f ∈ fs → ∃ xs, CellsRel w xs ((cs.drop f.1).take (τ f.2).size) ∧ Q f.2 xs) → ∃ xs, CellsRel w xs (cs.drop o) ∧ ∀ f, f ∈ fs → o ≤ f.1 ∧ Q f.2 ((xs.drop (f.1 - o)).take (τ f.2).size)
  | [], o, total, h, ht, _ => by
    simp only [fieldsOk, beq_iff_eq] at h
    subst h
    refine ⟨[], ?_, fun f hf => by cases hf⟩
    rw [List.drop_of_length_le (by omega)]
    exact ⟨rfl, fun i x v h => by simp at h⟩
  | f :: fs, o, total, h, ht, hq => by
    simp only [fieldsOk, Bool.and_eq_true, beq_iff_eq] at h
    obtain ⟨ys, h1, h2⟩ := fields_join Q cs fs _ total h.2 ht (fun f hf => hq f (List.mem_cons_of_mem _ hf))
    obtain ⟨xs, h3, h4⟩ := hq f (by simp)
    have hle : o + (τ f.2).size ≤ total := by
      have : ∀ (l : List (Nat × TypeId)) (a : Nat), fieldsOk τ l a total = true → a ≤ total := by
        intro l
        induction l with
        | nil => intro a ha; simp only [fieldsOk, beq_iff_eq] at ha; omega
        | cons g l ih => intro a ha; simp only [fieldsOk, Bool.and_eq_true] at ha; have := ih _ ha.2; omega
      exact this fs _ h.2
    have hlen : xs.length = (τ f.2).size := by rw [h3.1, h.1]; simp; omega
    refine ⟨xs ++ ys, ?_, fun g hg => ?_⟩
    · have := h3.append h1
      rw [h.1] at this
      have e : (cs.drop o).take (τ f.2).size ++ cs.drop (o + (τ f.2).size) = cs.drop o := by
        rw [← List.drop_drop]; exact List.take_append_drop _ _
      rwa [e] at this
    · rcases List.mem_cons.1 hg with rfl | hg
      · refine ⟨by omega, ?_⟩
        rw [h.1, Nat.sub_self, List.drop_zero, List.take_append_of_le_length (by omega), List.take_of_length_le (by omega)]
        exact h4
      · obtain ⟨k1, k2⟩ := h2 g hg
        refine ⟨by omega, ?_⟩
        have e : (xs ++ ys).drop (g.1 - o) = ys.drop (g.1 - (o + (τ f.2).size)) := by
          rw [List.drop_append, List.drop_of_length_le (by omega), List.nil_append]
          congr 1
          omega
        rw [e]
        exact k2

theorem array_join (Q : List D → Prop) (cs : List Value) (z : Nat) : ∀ (n o : Nat), o * z + n * z = cs.length → (∀ i, i < n → ∃ xs, CellsRel w xs ((cs.drop ((o + i) * z)).take z) ∧ Q xs) →
    ∃ xs, CellsRel w xs (cs.drop (o * z)) ∧ ∀ i, i < n → Q ((xs.drop (i * z)).take z)
  | 0, o, h, _ => by
    refine ⟨[], ?_, fun i hi => by omega⟩
    rw [List.drop_of_length_le (by omega)]
    exact ⟨rfl, fun i x v h => by simp at h⟩
  | n + 1, o, h, hq => by
    have e1 : (o + 1) * z = o * z + z := Nat.succ_mul _ _
    have e2 : (n + 1) * z = n * z + z := Nat.succ_mul _ _
    obtain ⟨ys, h1, h2⟩ := array_join Q cs z n (o + 1) (by omega) (fun i hi => by
      have := hq (i + 1) (by omega)
      rwa [show o + (i + 1) = o + 1 + i by omega] at this)
    obtain ⟨xs, h3, h4⟩ := hq 0 (by omega)
    rw [Nat.add_zero] at h3
    have hlen : xs.length = z := by rw [h3.1]; simp; omega
    refine ⟨xs ++ ys, ?_, fun i hi => ?_⟩
    · have := h3.append h1
      rw [e1] at this
      have e : (cs.drop (o * z)).take z ++ cs.drop (o * z + z) = cs.drop (o * z) := by
        rw [← List.drop_drop]; exact List.take_append_drop _ _
      rwa [e] at this
    · cases i with
      | zero =>
        rw [Nat.zero_mul, List.drop_zero, List.take_append_of_le_length (by omega), List.take_of_length_le (by omega)]
        exact h4
      | succ i =>
        have e3 : (i + 1) * z = i * z + z := Nat.succ_mul _ _
        rw [e3, List.drop_append, List.drop_of_length_le (by omega), List.nil_append]
        have := h2 i (by omega)
        rwa [show i * z + z - xs.length = i * z by omega]

theorem cellsOf_eq (hT : TyOk P τ) {t : TypeId} (h : (τ t).td.known = true) : P.cellsOf t = (τ t).size := by
  obtain ⟨i, h1, _, h3, _⟩ := (hT t h).info
  simp [Program.cellsOf, h1, h3]

theorem supp_known {fuel : Nat} {t : TypeId} (h : supp τ fuel t = true) : (τ t).td.known = true := by
  cases fuel with
  | zero => simp [supp] at h
  | succ n =>
    unfold supp at h
    cases ht : (τ t).td <;> rw [ht] at h <;> first | rfl | cases h

theorem toE_cells {agg : Bool} {fuel : Nat} {t : TypeId} {ys : List D} (h : TypedC τ fuel t ys) (he : agg = (τ t).td.isAgg) : (toE agg ys).cells = ys := by
  subst he
  cases fuel with
  | zero => exact h.elim
  | succ n =>
    unfold TypedC at h
    cases ht : (τ t).td <;> rw [ht] at h <;> first | exact h.elim | rfl | (obtain ⟨b, rfl⟩ := h; rfl) | (obtain ⟨m, _, _, rfl⟩ := h; rfl) | (obtain ⟨m, _, rfl⟩ := h; rfl) | (obtain ⟨m, _, rfl, _⟩ := h; rfl)

/-- What a row reads is data of its type. -/
theorem trod_typed (hT : TyOk P τ) : ∀ (fuel : Nat) (t : TypeId) (cs : List Value) (x : DataW H × List MemPlace) (n : Nat), DataW.trod enc P w base sp held n t cs = some x → supp τ fuel t = true → posB P τ fuel t = true → (∀ m, m ∈ x.1.weights P t → m ≤ reachBytes) →
    ∃ xs, CellsRel w xs cs ∧ xs.length = (τ t).size ∧ TypedC τ fuel t xs
  | 0, t, cs, x, n, h, hs, _, _ => by simp [supp] at hs
  | fuel + 1, t, cs, x, n, h, hs, hp, hwt => by
    have hat := hT t (supp_known hs)
    have hcell := cellsOf_eq hT (supp_known hs)
    unfold supp at hs
    unfold posB at hp
    unfold TypedC
    cases ht : (τ t).td <;> rw [ht] at hs hp <;> try (cases hs; done)
    case bool =>
      obtain ⟨b, rfl, _⟩ := DataW.trod_bool (hat.bool ht) h
      exact ⟨_, CellsRel.one (.bool b) rfl, by simpa using (beq_iff_eq.1 hs).symm, b, rfl⟩
    case int k =>
      obtain ⟨m, rfl, _, hw⟩ := DataW.trod_int (hat.int ht) h
      simp only [Lit.wf, Bool.and_eq_true, decide_eq_true_eq] at hw
      exact ⟨_, CellsRel.one (.int k m hw.1 hw.2) rfl, by simpa using (beq_iff_eq.1 hs).symm, m, hw.1, hw.2, rfl⟩
    case str =>
      obtain ⟨b, rfl, rfl, hb⟩ := DataW.trod_string (hat.str ht) h
      have hr : b.data.toList.length ≤ reach := hwt _ (by simp [DataW.weights])
      have hb' : b.data.toList.length ≤ maxLen := by rw [Array.length_toList]; exact hb
      have : Rel w (fun b => b < w.heap.size) [] (.str b.data.toList) (.string b) := .str b.data.toList hb'
      exact ⟨_, CellsRel.one this rfl, by simpa using (beq_iff_eq.1 hs).symm, _, hr, rfl⟩
    case slice e =>
      simp only [Bool.and_eq_true, beq_iff_eq] at hs
      simp only [Bool.and_eq_true, decide_eq_true_eq] at hp
      have hce := cellsOf_eq hT (supp_known hs.2)
      rcases DataW.trod_slice (hat.slice ht) h with ⟨rfl, _⟩ | ⟨a, len, cap, elems, rest, m, _, rfl, rfl, _, hlc, hcm, hel, hget, _⟩
      · exact ⟨_, CellsRel.one (.slNone (τ e).size false) rfl, by simp [hs.1], [], Nat.zero_le _, rfl, fun x hx => by cases hx⟩
      · have hlr : len ≤ reach := by
          have h1 := hwt ((elems.length + rest.length) * P.bytesOf e) (by simp [DataW.weights, hat.slice ht])
          have h2 : elems.length + rest.length ≤ (elems.length + rest.length) * P.bytesOf e := Nat.le_mul_of_pos_right _ hp.1
          have h3 : reachBytes = reach := rfl
          omega
        rw [hce] at hget
        have each : ∀ i, ∃ ys, i < len → (∀ j, j < (τ e).size → ∃ (d : D) (v : Value), ys[j]? = some d ∧ w.cell? (a.add (i * (τ e).size + j)) = some v ∧ Rel w (fun b => b < w.heap.size) [] d v ∧ v.oneCell' = true) ∧ ys.length = (τ e).size ∧ TypedC τ fuel e ys := by
          intro i
          by_cases hi : i < len
          · have h1 := hget i hi
            rw [List.getElem?_eq_getElem (by omega)] at h1
            cases hc : w.cells? base (a.add (i * (τ e).size)) (τ e).size with
            | none => rw [hc] at h1; simp at h1
            | some cs' =>
              rw [hc] at h1
              simp only [Option.bind_some] at h1
              obtain ⟨ys, k1, k2, k3⟩ := trod_typed hT fuel e cs' _ m h1 hs.2 hp.2 (fun n hn => hwt n (by
                simp only [DataW.weights, hat.slice ht, List.mem_cons, List.mem_append]
                exact .inr (.inl (weightsAll_mem (List.mem_map.2 ⟨_, List.getElem_mem (by omega), rfl⟩) n hn))))
              obtain ⟨k4, k5⟩ := cells_get hc
              refine ⟨ys, fun _ => ⟨fun j hj => ?_, k2, k3⟩⟩
              obtain ⟨v, k6, k7⟩ := k5 j hj
              rw [addr_add_add] at k7
              have hjl : j < ys.length := by omega
              obtain ⟨k8, k9⟩ := k1.2 j _ v (List.getElem?_eq_getElem hjl) k6
              exact ⟨_, v, List.getElem?_eq_getElem hjl, k7, k8, k9⟩
          · exact ⟨[], fun h => absurd h hi⟩
        obtain ⟨Y, hY⟩ := Classical.axiomOfChoice each
        have hidx : ∀ i, i < len * (τ e).size → i / (τ e).size < len ∧ i % (τ e).size < (τ e).size ∧ i / (τ e).size * (τ e).size + i % (τ e).size = i := fun i hi => by
          have hz : 0 < (τ e).size := by
            rcases Nat.eq_zero_or_pos (τ e).size with h0 | h0
            · rw [h0] at hi; omega
            · exact h0
          refine ⟨Nat.div_lt_of_lt_mul (by rw [Nat.mul_comm]; exact hi), Nat.mod_lt _ hz, ?_⟩
          rw [Nat.mul_comm]; exact Nat.div_add_mod i _
        refine ⟨[.sl (τ e).size ((List.range len).map fun i => toE (τ e).td.isAgg (Y i)) false], CellsRel.one ?_ rfl, by simp [hs.1], _, by simp; omega, rfl, fun x hx => ?_⟩
        · have hel2 : ((List.range len).map fun i => toE (τ e).td.isAgg (Y i)).length = len := by simp
          have hcells : ∀ i, i < len → (toE (τ e).td.isAgg (Y i)).cells = Y i := fun i hi => toE_cells (hY i hi).2.2 rfl
          have := Rel.sl (w := w) (S := fun b => b < w.heap.size) (β := []) (τ e).size ((List.range len).map fun i => toE (τ e).td.isAgg (Y i)) false a cap (fun i => (w.cell? (a.add i)).getD undef) (by rw [hel2]; exact hlc) hcm (fun h => by cases h)
            (fun x hx => by
              obtain ⟨i, hi, rfl⟩ := List.mem_map.1 hx
              rw [hcells i (List.mem_range.1 hi)]
              exact (hY i (List.mem_range.1 hi)).2.1)
            (fun i hi => by
              rw [hel2] at hi
              obtain ⟨k1, k2, k3⟩ := hidx i hi
              obtain ⟨d, v, k4, k5, k6, k7⟩ := (hY _ k1).1 _ k2
              rw [k3] at k5
              rw [k5]
              refine ⟨?_, rfl, k7⟩
              have := cell_lt k5
              rwa [show (a.add i).block = a.block from by unfold Addr.add; split <;> rfl] at this)
            (fun i x j d hx hd => by
              have hi : i < len := by
                have := (List.getElem?_eq_some_iff.1 hx).1
                simpa using this
              rw [List.getElem?_map, List.getElem?_range hi] at hx
              simp only [Option.map_some, Option.some.injEq] at hx
              subst hx
              rw [hcells i hi] at hd
              have hj : j < (τ e).size := by rw [← (hY i hi).2.1]; exact (List.getElem?_eq_some_iff.1 hd).1
              obtain ⟨d', v, k4, k5, k6, k7⟩ := (hY i hi).1 j hj
              rw [hd] at k4
              cases k4
              simp only [k5, Option.getD_some]
              exact k6)
          rw [hel2] at this
          exact this
        · obtain ⟨i, hi, rfl⟩ := List.mem_map.1 hx
          exact ⟨Y i, (hY i (List.mem_range.1 hi)).2.2, rfl⟩
    case struct fs =>
      simp only [Bool.and_eq_true, List.all_eq_true] at hs
      simp only [List.all_eq_true] at hp
      obtain ⟨g, hg, hgf⟩ := hat.struct ht
      obtain ⟨xs, m, _, rfl, hlen, hxs, hget⟩ := DataW.trod_struct hg h
      rw [hcell] at hlen
      obtain ⟨ys, h1, h2⟩ := fields_join (w := w) (τ := τ) (TypedC τ fuel) cs fs 0 (τ t).size hs.1 hlen.symm (fun f hf => by
        rw [← hgf] at hf
        obtain ⟨g0, hg0, rfl⟩ := List.mem_map.1 hf
        obtain ⟨i, hi⟩ := List.getElem?_of_mem hg0
        have hsf := hs.2 (g0.offset, g0.type) (by rw [← hgf]; exact hf)
        have h3 := hget i g0 (by simpa using hi)
        rw [cellsOf_eq hT (supp_known hsf)] at h3
        have hlt : i < xs.length := by rw [hxs]; simpa using (List.getElem?_eq_some_iff.1 hi).1
        rw [List.getElem?_eq_getElem hlt] at h3
        obtain ⟨ys, k1, _, k3⟩ := trod_typed hT fuel g0.type _ _ m h3 hsf (hp (g0.offset, g0.type) (by rw [← hgf]; exact hf)) (fun n hn => hwt n (by
          simp only [DataW.weights, hg]
          exact DataW.weights_mem_each (j := i) (t := g0.type) (d := xs[i].1) (by rw [List.getElem?_map, hi]; rfl) (by rw [List.getElem?_map, List.getElem?_eq_getElem hlt]; rfl) n hn))
        exact ⟨ys, k1, k3⟩)
      rw [List.drop_zero] at h1
      exact ⟨ys, h1, by rw [h1.1, hlen], by rw [h1.1, hlen], fun f hf => by simpa using (h2 f hf).2⟩
    case array k e =>
      simp only [Bool.and_eq_true, beq_iff_eq] at hs
      obtain ⟨xs, m, _, rfl, hlen, hxs, hget⟩ := DataW.trod_array (hat.array ht) h
      rw [hcell] at hlen
      rw [cellsOf_eq hT (supp_known hs.2)] at hget
      obtain ⟨ys, h1, h2⟩ := array_join (w := w) (TypedC τ fuel e) cs (τ e).size k 0 (by omega) (fun i hi => by
        have h3 := hget i hi
        rw [List.getElem?_eq_getElem (by omega)] at h3
        obtain ⟨ys, k1, _, k3⟩ := trod_typed hT fuel e _ _ m h3 hs.2 hp (fun n hn => hwt n (by
          simp only [DataW.weights, hat.array ht]
          exact weightsAll_mem (List.mem_map.2 ⟨_, List.getElem_mem (by omega), rfl⟩) n hn))
        rw [Nat.zero_add]
        exact ⟨ys, k1, k3⟩)
      rw [Nat.zero_mul, List.drop_zero] at h1
      exact ⟨ys, h1, by rw [h1.1, hlen], by rw [h1.1, hlen], h2⟩

/-- A parameter's value. -/
theorem param_rel (hT : TyOk P τ) {base' : Nat} {fuel : Nat} {t : TypeId} {v : Value} {d : DataW H} {ps : List MemPlace} (h : DataW.Trod enc P w base sp held t v d ps) (hs : supp τ fuel t = true) (hp : posB P τ fuel t = true) (hwt : ∀ m, m ∈ d.weights P t → m ≤ reachBytes) (hv : Value.okWide P w .any base' t v) :
    ∃ x, Typed τ fuel t x ∧ Rel w (fun b => b < w.heap.size) [] x v := by
  obtain ⟨n, hn⟩ := h
  obtain ⟨xs, h1, h2, h3⟩ := trod_typed hT fuel t v.cells.toList _ n hn hs hp hwt
  refine ⟨toE (τ t).td.isAgg xs, ⟨xs, h3, rfl⟩, ?_⟩
  have hat := hT t (supp_known hs)
  cases fuel with
  | zero => exact h3.elim
  | succ fuel =>
    cases ht : (τ t).td
    case struct fs =>
      obtain ⟨g, hg, _⟩ := hat.struct ht
      unfold Value.okWide at hv
      rw [hg] at hv
      obtain ⟨cs, rfl, _, _⟩ := hv
      simp only [TD.isAgg, toE, if_true]
      exact .agg xs cs (by have := h1.1; simp [Value.cells] at this; omega) (fun i u hu => by
        have hlt : i < xs.length := by rw [h1.1]; simp [Value.cells]; exact (Array.getElem?_eq_some_iff.1 hu).1
        exact (h1.2 i _ u (List.getElem?_eq_getElem hlt) (by simpa [Value.cells] using hu)).2) (fun i x u hx hu => (h1.2 i x u hx (by simpa [Value.cells] using hu)).1)
    case array k e =>
      unfold Value.okWide at hv
      rw [hat.array ht] at hv
      obtain ⟨cs, rfl, _, _⟩ := hv
      simp only [TD.isAgg, toE, if_true]
      exact .agg xs cs (by have := h1.1; simp [Value.cells] at this; omega) (fun i u hu => by
        have hlt : i < xs.length := by rw [h1.1]; simp [Value.cells]; exact (Array.getElem?_eq_some_iff.1 hu).1
        exact (h1.2 i _ u (List.getElem?_eq_getElem hlt) (by simpa [Value.cells] using hu)).2) (fun i x u hx hu => (h1.2 i x u hx (by simpa [Value.cells] using hu)).1)
    all_goals
      unfold TypedC at h3
      rw [ht] at h3
      first
        | exact h3.elim
        | (have hc : v.cells.toList = [v] := by
             unfold Value.okWide at hv
             first
               | (rw [hat.bool ht] at hv; cases v <;> first | rfl | (simp [Cell.okWide, Cell.ok, hat.bool ht] at hv))
               | (rw [hat.int ht] at hv; cases v <;> first | rfl | (simp [Cell.okWide, Cell.ok, hat.int ht] at hv))
               | (rw [hat.str ht] at hv; cases v <;> first | rfl | (simp [Cell.okWide, Cell.ok, hat.str ht] at hv))
               | (rw [hat.slice ht] at hv; cases v <;> first | rfl | (simp [Cell.okWide, Cell.ok, hat.slice ht] at hv))
           rw [hc] at h1
           have hx : xs.length = 1 := h1.1
           obtain ⟨x, rfl⟩ := List.length_eq_one_iff.1 hx
           exact (h1.2 0 x v rfl rfl).1)

end
end Go.Proofs.YtlkffgmejcgdbaaDoor

/- From a function of data to a row that says: whatever the input, true, and the input reads as it did. Of no program. -/
namespace Go.Proofs.YtlkffgmejcgdbaaDoor
set_option linter.all false
open Go.ChangeShapes Go.WideShapes Go.ChangeAt Go.RowKit

/-- Arguments, each data of its type. -/
def TypedAll (τ : Ty) (fuel : Nat) : List TypeId → List D → Prop
  | [], [] => True
  | t :: ts, d :: ds => Typed τ fuel t d ∧ TypedAll τ fuel ts ds
  | _, _ => False

section
variable {P : Program} {τ : Ty} {H : Type} {enc : TypeId × Value → H} {w : World} {base : Nat} {sp : Nat → Bool} {held : Bool}

theorem all_rel (hT : TyOk P τ) {base' fuel : Nat} : ∀ {ts : List TypeId} {vs : List Value} {ds : List (DataW H)} {p : List MemPlace}, DataW.TrodAll enc P w base sp held ts vs ds p → (∀ t, t ∈ ts → (supp τ fuel t && posB P τ fuel t) = true) → (∀ m, m ∈ DataW.weightsEach P ts ds → m ≤ reachBytes) →
    (∀ (j : Nat) t v, ts[j]? = some t → vs[j]? = some v → Value.okWide P w .any base' t v) → ∃ Ds, TypedAll τ fuel ts Ds ∧ Ds.length = vs.length ∧ ds.length = ts.length ∧ ∀ (i : Nat) d v, Ds[i]? = some d → vs[i]? = some v → Rel w (fun b => b < w.heap.size) [] d v
  | [], _, _, _, h, _, _, _ => by
    obtain ⟨rfl, rfl, rfl⟩ := trodAll_nil h
    exact ⟨[], trivial, rfl, rfl, fun i d v h => by simp at h⟩
  | t :: ts, _, _, _, h, hs, hwt, hv => by
    obtain ⟨v, vs, d, ds, p, q, rfl, rfl, rfl, h1, h2⟩ := trodAll_cons h
    obtain ⟨x, h3, h4⟩ := param_rel hT h1 (Bool.and_eq_true _ _ ▸ hs t (by simp)).1 (Bool.and_eq_true _ _ ▸ hs t (by simp)).2 (fun m hm => hwt m (by simp only [DataW.weightsEach, List.mem_append]; exact .inl hm)) (hv 0 t v rfl rfl)
    obtain ⟨Ds, h5, h6, h8, h7⟩ := all_rel hT h2 (fun t ht => hs t (by simp [ht])) (fun m hm => hwt m (by simp only [DataW.weightsEach, List.mem_append]; exact .inr hm)) (fun j t v h1 h2 => hv (j + 1) t v (by simpa using h1) (by simpa using h2))
    refine ⟨x :: Ds, ⟨h3, h5⟩, by simp [h6], by simp [h8], fun i d v hd hv => ?_⟩
    cases i with
    | zero => simp at hd hv; subst hd; subst hv; exact h4
    | succ i => exact h7 i d v (by simpa using hd) (by simpa using hv)

theorem all_stays {W W' : World} (hl : laidOutB P = true) : ∀ {ts : List TypeId} {vs : List Value} {ds : List (DataW H)} {p : List MemPlace}, DataW.TrodAll enc P W 0 (fun _ => true) true ts vs ds p → (∀ t, t ∈ ts → P.readableRec t = true ∧ t < P.types.size) →
    (∀ x, x ∈ p → W.sameAt W' x) → (∀ x, x ∈ p → sp x.block = true) → DataW.TrodAll enc P W' 0 sp true ts vs ds p
  | [], _, _, _, h, _, _, _ => by
    obtain ⟨rfl, rfl, rfl⟩ := trodAll_nil h
    exact rfl
  | t :: ts, _, _, _, h, hr, h1, h2 => by
    obtain ⟨v, vs, d, ds, p, q, rfl, rfl, rfl, h3, h4⟩ := trodAll_cons h
    exact ⟨p, q, WideElems.Trod_stays hl (hr t (by simp)).1 (hr t (by simp)).2 h3 (fun x hx => h1 x (by simp [hx])) (fun x hx => h2 x (by simp [hx])),
      all_stays hl h4 (fun t ht => hr t (by simp [ht])) (fun x hx => h1 x (by simp [hx])) (fun x hx => h2 x (by simp [hx])), rfl⟩

/-- A row's answer, where of what was there nothing has turned. -/
theorem post_here {f : Func} {s : ChangeSpec} {apart fresh handsOn again : Bool} {W W' : World} {args : Array Value} {v : Value} {ds gs : List (DataW H)} {before pa pv : List MemPlace}
    (hW : DataW.Whole enc P f.params.toList s.vars apart W args.toList ds gs before)
    (hres : ∀ (b : Nat) (sp : Nat → Bool) (hd : Bool), DataW.TrodAll enc P W' b sp hd f.resultTypes.toList (v.resultList f.resultTypes.size) (s.fn H (ds ++ gs)).results [])
    (hargs : ∀ sp : Nat → Bool, (∀ p ∈ before, sp p.block = true) → DataW.TrodAll enc P W' 0 sp true f.params.toList args.toList (s.fn H (ds ++ gs)).args pa)
    (hvars : ∀ sp : Nat → Bool, (∀ p ∈ before, sp p.block = true) → DataW.TrodVars enc P W' sp s.vars (s.fn H (ds ++ gs)).vars pv)
    (hps : before = pa ++ pv) (hk : W.keptBut W' (· ∈ before)) (hfz : ∀ b off, MemPlace.cell b off ∈ before → W'.frozen? ⟨b, off, none⟩ = W.frozen? ⟨b, off, none⟩)
    (hok : ∀ (j : Nat) (t : TypeId) (r : Value), f.resultTypes[j]? = some t → (v.resultList f.resultTypes.size)[j]? = some r → Value.okWide P W' .any 0 t r) :
    s.post enc P f apart fresh handsOn again W args v W' := by
  have hold : ∀ p ∈ before, (fun b => decide (b < W.heap.size)) p.block = true := fun p hp => by simpa using hW.lt p hp
  refine ⟨ds, gs, before, [], pa, pv, hW, hres _ _ _, hargs _ hold, hvars _ hold, World.keptBut_mono (fun p hp => ⟨hp, ?_⟩) hk, fun _ => ?_⟩
  · rw [hps, List.mem_append] at hp
    exact Or.inr hp
  · obtain ⟨_, _, _, _, _, hz, hn⟩ := hW
    refine ⟨hok, _, _, ([] ++ pa) ++ pv, ⟨[] ++ pa, pv, trodAll_append (hargs _ (fun _ _ => rfl)) (hres _ _ _), hvars _ (fun _ _ => rfl), rfl, ?_, ?_⟩, ?_⟩
    · intro b off hp
      have hp' : MemPlace.cell b off ∈ before := by rw [hps]; simpa using hp
      rw [hfz b off hp']
      exact hz b off hp'
    · intro ha
      have := hn ha
      rw [hps] at this
      simpa using this
    · intro p hp _
      rw [hps]
      simpa using hp

/-- What a row asks of a call, by a function of data. -/
theorem lift_body {C : Checked} {f : FuncId} {fn : Func} {s : ChangeSpec} {apart fresh handsOn again : Bool} (fuel : Nat) {t : TypeId}
    (hT : TyOk C.prog τ) (hlay : laidOutB C.prog = true) (hread : fn.params.toList.all (fun t => C.prog.readableRec t && decide (t < C.prog.types.size)) = true) (hsupp : fn.params.toList.all (fun t => supp τ fuel t && posB C.prog τ fuel t) = true)
    (hvars : s.vars = []) (hs : ∀ ds, ds.length = fn.params.toList.length → s.fn H ds = { results := [.lit (.bool true)], args := ds }) (hres : fn.resultTypes = #[t]) (hb : C.prog.underlying t = some .bool)
    (hf : ∀ Ds, TypedAll τ fuel fn.params.toList Ds → PureF C.prog f Ds (.bool true))
    (W : World) (base : Nat) (args : Array Value) (ds gs : List (DataW H)) (before : List MemPlace)
    (hval : ∀ (j : Nat) t v, fn.params[j]? = some t → args[j]? = some v → Value.okWide C.prog W .any base t v)
    (hW : DataW.Whole enc C.prog fn.params.toList s.vars apart W args.toList ds gs before)
    (hsz : (DataW.weightsEach C.prog (fn.params.toList ++ s.plain.varTypes C.prog) (ds ++ gs)).all (· ≤ reachBytes) = true)
    (hgl : ∀ g t, glTy g = some t → g < W.heap.size ∧ ∃ a, W.cell? ⟨g, 0, none⟩ = some (.iface t (.pointer (some a)))) :
    Calls C.prog f args W fun e W' => ∃ v, e = .returned v ∧ s.post enc C.prog fn apart fresh handsOn again W args v W' := by
  have hW' := hW
  obtain ⟨p, q, hA, hV, rfl, hfz, hnd⟩ := hW
  rw [hvars] at hV
  have hgs : gs = [] ∧ q = [] := by
    cases gs with
    | nil => exact ⟨rfl, hV⟩
    | cons g gs => exact hV.elim
  obtain ⟨rfl, rfl⟩ := hgs
  rw [List.append_nil] at hW' hfz hnd
  simp only [List.all_eq_true] at hsupp
  simp only [List.all_eq_true, Bool.and_eq_true, decide_eq_true_eq] at hread
  obtain ⟨Ds, h1, h2, h2', h3⟩ := all_rel hT hA hsupp (fun m hm => by
    have := List.all_eq_true.1 hsz m (by
      have hv0 : s.plain.varTypes C.prog = [] := by simp [ChangeSpec.plain, DataSpec.varTypes, hvars]
      simpa [hv0] using hm)
    simpa using this) (fun j t v ht hv => hval j t v (by simpa using ht) (by simpa using hv))
  have hI : AInv W (fun b => b < W.heap.size) [] [] := ⟨rfl, fun b cs h => by simp at h, fun b cs h => by simp at h, fun b b' cs cs' blk o o' h => by simp at h, ⟨fun _ h => h, hgl⟩, fun b h => by simp at h⟩
  refine ((hf Ds h1).2 W _ [] args hI (by simpa using h2.symm) (fun i d v hd hv => h3 i d v hd (by simpa using hv))).mono ?_
  rintro e W' ⟨v, d, H', S', β', rfl, h4, h5, h6, h7⟩
  obtain ⟨S'', h8, h9⟩ := h4.freezeAll
  have hv : v = .bool true := by
    have := h7.2 W' S'' β' v h8 (h6.evo h4 h9)
    cases this; rfl
  subst hv
  have hnm : ∀ b, ¬ Mut [] [] b := fun b h => by
    obtain ⟨i, cs, o, h, _⟩ := h
    simp at h
  have hblk : ∀ b, b < W.heap.size → W'.heap[b]? = W.heap[b]? := fun b hb => h5.frame b hb (hnm b)
  have hlt := hW'.lt
  have hs' := hs (ds ++ []) (by simp [h2'])
  refine ⟨.bool true, rfl, post_here (pa := p) (pv := []) hW' (fun b sp hd => ?_) (fun sp hsp => ?_) (fun sp _ => ?_) (List.append_nil p).symm ?_ (fun b off hp => ?_) ?_⟩
  · rw [hres, hs']
    exact ⟨[], [], ⟨1, by simp [DataW.trod, hb, Value.cells]⟩, rfl, rfl⟩
  · rw [hs']
    simp only [List.append_nil]
    refine all_stays hlay hA hread (fun x hx => ?_) hsp
    cases x with
    | cell b o => exact World.cell?_of_block (w := W) (hblk b (hlt _ hx))
    | map b => exact hblk b (hlt _ hx)
  · rw [hs', hvars]; rfl
  · refine ⟨h5.os, h5.output, fun i hi => ?_⟩
    rw [hblk i hi]
    split <;> simp_all
  · exact World.frozen?_of_block (w := W) (hblk b (hlt _ hp))
  · exact ok_one hres rfl (by simp [Value.okWide, hb, Cell.okWide, Cell.ok])

theorem lifted {C : Checked} {os : Os} {f : FuncId} {fn : Func} {s : ChangeSpec} {a : Assume} {conds : List PathCond} {apart fresh handsOn again : Bool} (fuel : Nat) {t : TypeId}
    (own : ownKnob C.prog.godebug = none) (started : os.Started) (noInit : C.prog.inits.idxOf? f = none) (hfn : C.prog.funcs[f]? = some fn)
    (witness : ∃ (w : World) (tape : Tape) (i : Input), w.os = os ∧ (w.forCall tape i).Shaped C.prog ∧ i.vars = [] ∧ Input.okWide C.prog (w.forCall tape i) .any w.heap.size f i ∧
      s.pre6 enc C.prog fn conds apart (w.forCall tape i).memory i.args ∧ a.holds C.prog (lone (Frame.enter C.prog f i.args .normal) [] (w.forCall tape i)))
    (hT : TyOk C.prog τ) (hlay : laidOutB C.prog = true) (hread : fn.params.toList.all (fun t => C.prog.readableRec t && decide (t < C.prog.types.size)) = true) (hsupp : fn.params.toList.all (fun t => supp τ fuel t && posB C.prog τ fuel t) = true)
    (hvars : s.vars = []) (hs : ∀ ds, ds.length = fn.params.toList.length → s.fn H ds = { results := [.lit (.bool true)], args := ds }) (hres : fn.resultTypes = #[t]) (hb : C.prog.underlying t = some .bool)
    (hf : ∀ Ds, TypedAll τ fuel fn.params.toList Ds → PureF C.prog f Ds (.bool true)) (h0 : glIds = []) :
    ReturnsInHanded a C os f .any (s.pre6 enc C.prog fn conds apart) (s.post enc C.prog fn apart fresh handsOn again) :=
  returnsInHanded_of_change_sized own started noInit hfn witness fun W base args ds gs before hval hW _ hsz _ =>
    lift_body fuel hT hlay hread hsupp hvars hs hres hb hf W base args ds gs before hval hW hsz (fun g t hg => by rw [glTy, h0] at hg; cases hg)

/-- The same, where the row lists what package-level variables hold. -/
theorem liftedL {C : Checked} {os : Os} {f : FuncId} {fn : Func} {s : ChangeSpec} {a : Assume} {conds : List PathCond} {apart fresh handsOn again : Bool} {X : World → Array Value → Prop} (fuel : Nat) {t : TypeId}
    (hX : ∀ (w w' : World) (args : Array Value), w.heap = w'.heap → X w args → X w' args)
    (own : ownKnob C.prog.godebug = none) (started : os.Started) (noInit : C.prog.inits.idxOf? f = none) (hfn : C.prog.funcs[f]? = some fn)
    (witness : ∃ (w : World) (tape : Tape) (i : Input), w.os = os ∧ (w.forCall tape i).Shaped C.prog ∧ i.vars = [] ∧ Input.okWide C.prog (w.forCall tape i) .any w.heap.size f i ∧
      ((s.pre enc C.prog fn conds apart (w.forCall tape i).memory i.args ∧ X (w.forCall tape i).memory i.args) ∧ sizedMet enc C.prog fn (OpenSpec.ofChange s) apart (w.forCall tape i).memory i.args) ∧ a.holds C.prog (lone (Frame.enter C.prog f i.args .normal) [] (w.forCall tape i)))
    (hgl : ∀ (w : World) (args : Array Value), X w args → ∀ g t, glTy g = some t → g < w.heap.size ∧ ∃ a, w.cell? ⟨g, 0, none⟩ = some (.iface t (.pointer (some a))))
    (hT : TyOk C.prog τ) (hlay : laidOutB C.prog = true) (hread : fn.params.toList.all (fun t => C.prog.readableRec t && decide (t < C.prog.types.size)) = true) (hsupp : fn.params.toList.all (fun t => supp τ fuel t && posB C.prog τ fuel t) = true)
    (hvars : s.vars = []) (hs : ∀ ds, ds.length = fn.params.toList.length → s.fn H ds = { results := [.lit (.bool true)], args := ds }) (hres : fn.resultTypes = #[t]) (hb : C.prog.underlying t = some .bool)
    (hf : ∀ Ds, TypedAll τ fuel fn.params.toList Ds → PureF C.prog f Ds (.bool true)) :
    ReturnsInHanded a C os f .any (fun w args => (s.pre enc C.prog fn conds apart w args ∧ X w args) ∧ sizedMet enc C.prog fn (OpenSpec.ofChange s) apart w args) (s.post enc C.prog fn apart fresh handsOn again) :=
  returnsInHanded_of_change_and hX own started noInit hfn witness fun W base args ds gs before hval hW _ hsz hL _ =>
    lift_body fuel hT hlay hread hsupp hvars hs hres hb hf W base args ds gs before hval hW hsz (hgl W args hL)

end
end Go.Proofs.YtlkffgmejcgdbaaDoor

/- Typed data, decoded: what the printed tables of a seat lean on. Of no program. -/
namespace Go.Proofs.YtlkffgmejcgdbaaDoor
set_option linter.all false

def okInt (k : IntKind) (n : Int) : Prop := k.min ≤ n ∧ n ≤ k.max
def okStr (s : List UInt8) : Prop := s.length ≤ reach
def okL {α : Type} (p : α → Prop) (l : List α) : Prop := l.length ≤ reach ∧ ∀ x, x ∈ l → p x
def okT {α : Type} (_ : α) : Prop := True

theorem reach_le : reach ≤ maxLen := by decide
theorem okStr.max {s : List UInt8} (h : okStr s) : s.length ≤ maxLen := Nat.le_trans h reach_le
theorem okL.max {α : Type} {p : α → Prop} {l : List α} (h : okL p l) : l.length ≤ maxLen := Nat.le_trans h.1 reach_le
theorem reach_lit : reach = 140737488351232 := rfl

/-- A slice of data. -/
abbrev dl {α : Type} (sz : Nat) (f : α → D) (l : List α) : D := .sl sz (l.map f) false

theorem list_of {α : Type} {g : α → D} {p : α → Prop} : ∀ (es : List D), (∀ x, x ∈ es → ∃ y, p y ∧ x = g y) → ∃ l : List α, es = l.map g ∧ ∀ y, y ∈ l → p y
  | [], _ => ⟨[], rfl, fun y h => by cases h⟩
  | e :: es, h => by
    obtain ⟨y, h1, rfl⟩ := h e (by simp)
    obtain ⟨l, rfl, h2⟩ := list_of es fun x hx => h x (by simp [hx])
    refine ⟨y :: l, rfl, fun z hz => ?_⟩
    rcases List.mem_cons.1 hz with rfl | hz
    · exact h1
    · exact h2 z hz

section
variable {τ : Ty} {n : Nat} {t : TypeId} {xs : List D}

theorem dec_int {k : IntKind} (e : (τ t).td = .int k) (h : TypedC τ n t xs) : ∃ m, okInt k m ∧ xs = [.int k m] := by
  cases n with
  | zero => exact h.elim
  | succ n => unfold TypedC at h; rw [e] at h; obtain ⟨m, h1, h2, h3⟩ := h; exact ⟨m, ⟨h1, h2⟩, h3⟩

theorem dec_u8 (e : (τ t).td = .int .u8) (h : TypedC τ n t xs) : ∃ b : UInt8, okT b ∧ xs = [byteD b] := by
  obtain ⟨m, ⟨h1, h2⟩, rfl⟩ := dec_int e h
  rw [min_u8] at h1
  rw [max_u8] at h2
  refine ⟨UInt8.ofNat m.toNat, trivial, ?_⟩
  unfold byteD
  rw [UInt8.toNat_ofNat', Nat.mod_eq_of_lt (by omega), Int.toNat_of_nonneg h1]

theorem dec_bool (e : (τ t).td = .bool) (h : TypedC τ n t xs) : ∃ b : Bool, okT b ∧ xs = [.bool b] := by
  cases n with
  | zero => exact h.elim
  | succ n => unfold TypedC at h; rw [e] at h; obtain ⟨b, h⟩ := h; exact ⟨b, trivial, h⟩

theorem dec_str (e : (τ t).td = .str) (h : TypedC τ n t xs) : ∃ s, okStr s ∧ xs = [.str s] := by
  cases n with
  | zero => exact h.elim
  | succ n => unfold TypedC at h; rw [e] at h; exact h

theorem dec_slice {α : Type} {f : α → D} {p : α → Prop} {t' : TypeId} (e : (τ t).td = .slice t') (hs : ∀ n ys, TypedC τ n t' ys → ∃ x, p x ∧ toE (τ t').td.isAgg ys = f x) (h : TypedC τ n t xs) :
    ∃ l : List α, okL p l ∧ xs = [dl (τ t').size f l] := by
  cases n with
  | zero => exact h.elim
  | succ n =>
    unfold TypedC at h
    rw [e] at h
    obtain ⟨es, h1, rfl, h2⟩ := h
    obtain ⟨l, rfl, h3⟩ := list_of (g := f) (p := p) es fun x hx => by
      obtain ⟨ys, h4, rfl⟩ := h2 x hx
      exact hs n ys h4
    exact ⟨l, ⟨by simpa using h1, h3⟩, rfl⟩

theorem struct_of {fs : List (Nat × TypeId)} (e : (τ t).td = .struct fs) (h : TypedC τ n t xs) : ∃ m, xs.length = (τ t).size ∧ ∀ f, f ∈ fs → TypedC τ m f.2 ((xs.drop f.1).take (τ f.2).size) := by
  cases n with
  | zero => exact h.elim
  | succ n => unfold TypedC at h; rw [e] at h; exact ⟨n, h⟩

theorem array_of {k : Nat} {t' : TypeId} (e : (τ t).td = .array k t') (h : TypedC τ n t xs) : ∃ m, xs.length = (τ t).size ∧ ∀ i, i < k → TypedC τ m t' ((xs.drop (i * (τ t').size)).take (τ t').size) := by
  cases n with
  | zero => exact h.elim
  | succ n => unfold TypedC at h; rw [e] at h; exact ⟨n, h⟩

theorem noL {α : Type} (f : α → D) (hf : ∀ x, (f x).noIds = true) (l : List α) : D.noIdsL (l.map f) = true := noIds_of_mem fun d h => by
  obtain ⟨x, _, rfl⟩ := List.mem_map.1 h
  exact hf x
theorem ni_dl {α : Type} (sz : Nat) {f : α → D} (hf : ∀ x, (f x).noIds = true) (l : List α) : (dl sz f l).noIds = true := by simp only [dl, D.noIds, noL f hf l]
end
end Go.Proofs.YtlkffgmejcgdbaaDoor

/- Calls of functions of data on blocks of one's own. Of no program. -/
namespace Go.Proofs.YtlkffgmejcgdbaaDoor
set_option linter.all false

theorem maxLen_lit : maxLen = 9223372036854775807 := by decide

theorem one_int (k : IntKind) (n : Int) : (D.int k n).one = true := rfl
theorem one_bool (b : Bool) : (D.bool b).one = true := rfl
theorem one_str (s : List UInt8) : (D.str s).one = true := rfl
theorem one_nil : D.nil.one = true := rfl
theorem one_sl (z : Nat) (l : List D) (t : Bool) : (D.sl z l t).one = true := rfl
theorem one_ref (b o n z : Nat) : (D.ref b o n z).one = true := rfl
theorem one_refc (b o n z c : Nat) : (D.refc b o n z c).one = true := rfl
theorem one_cp (l : List D) : (D.cp l).one = true := rfl
theorem one_ptr (b o : Nat) : (D.ptr b o).one = true := rfl
theorem one_nilp : D.nilp.one = true := rfl
theorem one_fn (g : Fn) (l : List D) : (D.fn g l).one = true := rfl
theorem one_nilf : D.nilf.one = true := rfl
theorem one_niface : D.niface.one = true := rfl
theorem one_iface (t : TypeId) (d : D) : (D.iface t d).one = true := rfl

section
variable {P : Program} {τ : Ty} {f : Fit} {d : Drw} {all : List Oper} {k : List It} {Q : AQ} {rest : List Oper} {s : Nat} {env : Env} {dst : Option Tmp} {g : FuncId} {args pargs : List D} {H : AHeap} {z : List WR}

theorem an_go {ob : Prop} {v : D} {H' : AHeap} (h1 : ob) : an P τ f d all k Q rest s env dst ⟨ob, v, H'⟩ = ar P τ f d all k Q rest s (put env dst v) H' := propext ⟨fun h => h.2, fun h => ⟨h1, h⟩⟩
theorem tn_go {ob : Prop} {v : D} {H' : AHeap} {y : WR} (h1 : ob) : tn P τ f d all k Q rest s env dst ⟨ob, v, H'⟩ y z = tr P τ f d all k Q rest s (put env dst v) H' (y :: z) := propext ⟨fun h => h.2, fun h => ⟨h1, h⟩⟩

theorem Subs.nth {xs ys : List D} (h : Subs H xs ys) (i : Nat) (x y : D) (hx : xs[i]? = some x) (hy : ys[i]? = some y) : Sub H x y := h.get.2 i x y hx hy

/-- A call of a function of data, its arguments being told as data. -/
theorem callSub {x : D} (hF : PureF P g pargs x) (hs : Subs H args pargs) (h : ar P τ f d all k Q rest s (put env dst x) H) : acallS P τ f d all k Q rest s env dst g args H :=
  .inl (pcall_sub hF hs.get.1 hs.get.2 h)

theorem aext_froz {K : D → AHeap → Prop} (b : Nat) {cs : List D} (hb : H[b]? = some (.live cs)) (h : AExt P g args (H.set b (.froz cs)) K) : AExt P g args H K := by
  intro w S β vs hI hl hr
  obtain ⟨S', h1, h2, h3⟩ := hI.freeze hb
  obtain ⟨v, w', d, H', S'', β', k1, k2, k3, k4, k5⟩ := h w S' β vs h1 hl (fun i d v hd hv => (hr i d v hd hv).evo hI h2)
  exact ⟨v, w', d, H', S'', β', k1, k2, h2.trans k3, k4, k5⟩

/-- Ahead of a call a block becomes one for good. -/
theorem callFroz (b : Nat) {cs : List D} (hb : H[b]? = some (.live cs)) (h : acallS P τ f d all k Q rest s env dst g args (H.set b (.froz cs))) : acallS P τ f d all k Q rest s env dst g args H :=
  h.elim (fun h => .inl (acall_froz b hb h)) fun h => .inr (aext_froz b hb h)

/-- In an open order: on blocks for good. -/
theorem tcSub {x : D} (R : List Nat) (hF : PureF P g pargs x) (hs : ∀ H' : AHeap, (∀ b, b ∈ R → H'[b]? = H[b]?) → Subs H' args pargs) (h : tr P τ f d all k Q rest s (put env dst x) H ((R, []) :: z)) : tcS P τ f d all k Q rest s env dst g args H z :=
  ⟨R, [], x, H, ⟨fun H' _ he => pcall_sub hF (hs H' fun b hb => he b (.inl hb)).get.1 (hs H' fun b hb => he b (.inl hb)).get.2 ⟨rfl, rfl, fun b hb => absurd hb (by simp), fun b _ => rfl⟩, rfl, fun b _ => rfl⟩, h⟩

/-- In an open order: a block of one's own becomes one for good, and is read. -/
theorem tcFroz {x : D} (b : Nat) {cs : List D} (hb : H[b]? = some (.live cs)) (hF : PureF P g pargs x) (hs : ∀ H' : AHeap, H'[b]? = some (.froz cs) → Subs H' args pargs)
    (h : tr P τ f d all k Q rest s (put env dst x) (H.set b (.froz cs)) (([], [b]) :: z)) : tcS P τ f d all k Q rest s env dst g args H z := by
  have hlt : b < H.length := (List.getElem?_eq_some_iff.1 hb).1
  refine ⟨[], [b], x, H.set b (.froz cs), ⟨fun H' hl he => ?_, by simp, fun c hc => ?_⟩, h⟩
  · have hb' : H'[b]? = some (.live cs) := by rw [he b (.inr (by simp))]; exact hb
    have hself : (H'.set b (.froz cs))[b]? = some (.froz cs) := List.getElem?_set_self (by omega)
    refine acall_froz b hb' (pcall_sub hF (hs _ hself).get.1 (hs _ hself).get.2 ⟨rfl, by simp, fun c hc => ?_, fun c hc => ?_⟩)
    · have : c = b := by simpa using hc
      subst this
      rw [hself, List.getElem?_set_self hlt]
    · exact List.getElem?_set_ne (fun e => hc (by simp [e]))
  · exact List.getElem?_set_ne (fun e => hc (by simp [e]))

theorem Sub.list {α : Type} {b o len sz : Nat} {cs : List D} (l : List α) (f : α → D) (hb : H[b]? = some (.froz cs)) (h1 : l.length = len) (h2 : ∀ x, x ∈ l → (f x).cells.length = sz) (h3 : o + len * sz ≤ cs.length)
    (h4 : (cs.drop o).take (len * sz) = (l.map f).flatMap D.cells) (h5 : ∀ x, x ∈ l → D.noIdsL (f x).cells = true) : Sub H (.ref b o len sz) (.sl sz (l.map f) false) := by
  refine Sub.sl hb (by simpa using h1) (fun e he => ?_) h3 ?_
  · obtain ⟨x, hx, rfl⟩ := List.mem_map.1 he
    exact h2 x hx
  · rw [h4]
    refine Subs.refl (noIds_of_mem fun d hd => ?_)
    obtain ⟨e, he, hd⟩ := List.mem_flatMap.1 hd
    obtain ⟨x, hx, rfl⟩ := List.mem_map.1 he
    have := h5 x hx
    rw [D.noIdsL_eq, List.all_eq_true] at this
    exact this d hd

theorem Sub.loose' {sz : Nat} {es : List D} {t : Bool} (h : D.noIdsL es = true) : Sub H (.sl sz es t) (.sl sz es false) := Sub.loose h

end
end Go.Proofs.YtlkffgmejcgdbaaDoor

/- Cells of mapped lists: what appends and copies ask. Of no program. -/
namespace Go.Proofs.YtlkffgmejcgdbaaDoor
set_option linter.all false

theorem le1_refl (a : D) : le1 a a := .inl rfl
theorem le1_nil (sz : Nat) (t : Bool) : le1 .nil (.sl sz [] t) := .inr (.inl ⟨rfl, sz, t, rfl⟩)
theorem le1_loose (sz : Nat) (es : List D) : le1 (.sl sz es true) (.sl sz es false) := .inr (.inr (.inl ⟨sz, es, rfl, rfl⟩))
theorem le1_ref (b o sz : Nat) : le1 .nil (.ref b o 0 sz) := .inr (.inr (.inr (.inl ⟨rfl, b, o, sz, rfl⟩)))
theorem le1_uncap (b o n sz c : Nat) : le1 (.refc b o n sz c) (.ref b o n sz) := .inr (.inr (.inr (.inr ⟨b, o, n, sz, c, rfl, rfl⟩)))
theorem leD_refl (a : D) : leD a a := .inl (.inl rfl)
theorem leC_refl : ∀ l : List D, leC l l
  | [] => trivial
  | x :: l => ⟨le1_refl x, leC_refl l⟩
theorem leB_refl (b : Blk) : leB b b := by cases b <;> first | rfl | exact leC_refl _
theorem leH_refl : ∀ H : AHeap, leH H H
  | [] => trivial
  | b :: H => ⟨leB_refl b, leH_refl H⟩
theorem leEnv_refl (env : Env) (E : Env) (h : weaker env E) : leEnv env E := by
  induction E with
  | nil => trivial
  | cons x r ih => exact ⟨by rw [h.1]; exact leD_refl _, ih h.2⟩

section
variable {α : Type}

theorem flat_one (f : α → D) (h : ∀ x, (f x).cells = [f x]) (l : List α) : (l.map f).flatMap D.cells = l.map f := by
  induction l with
  | nil => rfl
  | cons x l ih => simp [h, ih]

theorem flat_str (l : List (List UInt8)) : (l.map D.str).flatMap D.cells = l.map D.str := flat_one _ (fun _ => rfl) l
theorem flat_int (k : IntKind) (l : List Int) : (l.map (D.int k)).flatMap D.cells = l.map (D.int k) := flat_one _ (fun _ => rfl) l
theorem flat_byte (l : List UInt8) : (l.map byteD).flatMap D.cells = l.map byteD := flat_one _ (fun _ => rfl) l
theorem flat_sl (z : Nat) (f : α → List D) (t : α → Bool) (l : List α) : (l.map fun x => D.sl z (f x) (t x)).flatMap D.cells = l.map fun x => D.sl z (f x) (t x) := flat_one _ (fun _ => rfl) l

theorem all_one (f : α → D) (h : ∀ x, (f x).one = true) (l : List α) : (l.map f).all D.one = true := by
  induction l with
  | nil => rfl
  | cons x l ih => simp [h, ih]
theorem all_one_str (l : List (List UInt8)) : (l.map D.str).all D.one = true := all_one _ (fun _ => rfl) l
theorem all_one_int (k : IntKind) (l : List Int) : (l.map (D.int k)).all D.one = true := all_one _ (fun _ => rfl) l
theorem all_one_byte (l : List UInt8) : (l.map byteD).all D.one = true := all_one _ (fun _ => rfl) l

theorem chunk_one : ∀ (l : List D), chunk false 1 l.length l = l
  | [] => rfl
  | x :: l => by simp only [List.length_cons, chunk, Bool.false_eq_true, if_false, List.getD_cons_zero, List.drop_succ_cons, List.drop_zero, chunk_one l]
theorem chunk_map (f : α → D) (l : List α) : chunk false 1 l.length (l.map f) = l.map f := by
  have := chunk_one (l.map f)
  rwa [List.length_map] at this

theorem chunk_map' (f : α → D) (l : List α) (n : Nat) (h : n = l.length) : chunk false 1 n (l.map f) = l.map f := by
  subst h; exact chunk_map f l

theorem chunk_agg (f : α → D) (sz : Nat) (h1 : ∀ x, f x = .agg (f x).cells) (h2 : ∀ x, (f x).cells.length = sz) : ∀ (l : List α), chunk true sz l.length ((l.map f).flatMap D.cells) = l.map f
  | [] => rfl
  | x :: l => by
    have e : (f x).cells ++ (l.map f).flatMap D.cells = (f x).cells ++ (l.map f).flatMap D.cells := rfl
    simp only [List.length_cons, chunk, if_true, List.map_cons, List.flatMap_cons]
    rw [List.take_append_of_le_length (by rw [h2]; exact Nat.le_refl _), List.take_of_length_le (by rw [h2]; exact Nat.le_refl _), ← h1, List.drop_append, List.drop_of_length_le (by rw [h2]; exact Nat.le_refl _), h2, Nat.sub_self, List.drop_zero, List.nil_append, chunk_agg f sz h1 h2 l]

theorem byte_all (l : List UInt8) : (l.map byteD).all isByte = true := by
  induction l with
  | nil => rfl
  | cons x l ih => simp [ih, byteD, isByte]

theorem empty_list : ByteArray.empty.data.toList = [] := rfl
theorem empty_size : ByteArray.empty.size = 0 := rfl

theorem unbyte_byte (b : UInt8) : unbyte (byteD b) = b := by
  simp [unbyte, byteD]
theorem unbyte_map (l : List UInt8) : (l.map byteD).map unbyte = l := by
  induction l with
  | nil => rfl
  | cons x l ih => simp only [List.map_cons, unbyte_byte, ih]

/-- A block of one's own, one cell an element, is a slice of data. -/
theorem Sub.own {H : AHeap} {b len : Nat} {cs : List D} (l : List α) (f : α → D) (h1 : ∀ x, (f x).cells = [f x]) (h2 : ∀ x, (f x).noIds = true) (hb : H[b]? = some (.froz cs)) (hl : l.length = len) (hc : cs = l.map f) : Sub H (.ref b 0 len 1) (.sl 1 (l.map f) false) := by
  subst hc; subst hl
  refine Sub.sl1 hb (by simp) (fun e he => ?_) (by simp) (by rw [List.drop_zero]; exact List.take_of_length_le (by simp)) (noL f h2 l)
  obtain ⟨x, _, rfl⟩ := List.mem_map.1 he
  exact h1 x

end
end Go.Proofs.YtlkffgmejcgdbaaDoor

/- Words of bits: what Go's operations on unsigned integers are on bit vectors. Of no program. -/
namespace Go.Proofs.YtlkffgmejcgdbaaDoor
set_option linter.all false

theorem ofInt_nat32 (x : BitVec 32) : BitVec.ofInt 32 (x.toNat : Int) = x := by simp
theorem ofInt_nat8 (x : UInt8) : BitVec.ofInt 8 (x.toNat : Int) = x.toBitVec := by
  apply BitVec.eq_of_toNat_eq
  simp
theorem ofInt_nat64 (x : BitVec 64) : BitVec.ofInt 64 (x.toNat : Int) = x := by simp

theorem wrap32 (x : BitVec 32) : IntKind.u32.wrap (x.toNat : Int) = (x.toNat : Int) := by
  have := x.isLt
  exact IntWalk.u32_in _ (by omega)
theorem wrap8 (x : BitVec 8) : IntKind.u8.wrap (x.toNat : Int) = (x.toNat : Int) := by
  have := x.isLt
  exact IntWalk.u8_in _ (by omega)
theorem wrap64 (x : BitVec 64) : IntKind.u64.wrap (x.toNat : Int) = (x.toNat : Int) := by
  have := x.isLt
  exact IntWalk.u64_in _ (by omega)

theorem and8 (a b : Int) (H : AHeap) : aInt .and .u8 a .u8 b H = ⟨True, .int .u8 ((BitVec.ofInt 8 a &&& BitVec.ofInt 8 b).toNat : Nat), H⟩ := by
  simp only [aInt, true_and, R.mk.injEq, D.int.injEq, and_true]
  exact wrap8 _
theorem or8 (a b : Int) (H : AHeap) : aInt .or .u8 a .u8 b H = ⟨True, .int .u8 ((BitVec.ofInt 8 a ||| BitVec.ofInt 8 b).toNat : Nat), H⟩ := by
  simp only [aInt, true_and, R.mk.injEq, D.int.injEq, and_true]
  exact wrap8 _
theorem xor8 (a b : Int) (H : AHeap) : aInt .xor .u8 a .u8 b H = ⟨True, .int .u8 ((BitVec.ofInt 8 a ^^^ BitVec.ofInt 8 b).toNat : Nat), H⟩ := by
  simp only [aInt, true_and, R.mk.injEq, D.int.injEq, and_true]
  exact wrap8 _
theorem and32 (a b : Int) (H : AHeap) : aInt .and .u32 a .u32 b H = ⟨True, .int .u32 ((BitVec.ofInt 32 a &&& BitVec.ofInt 32 b).toNat : Nat), H⟩ := by
  simp only [aInt, true_and, R.mk.injEq, D.int.injEq, and_true]
  exact wrap32 _
theorem or32 (a b : Int) (H : AHeap) : aInt .or .u32 a .u32 b H = ⟨True, .int .u32 ((BitVec.ofInt 32 a ||| BitVec.ofInt 32 b).toNat : Nat), H⟩ := by
  simp only [aInt, true_and, R.mk.injEq, D.int.injEq, and_true]
  exact wrap32 _
theorem xor32 (a b : Int) (H : AHeap) : aInt .xor .u32 a .u32 b H = ⟨True, .int .u32 ((BitVec.ofInt 32 a ^^^ BitVec.ofInt 32 b).toNat : Nat), H⟩ := by
  simp only [aInt, true_and, R.mk.injEq, D.int.injEq, and_true]
  exact wrap32 _
theorem and64 (a b : Int) (H : AHeap) : aInt .and .u64 a .u64 b H = ⟨True, .int .u64 ((BitVec.ofInt 64 a &&& BitVec.ofInt 64 b).toNat : Nat), H⟩ := by
  simp only [aInt, true_and, R.mk.injEq, D.int.injEq, and_true]
  exact wrap64 _
theorem or64 (a b : Int) (H : AHeap) : aInt .or .u64 a .u64 b H = ⟨True, .int .u64 ((BitVec.ofInt 64 a ||| BitVec.ofInt 64 b).toNat : Nat), H⟩ := by
  simp only [aInt, true_and, R.mk.injEq, D.int.injEq, and_true]
  exact wrap64 _
theorem xor64 (a b : Int) (H : AHeap) : aInt .xor .u64 a .u64 b H = ⟨True, .int .u64 ((BitVec.ofInt 64 a ^^^ BitVec.ofInt 64 b).toNat : Nat), H⟩ := by
  simp only [aInt, true_and, R.mk.injEq, D.int.injEq, and_true]
  exact wrap64 _

theorem fdiv_nat (a b : Nat) : (a : Int).fdiv (b : Int) = ((a / b : Nat) : Int) := by
  rw [Int.fdiv_eq_ediv_of_nonneg _ (Int.natCast_nonneg _)]; rfl

theorem shr32 (x : BitVec 32) (n : Nat) : (x.toNat : Int).fdiv (2 ^ min n 32) = ((x >>> n).toNat : Int) := by
  have e : ((2 : Int) ^ min n 32) = ((2 ^ min n 32 : Nat) : Int) := by norm_cast
  rw [e, fdiv_nat, BitVec.toNat_ushiftRight, Nat.shiftRight_eq_div_pow]
  by_cases h : n ≤ 32
  · rw [Nat.min_eq_left h]
  · have hx := x.isLt
    rw [Nat.min_eq_right (by omega), Nat.div_eq_of_lt hx, Nat.div_eq_of_lt (Nat.lt_of_lt_of_le hx (Nat.pow_le_pow_right (by decide) (by omega)))]
theorem shr64 (x : BitVec 64) (n : Nat) : (x.toNat : Int).fdiv (2 ^ min n 64) = ((x >>> n).toNat : Int) := by
  have e : ((2 : Int) ^ min n 64) = ((2 ^ min n 64 : Nat) : Int) := by norm_cast
  rw [e, fdiv_nat, BitVec.toNat_ushiftRight, Nat.shiftRight_eq_div_pow]
  by_cases h : n ≤ 64
  · rw [Nat.min_eq_left h]
  · have hx := x.isLt
    rw [Nat.min_eq_right (by omega), Nat.div_eq_of_lt hx, Nat.div_eq_of_lt (Nat.lt_of_lt_of_le hx (Nat.pow_le_pow_right (by decide) (by omega)))]

theorem neg32 (a : Int) (H : AHeap) : aUn .neg (.int .u32 a) H = ⟨True, .int .u32 ((-BitVec.ofInt 32 a).toNat : Nat), H⟩ := by
  simp only [aUn, R.mk.injEq, D.int.injEq, and_true, true_and]
  rw [BitVec.toNat_neg, BitVec.toNat_ofInt]
  simp only [IntKind.wrap, IntKind.bits, IntKind.signed]
  simp
  omega
theorem not32 (a : Int) (H : AHeap) : aUn .xor (.int .u32 a) H = ⟨True, .int .u32 ((~~~BitVec.ofInt 32 a).toNat : Nat), H⟩ := by
  simp only [aUn, R.mk.injEq, D.int.injEq, and_true, true_and]
  rw [← BitVec.allOnes_xor]
  exact wrap32 _

theorem low32 (a : Int) : IntKind.u32.wrap a = ((BitVec.ofInt 32 a).toNat : Int) := by
  simp only [IntKind.wrap, IntKind.bits, IntKind.signed, BitVec.toNat_ofInt]
  simp
  omega
theorem low8 (a : Int) : IntKind.u8.wrap a = ((UInt8.ofInt a).toNat : Int) := by
  simp only [IntKind.wrap, IntKind.bits, IntKind.signed]
  simp [UInt8.ofInt]
  omega

theorem u8_u32 (b : UInt8) : IntKind.u32.wrap (b.toNat : Int) = (b.toNat : Int) := IntWalk.u32_in _ (by have := b.toNat_lt; omega)
theorem u8_u64 (b : UInt8) : IntKind.u64.wrap (b.toNat : Int) = (b.toNat : Int) := IntWalk.u64_in _ (by have := b.toNat_lt; omega)
theorem u8_i64 (b : UInt8) : IntKind.i64.wrap (b.toNat : Int) = (b.toNat : Int) := IntWalk.i64_in _ (by have := b.toNat_lt; omega)
theorem u8_u8 (b : UInt8) : IntKind.u8.wrap (b.toNat : Int) = (b.toNat : Int) := IntWalk.u8_in _ (by have := b.toNat_lt; omega)

theorem u32_of {n : Int} (h : okInt .u32 n) : ∃ x : BitVec 32, n = (x.toNat : Int) := by
  obtain ⟨h1, h2⟩ := h
  rw [min_u32] at h1
  rw [max_u32] at h2
  refine ⟨BitVec.ofNat 32 n.toNat, ?_⟩
  rw [BitVec.toNat_ofNat, Nat.mod_eq_of_lt (by omega)]
  omega
theorem u64_of {n : Int} (h : okInt .u64 n) : ∃ x : BitVec 64, n = (x.toNat : Int) := by
  obtain ⟨h1, h2⟩ := h
  rw [min_u64] at h1
  rw [max_u64] at h2
  refine ⟨BitVec.ofNat 64 n.toNat, ?_⟩
  rw [BitVec.toNat_ofNat, Nat.mod_eq_of_lt (by omega)]
  omega

theorem quo_i64 {a b : Int} (h : 0 ≤ a) (h2 : a ≤ 9223372036854775807) (hb : 0 < b) : IntKind.i64.wrap (a.tdiv b) = a / b := by
  rw [Int.tdiv_eq_ediv_of_nonneg h]
  exact IntWalk.i64_in _ ⟨by have := Int.ediv_nonneg h (Int.le_of_lt hb); omega, by have := Int.ediv_le_self b h; omega⟩
theorem quo_u64 {a b : Int} (h : 0 ≤ a) (h2 : a ≤ 18446744073709551615) (hb : 0 < b) : IntKind.u64.wrap (a.tdiv b) = a / b := by
  rw [Int.tdiv_eq_ediv_of_nonneg h]
  exact IntWalk.u64_in _ ⟨by have := Int.ediv_nonneg h (Int.le_of_lt hb); omega, by have := Int.ediv_le_self b h; omega⟩

theorem toNat32_inj {x y : BitVec 32} : ((x.toNat : Int) == (y.toNat : Int)) = (x == y) := by
  rw [Bool.eq_iff_iff, beq_iff_eq, beq_iff_eq, Int.ofNat_inj]
  exact ⟨BitVec.eq_of_toNat_eq, fun h => h ▸ rfl⟩
theorem toNat32_ne {x y : BitVec 32} : ((x.toNat : Int) != (y.toNat : Int)) = (x != y) := by
  simp only [bne, toNat32_inj]

end Go.Proofs.YtlkffgmejcgdbaaDoor

/- Open orders, checked fast: masks are forced to numbers on the way. Of no program. -/
namespace Go.Proofs.YtlkffgmejcgdbaaDoor
set_option linter.all false

/-- The number first. -/
def force {α : Type} (n : Nat) (f : Nat → α) : α := match n with
  | 0 => f 0
  | k + 1 => f (k + 1)
theorem force_eq {α : Type} (n : Nat) (f : Nat → α) : force n f = f n := by cases n <;> rfl

/-- 'mask' off a reversed list. -/
def maskR (acc : List Nat) (j : Nat) (o : Oper) : Nat := o.after.toList.foldl (fun s e => if Region.binds .any e then s ||| 2 ^ e.on ||| (if e.on < j then acc.getD (j - 1 - e.on) 0 else 0) else s) 0

def goB : List Oper → Nat → List Nat → (List Nat → Bool) → Bool
  | [], _, acc, k => k acc
  | o :: r, j, acc, k => force (maskR acc j o) fun m => goB r (j + 1) (m :: acc) k

theorem maskR_eq (acc : List Nat) (o : Oper) : maskR acc acc.length o = mask acc.reverse o := by
  unfold maskR mask
  congr 1
  funext s e
  unfold maskF
  split
  · congr 1
    by_cases h : e.on < acc.length
    · rw [if_pos h, List.getD_eq_getElem?_getD, List.getD_eq_getElem?_getD, List.getElem?_reverse h]
    · rw [if_neg h, List.getD_eq_getElem?_getD, List.getElem?_eq_none (by simp; omega)]; rfl
  · rfl

theorem goB_eq : ∀ (ops : List Oper) (acc : List Nat) (k : List Nat → Bool), goB ops acc.length acc k = k (befores ops acc.reverse).reverse
  | [], acc, k => by simp [goB, befores]
  | o :: r, acc, k => by
    have := goB_eq r (mask acc.reverse o :: acc) k
    simp only [goB, force_eq, befores, maskR_eq]
    simpa using this

def upTo (p : Nat → Bool) : Nat → Bool
  | 0 => true
  | n + 1 => upTo p n && p n
theorem upTo_eq (p : Nat → Bool) (n : Nat) : upTo p n = (List.range n).all p := by
  induction n with
  | zero => rfl
  | succ n ih => rw [upTo, ih, List.range_succ, List.all_append]; simp

/-- The pairs, the later one going up. -/
def pairsF (ops : List Oper) (test : Nat → Nat → Oper → Oper → Bool) : Nat → List Oper → List Nat → Bool
  | _, [], _ => true
  | j, y :: r, B => (match B with
    | b :: B => goI test j b y 0 ops && pairsF ops test (j + 1) r B
    | [] => false)
where
  goI (test : Nat → Nat → Oper → Oper → Bool) (j b : Nat) (y : Oper) : Nat → List Oper → Bool
    | _, [] => true
    | i, x :: r => (Nat.ble j i) || ((b.testBit i || test i j x y) && goI test j b y (i + 1) r)

theorem goI_spec {test : Nat → Nat → Oper → Oper → Bool} {j b : Nat} {y : Oper} : ∀ (i : Nat) (l : List Oper), pairsF.goI test j b y i l = true → ∀ (k : Nat) (x : Oper), l[k]? = some x → i + k < j → (b.testBit (i + k) || test (i + k) j x y) = true
  | _, [], _, k, x, hk, _ => by simp at hk
  | i, z :: r, h, k, x, hk, hj => by
    simp only [pairsF.goI, Bool.or_eq_true, Nat.ble_eq, Bool.and_eq_true] at h
    rcases h with h | ⟨h1, h2⟩
    · omega
    · cases k with
      | zero => simp at hk; subst hk; simpa using h1
      | succ k =>
        have := goI_spec (i + 1) r h2 k x (by simpa using hk) (by omega)
        rwa [show i + 1 + k = i + (k + 1) by omega] at this

theorem pairsF_spec {ops : List Oper} {test : Nat → Nat → Oper → Oper → Bool} : ∀ (j : Nat) (l : List Oper) (B : List Nat), pairsF ops test j l B = true → ∀ (k i : Nat) (x y : Oper), l[k]? = some y → ops[i]? = some x → i < j + k → ((B.getD k 0).testBit i || test i (j + k) x y) = true
  | _, [], _, _, k, i, x, y, hk, _, _ => by simp at hk
  | j, z :: r, [], h, k, i, x, y, hk, hx, hi => by simp [pairsF] at h
  | j, z :: r, b :: B, h, k, i, x, y, hk, hx, hi => by
    simp only [pairsF, Bool.and_eq_true] at h
    cases k with
    | zero =>
      simp at hk; subst hk
      have := goI_spec 0 ops h.1 i x hx (by omega)
      simpa using this
    | succ k =>
      have := pairsF_spec (j + 1) r B h.2 k i x y (by simpa using hk) hx (by omega)
      rw [show j + 1 + k = j + (k + 1) by omega] at this
      simpa using this

def tmpsOkF (ops : List Oper) : Bool :=
  edgesOk ops 0 && goB ops 0 [] fun R => pairsF ops (fun _ _ x y => Oper.apart ops.toArray x y) 0 ops R.reverse

def heapOkF (ops : List Oper) (tr : List WR) : Bool :=
  goB ops 0 [] fun R => pairsF ops (fun i j _ _ => match tr[i]?, tr[j]? with | some x, some y => offEach x.2 y.1 && offEach x.2 y.2 && offEach y.2 x.1 | _, _ => true) 0 ops R.reverse

theorem tmpsOkF_sound {ops : List Oper} (h : tmpsOkF ops = true) : tmpsOk ops = true := by
  simp only [tmpsOkF, Bool.and_eq_true] at h
  have hg := goB_eq ops [] fun R => pairsF ops (fun _ _ x y => Oper.apart ops.toArray x y) 0 ops R.reverse
  simp only [List.length_nil, List.reverse_nil, List.reverse_reverse] at hg
  rw [hg] at h
  simp only [tmpsOk, Bool.and_eq_true, h.1, true_and, List.all_eq_true, List.mem_range]
  intro j hj i hi
  have hy : ops[j]? = some ops[j] := List.getElem?_eq_getElem hj
  have hx : ops[i]? = some (ops[i]'(by omega)) := List.getElem?_eq_getElem (by omega)
  have := pairsF_spec 0 ops _ h.2 j i _ _ hy hx (by omega)
  rw [hx, hy]
  exact this

theorem heapOkF_sound {ops : List Oper} {tr : List WR} (h : heapOkF ops tr = true) : heapOk ops tr = true := by
  have hg := goB_eq ops [] fun R => pairsF ops (fun i j _ _ => match tr[i]?, tr[j]? with | some x, some y => offEach x.2 y.1 && offEach x.2 y.2 && offEach y.2 x.1 | _, _ => true) 0 ops R.reverse
  simp only [List.length_nil, List.reverse_nil, List.reverse_reverse] at hg
  rw [heapOkF, hg] at h
  simp only [heapOk, List.all_eq_true, List.mem_range]
  intro j hj i hi
  have hy : ops[j]? = some ops[j] := List.getElem?_eq_getElem hj
  have hx : ops[i]? = some (ops[i]'(by omega)) := List.getElem?_eq_getElem (by omega)
  have := pairsF_spec 0 ops _ h j i _ _ hy hx (by omega)
  rw [Nat.zero_add] at this
  exact this

section
variable {P : Program} {τ : Ty} {f : Fit} {d : Drw} {all : List Oper} {k : List It} {Q : AQ} {env : Env} {H : AHeap} {z : List WR}
theorem draw_fast {id : Nat} {ops : List Oper} (x : Nat) (h1 : tmpsOkF ops = true) (h2 : tr P τ f (adraw P τ) ops k Q ops H.length env (pad H (countAllocs τ ops + x)) []) : adrawS P τ f (adraw P τ) id ops k Q env H :=
  draw_start x (tmpsOkF_sound h1) h2
theorem tend_fast (h1 : heapOkF all z.reverse = true) (h2 : goN P τ f d k Q env H) : tend P τ f d all k Q env H z := tend_ok (heapOkF_sound h1) h2
end

section
variable {α : Type}

theorem flat_all (f : α → D) (h : ∀ x, (f x).cells.all D.one = true) (l : List α) : ((l.map f).flatMap D.cells).all D.one = true := by
  induction l with
  | nil => rfl
  | cons x l ih => simp only [List.map_cons, List.flatMap_cons, List.all_append, h, ih, Bool.and_self]
theorem flat_len (f : α → D) (sz : Nat) (h : ∀ x, (f x).cells.length = sz) (l : List α) : ((l.map f).flatMap D.cells).length = l.length * sz := by
  induction l with
  | nil => simp
  | cons x l ih => simp only [List.map_cons, List.flatMap_cons, List.length_append, h, ih, List.length_cons, Nat.succ_mul]; omega
theorem flat_take (f : α → D) (sz : Nat) (h : ∀ x, (f x).cells.length = sz) (l : List α) : ((l.map f).flatMap D.cells).take (l.length * sz) = (l.map f).flatMap D.cells :=
  List.take_of_length_le (by rw [flat_len f sz h]; exact Nat.le_refl _)
theorem mem_noIds : ∀ {l : List D} {d : D}, D.noIdsL l = true → d ∈ l → d.noIds = true
  | [], _, _, hd => by cases hd
  | x :: l, d, h, hd => by
    simp only [D.noIdsL, Bool.and_eq_true] at h
    rcases List.mem_cons.1 hd with rfl | hd
    · exact h.1
    · exact mem_noIds h.2 hd
theorem flat_noIds (f : α → D) (h : ∀ x, D.noIdsL (f x).cells = true) (l : List α) : D.noIdsL ((l.map f).flatMap D.cells) = true := by
  refine noIds_of_mem fun d hd => ?_
  obtain ⟨y, hy, hd⟩ := List.mem_flatMap.1 hd
  obtain ⟨x, _, rfl⟩ := List.mem_map.1 hy
  exact mem_noIds (h x) hd

theorem flat_row (f : α → D) (sz : Nat) (h : ∀ x, (f x).cells.length = sz) : ∀ (l : List α) (i : Nat) (hi : i < l.length), (((l.map f).flatMap D.cells).drop (i * sz)).take sz = (f (l[i]'hi)).cells
  | [], i, hi => by simp at hi
  | x :: l, i, hi => by
    simp only [List.map_cons, List.flatMap_cons]
    cases i with
    | zero =>
      rw [Nat.zero_mul, List.drop_zero, List.take_append_of_le_length (by rw [h]; exact Nat.le_refl _), List.take_of_length_le (by rw [h]; exact Nat.le_refl _)]
      rfl
    | succ i =>
      have e : (i + 1) * sz = sz + i * sz := by rw [Nat.succ_mul]; omega
      rw [e, List.drop_append, h, List.drop_of_length_le (by rw [h]; omega), List.nil_append, show sz + i * sz - sz = i * sz by omega]
      exact flat_row f sz h l i (by simpa using hi)
theorem flat_getD (f : α → D) (sz : Nat) (h : ∀ x, (f x).cells.length = sz) (l : List α) (i j : Nat) (hi : i < l.length) (hj : j < sz) (d : D) : ((l.map f).flatMap D.cells).getD (i * sz + j) d = (f (l[i]'hi)).cells.getD j d := by
  have := flat_row f sz h l i hi
  rw [← this, List.getD_eq_getElem?_getD, List.getD_eq_getElem?_getD, List.getElem?_take_of_lt hj, List.getElem?_drop]

/-- A block of one's own is a slice of structs. -/
theorem Sub.ownA {H : AHeap} {b len : Nat} {cs : List D} (l : List α) (f : α → D) (sz : Nat) (h1 : ∀ x, (f x).cells.length = sz) (h2 : ∀ x, D.noIdsL (f x).cells = true) (hb : H[b]? = some (.froz cs)) (hl : l.length = len)
    (hc : cs = (l.map f).flatMap D.cells) : Sub H (.ref b 0 len sz) (.sl sz (l.map f) false) := by
  subst hc; subst hl
  refine Sub.sl hb (by simp) (fun e he => ?_) (by rw [flat_len f sz h1]; omega) ?_
  · obtain ⟨x, _, rfl⟩ := List.mem_map.1 he
    exact h1 x
  · rw [List.drop_zero, flat_take f sz h1]
    exact Subs.refl (flat_noIds f h2 l)
end

end Go.Proofs.YtlkffgmejcgdbaaDoor

/- Calls that read and change the caller's blocks: what is told over those blocks alone is told over the caller's whole heap. Of no program. -/
namespace Go.Proofs.YtlkffgmejcgdbaaDoor
set_option linter.all false

section
variable {w : World} {S : Nat → Prop} {β β' : Bmap}

/-- Renamed forward. -/
theorem Rel.fwd {σ : List Nat} (hσ : ∀ b x, Bk β b x → Bk β' (σ.getD b 0) x) {d : D} {v : Value} (h : Rel w S β d v) : Rel w S β' (d.ren σ) v := by
  have mapGet : ∀ {ds : List D} {i : Nat} {d : D}, (ds.map (D.ren σ))[i]? = some d → ∃ d0, ds[i]? = some d0 ∧ d = d0.ren σ := fun {ds i d} hd => by
    rw [List.getElem?_map] at hd
    obtain ⟨d0, h1, h2⟩ := Option.map_eq_some_iff.1 hd
    exact ⟨d0, h1, h2.symm⟩
  induction h with
  | any v => exact .any v
  | int k n h1 h2 => exact .int k n h1 h2
  | bool b => exact .bool b
  | str s h => exact .str s h
  | agg ds vs h1 h0 h2 ih =>
    rw [D.ren, D.renL_eq]
    refine .agg _ vs (by simpa using h1) h0 (fun i d v hd hv => ?_)
    obtain ⟨d0, hd0, rfl⟩ := mapGet hd
    exact ih i d0 v hd0 hv
  | nil => exact .nil
  | slNone sz t => exact .slNone sz t
  | sl sz es t ad cap vf h1 h2 h3 h4 h5 h6 ih =>
    rw [D.ren, D.renL_eq]
    have hl : (es.map (D.ren σ)).length = es.length := by simp
    have := Rel.sl (w := w) (S := S) (β := β') sz (es.map (D.ren σ)) t ad cap vf (by simpa using h1) h2 (by simpa using h3)
      (fun x hx => by obtain ⟨y, hy, rfl⟩ := List.mem_map.1 hx; rw [D.ren_cells]; simpa using h4 y hy)
      (by simpa using h5)
      (fun i x j d hx hd => by
        obtain ⟨x0, hx0, rfl⟩ := mapGet hx
        rw [D.ren_cells] at hd
        obtain ⟨d0, hd0, rfl⟩ := mapGet hd
        exact ih i x0 j d0 hx0 hd0)
    rw [hl] at this
    exact this
  | ref b o len sz blk off cap h1 h2 h3 T n h4 h5 => exact .ref _ o len sz blk off cap (hσ _ _ h1) h2 h3 T n h4 h5
  | refEmpty b o sz a => exact .refEmpty _ o sz a
  | refc b o len sz cap blk off h1 h2 h3 T n h4 h5 => exact .refc _ o len sz cap blk off (hσ _ _ h1) h2 h3 T n (by assumption) h5
  | refcEmpty b o sz a => exact .refcEmpty _ o sz a
  | cp cs ad vf h1 h2 ih =>
    rw [D.ren, D.renL_eq]
    refine .cp _ ad vf (by simpa using h1) (fun j d hd => ?_)
    obtain ⟨d0, hd0, rfl⟩ := mapGet hd
    exact ih j d0 hd0
  | ptr b o blk off h1 => exact .ptr _ o blk off (hσ _ _ h1)
  | nilp => exact .nilp
  | fn f ds vs h1 h2 ih =>
    rw [D.ren, D.renL_eq]
    refine .fn f _ vs (by simpa using h1) (fun i d v hd hv => ?_)
    obtain ⟨d0, hd0, rfl⟩ := mapGet hd
    exact ih i d0 v hd0 hv
  | nilf => exact .nilf
  | tup ds vs h1 h2 ih =>
    rw [D.ren, D.renL_eq]
    refine .tup _ vs (by simpa using h1) (fun i d v hd hv => ?_)
    obtain ⟨d0, hd0, rfl⟩ := mapGet hd
    exact ih i d0 v hd0 hv
  | niface => exact .niface
  | iface t d v _ ih => exact .iface t _ v ih
  | bit x => exact .bit x
end

/-- Every block is there. -/
def allThere : AHeap → Bool
  | [] => true
  | .live _ :: r => allThere r
  | .froz _ :: r => allThere r
  | .void :: r => allThere r
  | _ :: _ => false

theorem allThere_get : ∀ {G : AHeap}, allThere G = true → ∀ (i : Nat) (b : Blk), G[i]? = some b → (∃ cs, b = .live cs ∨ b = .froz cs) ∨ b = .void
  | [], _, i, b, h => by simp at h
  | x :: r, ha, i, b, h => by
    cases i with
    | zero =>
      simp only [List.getElem?_cons_zero, Option.some.injEq] at h
      subst h
      cases x with
      | live cs => exact .inl ⟨cs, .inl rfl⟩
      | froz cs => exact .inl ⟨cs, .inr rfl⟩
      | void => exact .inr rfl
      | _ => cases ha
    | succ i =>
      have : allThere r = true := by cases x <;> first | exact ha | cases ha
      exact allThere_get this i b (by simpa using h)

/-- Block by block: what is handed over (a place kept free among them). -/
def handed (ρ0 : List Nat) (H : AHeap) : List Nat → AHeap → Prop
  | [], [] => True
  | r :: rs, b :: bs => (match b with
      | .dead => True
      | .void => H[r]? = some .void
      | b => bndBlk ρ0.length b = true ∧ H[r]? = some (renBlk ρ0 b)) ∧ handed ρ0 H rs bs
  | _, _ => False

theorem handed_get {ρ0 : List Nat} {H : AHeap} : ∀ {rs : List Nat} {G : AHeap}, handed ρ0 H rs G → rs.length = G.length ∧ ∀ (i : Nat) (b : Blk), G[i]? = some b → b = .dead ∨ ((b = .void ∨ bndBlk ρ0.length b = true) ∧ ∃ r, rs[i]? = some r ∧ H[r]? = some (renBlk ρ0 b))
  | [], [], _ => ⟨rfl, fun i b h => by simp at h⟩
  | r :: rs, b :: bs, h => by
    obtain ⟨h1, h2⟩ := handed_get h.2
    refine ⟨by simp [h1], fun i x hx => ?_⟩
    cases i with
    | zero =>
      simp only [List.getElem?_cons_zero, Option.some.injEq] at hx
      subst hx
      have h3 := h.1
      cases b with
      | dead => exact .inl rfl
      | void => exact .inr ⟨.inl rfl, r, rfl, h3⟩
      | live cs => exact .inr ⟨.inr h3.1, r, rfl, h3.2⟩
      | froz cs => exact .inr ⟨.inr h3.1, r, rfl, h3.2⟩
    | succ i => exact h2 i x (by simpa using hx)
  | [], _ :: _, h => h.elim
  | _ :: _, [], h => h.elim

/-- The callee's names of blocks, in the caller: those handed over, then new ones. -/
def sig (ρ : List Nat) (n m : Nat) : List Nat := ρ ++ List.range' n (m - ρ.length)

def putAll (σ : List Nat) : List Nat → AHeap → AHeap → AHeap
  | r :: ρ, b :: B, H => putAll σ ρ B (H.set r (renBlk σ b))
  | _, _, H => H

def mergeH (ρ : List Nat) (H H' : AHeap) : AHeap := putAll (sig ρ H.length H'.length) ρ H' H ++ (H'.drop ρ.length).map (renBlk (sig ρ H.length H'.length))

theorem putAll_len (σ : List Nat) : ∀ (ρ : List Nat) (B H : AHeap), (putAll σ ρ B H).length = H.length
  | [], _, _ => rfl
  | _ :: _, [], _ => rfl
  | r :: ρ, b :: B, H => by simp [putAll, putAll_len σ ρ B]

theorem putAll_get (σ : List Nat) : ∀ (ρ : List Nat) (B H : AHeap), ρ.Nodup → ρ.length ≤ B.length → ∀ (b : Nat) (x : Blk), (putAll σ ρ B H)[b]? = some x →
    (b ∉ ρ ∧ H[b]? = some x) ∨ ∃ (i : Nat) (y : Blk), ρ[i]? = some b ∧ B[i]? = some y ∧ x = renBlk σ y
  | [], _, _, _, _, b, x, h => .inl ⟨by simp, h⟩
  | _ :: _, [], _, _, hl, _, _, _ => by simp at hl
  | r :: ρ, y0 :: B, H, hn, hl, b, x, h => by
    rw [List.nodup_cons] at hn
    rcases putAll_get σ ρ B _ hn.2 (by simpa using hl) b x h with ⟨h1, h2⟩ | ⟨i, y, h1, h2, h3⟩
    · by_cases c : b = r
      · subst c
        right
        have hlt : b < H.length := by
          have := (List.getElem?_eq_some_iff.1 h2).1
          simpa using this
        rw [List.getElem?_set_self hlt] at h2
        exact ⟨0, y0, rfl, rfl, (Option.some.inj h2).symm⟩
      · rw [List.getElem?_set_ne (Ne.symm c)] at h2
        exact .inl ⟨by simp [c, h1], h2⟩
    · exact .inr ⟨i + 1, y, by simpa using h1, by simpa using h2, h3⟩

theorem sig_lt {ρ : List Nat} {n m i : Nat} (h : i < ρ.length) : (sig ρ n m).getD i 0 = ρ.getD i 0 := by
  simp only [sig, List.getD_eq_getElem?_getD, List.getElem?_append_left h]
theorem sig_ge {ρ : List Nat} {n m i : Nat} (h : ρ.length ≤ i) (h2 : i < m) : (sig ρ n m).getD i 0 = n + (i - ρ.length) := by
  simp only [sig, List.getD_eq_getElem?_getD, List.getElem?_append_right h]
  rw [List.getElem?_range' (by omega)]
  simp

theorem renBlk_live {σ : List Nat} {y : Blk} {cs : List D} (h : renBlk σ y = .live cs) : ∃ cs0, y = .live cs0 ∧ cs = cs0.map (D.ren σ) := by
  cases y <;> simp [renBlk] at h
  exact ⟨_, rfl, h.symm⟩
theorem renBlk_froz {σ : List Nat} {y : Blk} {cs : List D} (h : renBlk σ y = .froz cs) : ∃ cs0, y = .froz cs0 ∧ cs = cs0.map (D.ren σ) := by
  cases y <;> simp [renBlk] at h
  exact ⟨_, rfl, h.symm⟩
theorem renBlk_void {σ : List Nat} {y : Blk} (h : renBlk σ y = .void) : y = .void := by
  cases y <;> simp [renBlk] at h
  rfl

def putB : List Nat → Bmap → Bmap → Bmap
  | r :: ρ, x :: B, β => putB ρ B (β.set r x)
  | _, _, β => β
theorem putB_len : ∀ (ρ : List Nat) (B β : Bmap), (putB ρ B β).length = β.length
  | [], _, _ => rfl
  | _ :: _, [], _ => rfl
  | r :: ρ, b :: B, β => by simp [putB, putB_len ρ B]
theorem putB_off : ∀ (ρ : List Nat) (B β : Bmap) (b : Nat), b ∉ ρ → (putB ρ B β)[b]? = β[b]?
  | [], _, _, _, _ => rfl
  | _ :: _, [], _, _, _ => rfl
  | r :: ρ, x :: B, β, b, h => by
    simp only [List.mem_cons, not_or] at h
    simp only [putB]
    rw [putB_off ρ B _ b h.2, List.getElem?_set_ne (Ne.symm h.1)]
theorem putB_on : ∀ (ρ : List Nat) (B β : Bmap) (i b : Nat) (y : Option (Option (Nat × Nat))), ρ.Nodup → ρ[i]? = some b → B[i]? = some y → b < β.length → (putB ρ B β)[b]? = some y
  | [], _, _, i, b, y, _, h, _, _ => by simp at h
  | _ :: _, [], _, i, b, y, _, _, h, _ => by simp at h
  | r :: ρ, x :: B, β, i, b, y, hn, h1, h2, hb => by
    rw [List.nodup_cons] at hn
    simp only [putB]
    cases i with
    | zero =>
      simp only [List.getElem?_cons_zero, Option.some.injEq] at h1 h2
      subst h1; subst h2
      rw [putB_off ρ B _ r hn.1, List.getElem?_set_self hb]
    | succ i =>
      exact putB_on ρ B _ i b y hn.2 (by simpa using h1) (by simpa using h2) (by simpa using hb)

/-- What is told of a call over the blocks handed over is told of it over the whole heap. -/
theorem acalls_frame {P : Program} {g : FuncId} {args : List D} {G H : AHeap} {ρ : List Nat} {K K' : D → AHeap → Prop} (hF : ACalls P g args G K) (hn : ρ.Nodup) (ha : allThere G = true) (hG : handed ρ H ρ G)
    (hb : args.all (D.bnd ρ.length) = true) (hK : ∀ r H', K r H' → ρ.length ≤ H'.length ∧ K' (r.ren (sig ρ H.length H'.length)) (mergeH ρ H H')) : ACalls P g (args.map (D.ren ρ)) H K' := by
  refine ⟨hF.1, fun w S β vs hI hlv hr => ?_⟩
  obtain ⟨hl, hg⟩ := handed_get hG
  have gd : ∀ i, i < ρ.length → ρ[i]? = some (ρ.getD i 0) := fun i hi => by simp [List.getD, hi]
  have blk : ∀ (i : Nat) (b : Blk), G[i]? = some b → i < ρ.length ∧ (b = .void ∨ bndBlk ρ.length b = true) ∧ H[ρ.getD i 0]? = some (renBlk ρ b) := fun i b hb => by
    have hi : i < ρ.length := by rw [hl]; exact (List.getElem?_eq_some_iff.1 hb).1
    rcases hg i b hb with h | ⟨h5, r, h6, h7⟩
    · subst h
      rcases allThere_get ha i _ hb with ⟨cs, h | h⟩ | h <;> cases h
    · rw [gd i hi] at h6; cases h6; exact ⟨hi, h5, h7⟩
  have lies0 : ∀ {cs : List D} {b0 o1 vs0 T0 fr0}, cs.all (D.bnd ρ.length) = true → Lies w S β (cs.map (D.ren ρ)) b0 o1 vs0 T0 fr0 → Lies w S (renB ρ β) cs b0 o1 vs0 T0 fr0 := fun hb h =>
    ⟨h.heap, fun i v hi hv => h.one i v (by simpa using hi) hv, fun i d hd => let ⟨v, k1, k2⟩ := h.cell i (d.ren ρ) (by simp [hd]); ⟨v, k1, Rel.ren k2 d rfl (List.all_eq_true.1 hb d (List.mem_of_getElem? hd))⟩⟩
  have ginj : ∀ i j, i < ρ.length → j < ρ.length → ρ.getD i 0 = ρ.getD j 0 → i = j := fun i j hi hj e => by
    have h1 := gd i hi
    have h2 := gd j hj
    rw [← e] at h2
    exact (List.getElem?_inj hi hn).1 (h1.trans h2.symm)
  have hI0 : AInv w S (renB ρ β) G := by
    refine ⟨by simp [renB, hl], fun b cs hb => ?_, fun b cs hb => ?_, fun b b' cs cs' bl o o' hb hb' k k' => ?_, hI.old, fun b hb => ?_⟩
    · obtain ⟨hi, h5, h6⟩ := blk b _ hb
      replace h5 := h5.resolve_left (by simp)
      rcases hI.live _ _ h6 with ⟨h7, h8⟩ | ⟨b0, o, vs0, T0, fr0, h7, h8, h9, h10⟩
      · exact .inl ⟨by simpa using h7, renB_bk hi h8⟩
      · exact .inr ⟨b0, o, vs0, T0, fr0, renB_bk hi h7, h8, h9, lies0 h5 h10⟩
    · obtain ⟨hi, h5, h6⟩ := blk b _ hb
      replace h5 := h5.resolve_left (by simp)
      rcases hI.froz _ _ h6 with ⟨h7, h8⟩ | ⟨b0, o, vs0, T0, fr0, h7, h8, h10⟩
      · exact .inl ⟨by simpa using h7, renB_bk hi h8⟩
      · exact .inr ⟨b0, o, vs0, T0, fr0, renB_bk hi h7, h8, lies0 h5 h10⟩
    · obtain ⟨hi, h5, h6⟩ := blk b _ hb
      obtain ⟨hi', h5', h6'⟩ := blk b' _ hb'
      exact ginj b b' hi hi' (hI.apart _ _ _ _ bl o o' h6 h6' (bk_renB k).2 (bk_renB k').2)
    · obtain ⟨hi, h5, h6⟩ := blk b _ hb
      have h7 := hI.void _ h6
      simp only [renB, List.getElem?_map, gd b hi, Option.map_some]
      simp only [List.getD_eq_getElem?_getD] at h7 ⊢
      rw [h7]; rfl
  have mut0 : ∀ x, Mut (renB ρ β) G x → ∃ i cs off, i < ρ.length ∧ H[ρ.getD i 0]? = some (.live cs) ∧ Bk β (ρ.getD i 0) (some (x, off)) := fun x ⟨i, cs, off, hb, k⟩ => by
    obtain ⟨hi, h5, h6⟩ := blk i _ hb
    exact ⟨i, _, off, hi, h6, (bk_renB k).2⟩
  have mutM : ∀ x, Mut (renB ρ β) G x → Mut β H x := fun x h => by
    obtain ⟨i, cs, off, _, h1, h2⟩ := mut0 x h
    exact ⟨_, cs, off, h1, h2⟩
  refine (hF.2 w S (renB ρ β) vs hI0 (by simpa using hlv) (fun i d v hd hv => ?_)).mono ?_
  · exact (hr i (d.ren ρ) v (by simp [hd]) hv).ren d rfl (List.all_eq_true.1 hb d (List.mem_of_getElem? hd))
  rintro e w' ⟨v, r, H', S', β', rfl, hI', hE, hR, hk⟩
  obtain ⟨hlen, hk⟩ := hK r H' hk
  -- the map of blocks, and how the callee's names stand in it
  have hβl : β.length = H.length := hI.len
  have hβl' : β'.length = H'.length := hI'.len
  have bkInj : ∀ {γ : Bmap} {b x y}, Bk γ b x → Bk γ b y → x = y := fun h1 h2 => by
    unfold Bk at *; rw [h1] at h2; simpa using h2
  have hρlt : ∀ i, i < ρ.length → ρ.getD i 0 < H.length := fun i hi => by
    obtain ⟨_, _, h6⟩ := blk i _ (List.getElem?_eq_getElem (show i < G.length by omega))
    exact (List.getElem?_eq_some_iff.1 h6).1
  have on : ∀ i y, i < ρ.length → β'[i]? = some y → (putB ρ β' β ++ β'.drop ρ.length)[ρ.getD i 0]? = some y := fun i y hi hy => by
    have := hρlt i hi
    rw [List.getElem?_append_left (by rw [putB_len]; omega)]
    exact putB_on ρ β' β i _ y hn (gd i hi) hy (by omega)
  have old0 : ∀ b x, Bk β b x → Bk (putB ρ β' β ++ β'.drop ρ.length) b x := fun b x h => by
    have hb : b < β.length := by unfold Bk at h; exact (List.getElem?_eq_some_iff.1 h).1
    by_cases c : b ∈ ρ
    · obtain ⟨i, hi, e⟩ := List.mem_iff_getElem.1 c
      have e2 : ρ.getD i 0 = b := by simp [hi, e]
      have hGi := List.getElem?_eq_getElem (show i < G.length by omega)
      obtain ⟨_, _, h6⟩ := blk i _ hGi
      have hb0 : ∃ x0, Bk (renB ρ β) i x0 := by
        rcases allThere_get ha i _ hGi with ⟨cs, hc | hc⟩ | hc
        · rcases hI0.live i cs (by rw [hGi, hc]) with ⟨_, h⟩ | ⟨_, _, _, _, _, h, _⟩ <;> exact ⟨_, h⟩
        · rcases hI0.froz i cs (by rw [hGi, hc]) with ⟨_, h⟩ | ⟨_, _, _, _, _, h, _⟩ <;> exact ⟨_, h⟩
        · exfalso
          rw [hc] at h6
          have := hI.void _ h6
          rw [e2] at this
          unfold Bk at h
          rw [this] at h
          simp at h
      obtain ⟨x0, hx⟩ := hb0
      have h1 := (bk_renB hx).2
      rw [e2] at h1
      rw [bkInj h h1]
      have := on i _ hi (hE.bk i x0 hx)
      rw [e2] at this
      exact this
    · unfold Bk at *
      rw [List.getElem?_append_left (by rw [putB_len]; exact hb), putB_off _ _ _ _ c]
      exact h
  have old1 : ∀ b x, b < H.length → b ∉ ρ → Bk (putB ρ β' β ++ β'.drop ρ.length) b x → Bk β b x := fun b x hb c h => by
    unfold Bk at *
    rwa [List.getElem?_append_left (by rw [putB_len]; omega), putB_off _ _ _ _ c] at h
  have hσ : ∀ b x, Bk β' b x → Bk (putB ρ β' β ++ β'.drop ρ.length) ((sig ρ H.length H'.length).getD b 0) x := fun b x h => by
    have hbl : b < H'.length := by unfold Bk at h; have := (List.getElem?_eq_some_iff.1 h).1; omega
    by_cases c : b < ρ.length
    · rw [sig_lt c]
      exact on b _ c h
    · rw [sig_ge (by omega) hbl]
      unfold Bk at *
      rw [List.getElem?_append_right (by rw [putB_len]; omega), List.getElem?_drop, putB_len, show ρ.length + (H.length + (b - ρ.length) - β.length) = b by omega]
      exact h
  have hσl : ∀ i, i < H'.length → (ρ.length ≤ i → (sig ρ H.length H'.length).getD i 0 = H.length + (i - ρ.length)) ∧ (i < ρ.length → (sig ρ H.length H'.length).getD i 0 = ρ.getD i 0) := fun i hi => ⟨fun h => sig_ge h hi, fun h => sig_lt h⟩
  have get : ∀ b x, (mergeH ρ H H')[b]? = some x → (b < H.length ∧ b ∉ ρ ∧ H[b]? = some x) ∨ ∃ (i : Nat) (y : Blk), i < H'.length ∧ H'[i]? = some y ∧ x = renBlk (sig ρ H.length H'.length) y ∧ (sig ρ H.length H'.length).getD i 0 = b := fun b x h => by
    unfold mergeH at h
    by_cases c : b < H.length
    · rw [List.getElem?_append_left (by rw [putAll_len]; exact c)] at h
      rcases putAll_get _ ρ H' H hn hlen b x h with ⟨h1, h2⟩ | ⟨i, y, h1, h2, h3⟩
      · exact .inl ⟨c, h1, h2⟩
      · have hi := (List.getElem?_eq_some_iff.1 h1).1
        refine .inr ⟨i, y, by omega, h2, h3, ?_⟩
        rw [sig_lt hi]
        simp [List.getD, h1]
    · rw [List.getElem?_append_right (by rw [putAll_len]; omega), putAll_len, List.getElem?_map, List.getElem?_drop] at h
      obtain ⟨y, h1, h2⟩ := Option.map_eq_some_iff.1 h
      have hi := (List.getElem?_eq_some_iff.1 h1).1
      exact .inr ⟨_, y, hi, h1, h2.symm, by rw [sig_ge (by omega) hi]; omega⟩
  -- what is told of one's own stays told
  have same : ∀ x, x < w.heap.size → ¬ Mut (renB ρ β) G x → w'.heap[x]? = w.heap[x]? := hE.frame
  have keep : ∀ {d v}, Rel w S β d v → Rel w' S' (putB ρ β' β ++ β'.drop ρ.length) d v := fun h => h.keep (fun b hb => same b (hI.old b hb) (hI0.notMut hb)) hE.sub old0 hE.shape
  have fwd : ∀ {d v}, Rel w' S' β' d v → Rel w' S' (putB ρ β' β ++ β'.drop ρ.length) (d.ren (sig ρ H.length H'.length)) v := fun h => h.fwd hσ
  have lies1 : ∀ {cs b0 o1 vs0 T0 fr0}, ¬ Mut (renB ρ β) G b0 → Lies w S β cs b0 o1 vs0 T0 fr0 → Lies w' S' (putB ρ β' β ++ β'.drop ρ.length) cs b0 o1 vs0 T0 fr0 := fun hm h =>
    ⟨by rw [same _ (Array.getElem?_eq_some_iff.1 h.heap).1 hm]; exact h.heap, h.one, fun i d hd => let ⟨v, h1, h2⟩ := h.cell i d hd; ⟨v, h1, keep h2⟩⟩
  have lies2 : ∀ {cs b0 o1 vs0 T0 fr0}, Lies w' S' β' cs b0 o1 vs0 T0 fr0 → Lies w' S' (putB ρ β' β ++ β'.drop ρ.length) (cs.map (D.ren (sig ρ H.length H'.length))) b0 o1 vs0 T0 fr0 := fun h =>
    ⟨h.heap, fun i v hi hv => h.one i v (by simpa using hi) hv, fun i d hd => by
      rw [List.getElem?_map] at hd
      obtain ⟨d0, h1, rfl⟩ := Option.map_eq_some_iff.1 hd
      obtain ⟨v, h2, h3⟩ := h.cell i d0 h1
      exact ⟨v, h2, fwd h3⟩⟩
  have notM : ∀ b cs x off, b ∉ ρ → H[b]? = some (.live cs) → Bk β b (some (x, off)) → ¬ Mut (renB ρ β) G x := fun b cs x off hb h1 h2 hm => by
    obtain ⟨i, cs', off', hi, h3, h4⟩ := mut0 x hm
    have := hI.apart b _ cs cs' x off off' h1 h3 h2 h4
    rw [this] at hb
    exact hb (List.mem_of_getElem? (gd i hi))
  have bkσ : ∀ i x, i < H'.length → Bk (putB ρ β' β ++ β'.drop ρ.length) ((sig ρ H.length H'.length).getD i 0) x → Bk β' i x := fun i x hi h => by
    by_cases c : i < ρ.length
    · rw [sig_lt c] at h
      have hy := List.getElem?_eq_getElem (show i < β'.length by omega)
      have h2 := on i _ c hy
      unfold Bk at *
      rw [h2] at h
      rw [hy]
      exact h
    · rw [sig_ge (by omega) hi] at h
      unfold Bk at *
      rwa [List.getElem?_append_right (by rw [putB_len]; omega), List.getElem?_drop, putB_len, show ρ.length + (H.length + (i - ρ.length) - β.length) = i by omega] at h
  have ltOf : ∀ b cs x off, H[b]? = some (.live cs) → Bk β b (some (x, off)) → x < w.heap.size := fun b cs x off h1 h2 => by
    rcases hI.live b cs h1 with ⟨_, h⟩ | ⟨b0, o, vs0, T0, fr0, h3, h4, h5, h6⟩
    · cases bkInj h h2
    · cases bkInj h2 h3
      exact (Array.getElem?_eq_some_iff.1 h6.heap).1
  refine ⟨v, r.ren (sig ρ H.length H'.length), mergeH ρ H H', S', putB ρ β' β ++ β'.drop ρ.length, rfl, ?_, ?_, fwd hR, hk⟩
  · refine ⟨by simp only [mergeH, List.length_append, putAll_len, putB_len, List.length_map, List.length_drop]; omega, fun b cs hb => ?_, fun b cs hb => ?_, fun b b' cs cs' x o o' hb hb' k k' => ?_, hI'.old, fun b hb => ?_⟩
    · rcases get b _ hb with ⟨h1, h2, h3⟩ | ⟨i, y, h1, h2, h3, rfl⟩
      · rcases hI.live b cs h3 with ⟨h4, h5⟩ | ⟨b0, o, vs0, T0, fr0, h4, h5, h6, h7⟩
        · exact .inl ⟨h4, old0 _ _ h5⟩
        · have hm := notM b cs b0 o h2 h3 h4
          refine .inr ⟨b0, o, vs0, T0, fr0, old0 _ _ h4, fun hs => ?_, h6, lies1 hm h7⟩
          rcases hE.newS b0 hs with h | h | h
          · exact h5 h
          · exact hm h
          · have := (Array.getElem?_eq_some_iff.1 h7.heap).1
            omega
      · obtain ⟨cs0, rfl, rfl⟩ := renBlk_live h3.symm
        rcases hI'.live i cs0 h2 with ⟨h4, h5⟩ | ⟨b0, o, vs0, T0, fr0, h4, h5, h6, h7⟩
        · exact .inl ⟨by simp [h4], hσ _ _ h5⟩
        · exact .inr ⟨b0, o, vs0, T0, fr0, hσ _ _ h4, h5, h6, lies2 h7⟩
    · rcases get b _ hb with ⟨h1, h2, h3⟩ | ⟨i, y, h1, h2, h3, rfl⟩
      · rcases hI.froz b cs h3 with ⟨h4, h5⟩ | ⟨b0, o, vs0, T0, fr0, h4, h5, h7⟩
        · exact .inl ⟨h4, old0 _ _ h5⟩
        · exact .inr ⟨b0, o, vs0, T0, fr0, old0 _ _ h4, hE.sub _ h5, lies1 (hI0.notMut h5) h7⟩
      · obtain ⟨cs0, rfl, rfl⟩ := renBlk_froz h3.symm
        rcases hI'.froz i cs0 h2 with ⟨h4, h5⟩ | ⟨b0, o, vs0, T0, fr0, h4, h5, h7⟩
        · exact .inl ⟨by simp [h4], hσ _ _ h5⟩
        · exact .inr ⟨b0, o, vs0, T0, fr0, hσ _ _ h4, h5, lies2 h7⟩
    · rcases get b _ hb with ⟨h1, h2, h3⟩ | ⟨i, y, h1, h2, h3, rfl⟩ <;> rcases get b' _ hb' with ⟨h1', h2', h3'⟩ | ⟨i', y', h1', h2', h3', rfl⟩
      · exact hI.apart b b' cs cs' x o o' h3 h3' (old1 _ _ h1 h2 k) (old1 _ _ h1' h2' k')
      · exfalso
        obtain ⟨cs0, rfl, _⟩ := renBlk_live h3'.symm
        have k0 := old1 _ _ h1 h2 k
        rcases hE.newM x ⟨i', cs0, o', h2', bkσ i' _ h1' k'⟩ with h | h
        · exact notM b cs x o h2 h3 k0 h
        · have := ltOf b cs x o h3 k0
          omega
      · exfalso
        obtain ⟨cs0, rfl, _⟩ := renBlk_live h3.symm
        have k0 := old1 _ _ h1' h2' k'
        rcases hE.newM x ⟨i, cs0, o, h2, bkσ i _ h1 k⟩ with h | h
        · exact notM b' cs' x o' h2' h3' k0 h
        · have := ltOf b' cs' x o' h3' k0
          omega
      · obtain ⟨cs0, rfl, _⟩ := renBlk_live h3.symm
        obtain ⟨cs0', rfl, _⟩ := renBlk_live h3'.symm
        rw [hI'.apart i i' cs0 cs0' x o o' h2 h2' (bkσ i _ h1 k) (bkσ i' _ h1' k')]
    · rcases get b _ hb with ⟨h1, h2, h3⟩ | ⟨i, y, h1, h2, h3, rfl⟩
      · rw [List.getElem?_append_left (by rw [putB_len]; omega), putB_off _ _ _ _ h2]
        exact hI.void b h3
      · have hy := renBlk_void h3.symm
        subst hy
        have hv := hI'.void i h2
        by_cases c : i < ρ.length
        · rw [sig_lt c]
          exact on i _ c hv
        · rw [sig_ge (by omega) h1, List.getElem?_append_right (by rw [putB_len]; omega), List.getElem?_drop, putB_len, show ρ.length + (H.length + (i - ρ.length) - β.length) = i by omega]
          exact hv
  · refine ⟨hE.os, hE.output, hE.size, fun b hb hm => same b hb (fun h => hm (mutM b h)), hE.shape, hE.sub, old0, fun b h => ?_, fun b h => ?_⟩
    · rcases hE.newS b h with h | h | h
      · exact .inl h
      · exact .inr (.inl (mutM b h))
      · exact .inr (.inr h)
    · obtain ⟨i, cs, o, h1, h2⟩ := h
      rcases get i _ h1 with ⟨h3, h4, h5⟩ | ⟨j, y, h3, h4, h5, rfl⟩
      · exact .inl ⟨i, cs, o, h5, old1 _ _ h3 h4 h2⟩
      · obtain ⟨cs0, rfl, _⟩ := renBlk_live h5.symm
        rcases hE.newM b ⟨j, cs0, o, h4, bkσ j _ h3 h2⟩ with h | h
        · exact .inl (mutM b h)
        · exact .inr h

end Go.Proofs.YtlkffgmejcgdbaaDoor

/- A call that changes one block of the caller's: what it leaves there, what it returns. Of no program. -/
namespace Go.Proofs.YtlkffgmejcgdbaaDoor
set_option linter.all false

theorem D.ren_range (n : Nat) (d : D) : d.bnd n = true → d.ren (List.range n) = d := by
  have key : ∀ d : D, (d.bnd n = true → d.ren (List.range n) = d) := by
    intro d
    refine D.rec (motive_1 := fun d => d.bnd n = true → d.ren (List.range n) = d) (motive_2 := fun l => D.bndL n l = true → D.renL (List.range n) l = l)
      ?_ ?_ ?_ ?_ ?_ ?_ ?_ ?_ ?_ ?_ ?_ ?_ ?_ ?_ ?_ ?_ ?_ ?_ ?_ ?_ d
    all_goals intros
    all_goals try rfl
    · rename_i ih h; simp only [D.ren]; rw [ih h]
    · rename_i ih h; simp only [D.ren]; rw [ih h]
    · rename_i h; simp only [D.bnd, decide_eq_true_eq] at h; simp [D.ren, List.getD, h]
    · rename_i h; simp only [D.bnd, decide_eq_true_eq] at h; simp [D.ren, List.getD, h]
    · rename_i ih h; simp only [D.ren]; rw [ih h]
    · rename_i h; simp only [D.bnd, decide_eq_true_eq] at h; simp [D.ren, List.getD, h]
    · rename_i ih h; simp only [D.ren]; rw [ih h]
    · rename_i ih h; simp only [D.ren]; rw [ih h]
    · rename_i ih h; simp only [D.ren]; rw [ih h]
    · rename_i ih1 ih2 h
      simp only [D.bndL, Bool.and_eq_true] at h
      simp only [D.renL]
      rw [ih1 h.1, ih2 h.2]
  exact key d

theorem ren_noIds (ρ : List Nat) (d : D) (h : d.noIds = true) : d.ren ρ = d := by
  have := D.renL_noIds ρ [d] (by simp [D.noIdsL, h])
  simpa [D.renL] using this
theorem bnd_noIds (n : Nat) (d : D) (h : d.noIds = true) : d.bnd n = true := by
  have := D.bndL_noIds n [d] (by simp [D.noIdsL, h])
  simpa [D.bndL] using this

/-- The callee's own blocks are forgotten. -/
theorem acalls_drop {P : Program} {g : FuncId} {args : List D} {G : AHeap} {K K2 : D → AHeap → Prop} (hF : ACalls P g args G K) (n : Nat) (hn : G.length ≤ n)
    (hK : ∀ r H', K r H' → r.bnd n = true ∧ n ≤ H'.length ∧ (∀ i b, i < n → H'[i]? = some b → (b = .dead ∨ b = .void) ∨ bndBlk n b = true) ∧ K2 r (H'.take n)) : ACalls P g args G K2 := by
  refine ⟨hF.1, fun w S β vs hI hlv hr => (hF.2 w S β vs hI hlv hr).mono ?_⟩
  rintro e w' ⟨v, r, H', S', β', rfl, hI', hE, hR, hk⟩
  obtain ⟨h1, h2, h3, h4⟩ := hK r H' hk
  have hlb : β'.length = H'.length := hI'.len
  have eB : renB (List.range n) β' = β'.take n := by
    apply List.ext_getElem?
    intro i
    simp only [renB, List.getElem?_map]
    by_cases c : i < n
    · have : i < β'.length := by omega
      rw [List.getElem?_range c, List.getElem?_take_of_lt c]
      simp [List.getD, this]
    · rw [List.getElem?_eq_none (by simp; omega), List.getElem?_eq_none (by simp; omega)]; rfl
  have relD : ∀ {d v}, d.bnd n = true → Rel w' S' β' d v → Rel w' S' (β'.take n) d v := fun {d v} hb h => by
    rw [← eB]
    exact h.ren d (D.ren_range n d hb) (by simpa using hb)
  have bkT : ∀ b x, b < n → Bk β' b x → Bk (β'.take n) b x := fun b x hb h => by
    unfold Bk at *; rwa [List.getElem?_take_of_lt hb]
  have bkF : ∀ b x, Bk (β'.take n) b x → b < n ∧ Bk β' b x := fun b x h => by
    have hb : b < n := by
      unfold Bk at h
      have := (List.getElem?_eq_some_iff.1 h).1
      simp at this
      omega
    unfold Bk at *
    rw [List.getElem?_take_of_lt hb] at h
    exact ⟨hb, h⟩
  have get : ∀ b x, (H'.take n)[b]? = some x → b < n ∧ H'[b]? = some x := fun b x h => by
    have hb : b < n := by
      have := (List.getElem?_eq_some_iff.1 h).1
      simp at this
      omega
    rw [List.getElem?_take_of_lt hb] at h
    exact ⟨hb, h⟩
  have lies : ∀ {cs b0 o1 vs0 T0 fr0}, cs.all (D.bnd n) = true → Lies w' S' β' cs b0 o1 vs0 T0 fr0 → Lies w' S' (β'.take n) cs b0 o1 vs0 T0 fr0 := fun hb h =>
    ⟨h.heap, h.one, fun i d hd => let ⟨v, k1, k2⟩ := h.cell i d hd; ⟨v, k1, relD (List.all_eq_true.1 hb d (List.mem_of_getElem? hd)) k2⟩⟩
  have mutF : ∀ x, Mut (β'.take n) (H'.take n) x → Mut β' H' x := fun x ⟨b, cs, off, h5, h6⟩ => ⟨b, cs, off, (get _ _ h5).2, (bkF _ _ h6).2⟩
  refine ⟨v, r, H'.take n, S', β'.take n, rfl, ⟨by simp; omega, fun b cs hb => ?_, fun b cs hb => ?_, fun b b' cs cs' x o o' hb hb' k k' => ?_, hI'.old, fun b hb => ?_⟩,
    ⟨hE.os, hE.output, hE.size, hE.frame, hE.shape, hE.sub, fun b x h => ?_, hE.newS, fun b h => hE.newM b (mutF b h)⟩, relD h1 hR, h4⟩
  · obtain ⟨c1, c2⟩ := get _ _ hb
    have hbd : cs.all (D.bnd n) = true := by
      rcases h3 b _ c1 c2 with (h | h) | h
      · cases h
      · cases h
      · exact h
    rcases hI'.live b cs c2 with ⟨h5, h6⟩ | ⟨b0, o, vs0, T0, fr0, h5, h6, h7, h8⟩
    · exact .inl ⟨h5, bkT _ _ c1 h6⟩
    · exact .inr ⟨b0, o, vs0, T0, fr0, bkT _ _ c1 h5, h6, h7, lies hbd h8⟩
  · obtain ⟨c1, c2⟩ := get _ _ hb
    have hbd : cs.all (D.bnd n) = true := by
      rcases h3 b _ c1 c2 with (h | h) | h
      · cases h
      · cases h
      · exact h
    rcases hI'.froz b cs c2 with ⟨h5, h6⟩ | ⟨b0, o, vs0, T0, fr0, h5, h6, h8⟩
    · exact .inl ⟨h5, bkT _ _ c1 h6⟩
    · exact .inr ⟨b0, o, vs0, T0, fr0, bkT _ _ c1 h5, h6, lies hbd h8⟩
  · exact hI'.apart b b' cs cs' x o o' (get _ _ hb).2 (get _ _ hb').2 (bkF _ _ k).2 (bkF _ _ k').2
  · obtain ⟨c1, c2⟩ := get _ _ hb
    rw [List.getElem?_take_of_lt c1]
    exact hI'.void b c2
  · have hb : b < G.length := by
      unfold Bk at h
      have := (List.getElem?_eq_some_iff.1 h).1
      rw [hI.len] at this
      exact this
    exact bkT _ _ (by omega) (hE.bk b x h)

/-- A function that is handed one block of its caller's, holding 'cs': it returns 'x' and leaves 'cs''. The arguments call the block 0. -/
def Eff (P : Program) (g : FuncId) (args : List D) (cs : List D) (x : D) (cs' : List D) : Prop :=
  ACalls P g args [.live cs] fun r H' => r = x ∧ H'[0]? = some (.live cs')

theorem Eff.one {P : Program} {g : FuncId} {args cs cs' : List D} {x : D} (h : Eff P g args cs x cs') (hx : x.noIds = true) (hc : D.noIdsL cs' = true) : ACalls P g args [.live cs] fun r H' => r = x ∧ H' = [.live cs'] := by
  refine acalls_drop h 1 (Nat.le_refl _) fun r H' ⟨h1, h2⟩ => ?_
  have hlt := (List.getElem?_eq_some_iff.1 h2).1
  refine ⟨by rw [h1]; exact bnd_noIds 1 x hx, hlt, fun i b hi hb => ?_, h1, ?_⟩
  · have : i = 0 := by omega
    subst this
    rw [h2] at hb
    cases hb
    right
    simp only [bndBlk]
    rw [← D.bndL_eq]
    exact D.bndL_noIds 1 cs' hc
  · cases H' with
    | nil => simp at hlt
    | cons y ys =>
      simp only [List.getElem?_cons_zero, Option.some.injEq] at h2
      subst h2
      rfl

theorem Eff.frame {P : Program} {g : FuncId} {args args' cs cs' : List D} {x : D} {H : AHeap} (h : Eff P g args cs x cs') (b : Nat) (hx : x.noIds = true) (hc0 : D.noIdsL cs = true) (hc : D.noIdsL cs' = true) (ha : args.all (D.bnd 1) = true)
    (he : args' = args.map (D.ren [b])) (hb : H[b]? = some (.live cs)) : ACalls P g args' H fun r H' => r = x ∧ H' = H.set b (.live cs') := by
  subst he
  have mapId : ∀ (σ : List Nat) (l : List D), D.noIdsL l = true → l.map (D.ren σ) = l := fun σ l hl => by rw [← D.renL_eq]; exact D.renL_noIds σ l hl
  refine acalls_frame (ρ := [b]) (h.one hx hc) (by simp) rfl ⟨⟨?_, ?_⟩, trivial⟩ ha fun r H' ⟨h1, h2⟩ => ?_
  · simp only [bndBlk]; rw [← D.bndL_eq]; exact D.bndL_noIds _ cs hc0
  · simp only [renBlk]; rw [mapId _ cs hc0]; exact hb
  · subst h2
    refine ⟨Nat.le_refl _, by rw [h1]; exact ren_noIds _ x hx, ?_⟩
    simp only [mergeH, putAll, renBlk, List.length_cons, List.length_nil, List.drop_succ_cons, List.drop_zero, List.map_nil, List.append_nil]
    rw [mapId _ cs' hc]

section
variable {P : Program} {τ : Ty} {f : Fit} {d : Drw} {all : List Oper} {k : List It} {Q : AQ} {rest : List Oper} {s : Nat} {env : Env} {dst : Option Tmp} {g : FuncId} {args args' : List D} {H : AHeap} {z : List WR} {cs cs' : List D} {x : D}

/-- A call on a block of one's own. -/
theorem callE (b : Nat) (hF : Eff P g args cs x cs') (hx : x.noIds = true) (hc0 : D.noIdsL cs = true) (hc : D.noIdsL cs' = true) (ha : args.all (D.bnd 1) = true) (he : args' = args.map (D.ren [b])) (hb : H[b]? = some (.live cs))
    (h : ar P τ f d all k Q rest s (put env dst x) (H.set b (.live cs'))) : acallS P τ f d all k Q rest s env dst g args' H :=
  callA (hF.frame b hx hc0 hc ha he hb) fun r H' ⟨h1, h2⟩ => by subst h1; subst h2; exact h

theorem DC.eff (b : Nat) (hF : Eff P g args cs x cs') (hx : x.noIds = true) (hc0 : D.noIdsL cs = true) (hc : D.noIdsL cs' = true) (ha : args.all (D.bnd 1) = true) (he : args' = args.map (D.ren [b])) (hb : H[b]? = some (.live cs)) :
    DC P g args' [] [b] H x (H.set b (.live cs')) := by
  have hlt : b < H.length := (List.getElem?_eq_some_iff.1 hb).1
  refine ⟨fun H' hl hag => ?_, by simp, fun c hc => ?_⟩
  · have hb' : H'[b]? = some (.live cs) := by rw [hag b (.inr (by simp))]; exact hb
    refine (hF.frame b hx hc0 hc ha he hb').mono fun r H'' ⟨h1, h2⟩ => ?_
    subst h2
    refine ⟨h1, by simp, fun c hcc => ?_, fun c hcc => ?_⟩
    · have : c = b := by simpa using hcc
      subst this
      rw [List.getElem?_set_self (by omega), List.getElem?_set_self hlt]
    · have : c ≠ b := by simpa using hcc
      rw [List.getElem?_set_ne (Ne.symm this)]
  · have : c ≠ b := by simpa using hc
    rw [List.getElem?_set_ne (Ne.symm this)]

/-- In an open order: a call on a block of one's own. -/
theorem tcE (b : Nat) (hF : Eff P g args cs x cs') (hx : x.noIds = true) (hc0 : D.noIdsL cs = true) (hc : D.noIdsL cs' = true) (ha : args.all (D.bnd 1) = true) (he : args' = args.map (D.ren [b])) (hb : H[b]? = some (.live cs))
    (h : tr P τ f d all k Q rest s (put env dst x) (H.set b (.live cs')) (([], [b]) :: z)) : tcS P τ f d all k Q rest s env dst g args' H z :=
  ⟨[], [b], x, H.set b (.live cs'), DC.eff b hF hx hc0 hc ha he hb, h⟩
end

end Go.Proofs.YtlkffgmejcgdbaaDoor

/- A call that changes several blocks of the caller's, and may hand back new ones: what it leaves there, what it returns. Of no program. -/
namespace Go.Proofs.YtlkffgmejcgdbaaDoor
set_option linter.all false

/-- A function that is handed the blocks 'G' (the arguments call them 0, 1, ..): it returns 'x' and leaves 'G'', new ones behind. -/
def EffN (P : Program) (g : FuncId) (args : List D) (G : AHeap) (x : D) (G' : AHeap) : Prop :=
  ACalls P g args G fun r H' => r = x ∧ H'.take G'.length = G'

def niBlk : Blk → Bool
  | .live cs => D.noIdsL cs
  | .froz cs => D.noIdsL cs
  | .void => true
  | .dead => false
/-- .. or it is given up. -/
def niOut : Blk → Bool
  | .dead => true
  | b => niBlk b

def has (H : AHeap) : List Nat → AHeap → Prop
  | [], [] => True
  | r :: ρ, b :: B => H[r]? = some b ∧ has H ρ B
  | _, _ => False

def setAll : List Nat → AHeap → AHeap → AHeap
  | r :: ρ, b :: B, H => setAll ρ B (H.set r b)
  | _, _, H => H

theorem niOut_ren {b : Blk} (h : niOut b = true) (σ : List Nat) : renBlk σ b = b := by
  have mapId : ∀ (l : List D), D.noIdsL l = true → l.map (D.ren σ) = l := fun l hl => by rw [← D.renL_eq]; exact D.renL_noIds σ l hl
  cases b <;> simp only [niOut, niBlk] at h <;> simp only [renBlk] <;> rw [mapId _ h]
theorem niOut_bnd {b : Blk} (h : niOut b = true) (n : Nat) : (b = .dead ∨ b = .void) ∨ bndBlk n b = true := by
  cases b with
  | dead => exact .inl (.inl rfl)
  | void => exact .inl (.inr rfl)
  | live cs => exact .inr (by simp only [bndBlk]; rw [← D.bndL_eq]; exact D.bndL_noIds n _ h)
  | froz cs => exact .inr (by simp only [bndBlk]; rw [← D.bndL_eq]; exact D.bndL_noIds n _ h)
theorem niBlk_out {b : Blk} (h : niBlk b = true) : niOut b = true := by
  cases b <;> first | exact h | rfl
theorem niBlk_bnd {b : Blk} (h : niBlk b = true) (n : Nat) : b = .void ∨ bndBlk n b = true := by
  rcases niOut_bnd (niBlk_out h) n with (rfl | h1) | h1
  · cases h
  · exact .inl h1
  · exact .inr h1
theorem niBlk_there {G : AHeap} (h : G.all niBlk = true) : allThere G = true := by
  induction G with
  | nil => rfl
  | cons b G ih =>
    simp only [List.all_cons, Bool.and_eq_true] at h
    cases b with
    | dead => exact absurd h.1 (by simp [niBlk])
    | live cs => exact ih h.2
    | froz cs => exact ih h.2
    | void => exact ih h.2
theorem niOut_map {G : AHeap} (h : G.all niOut = true) (σ : List Nat) : G.map (renBlk σ) = G := by
  induction G with
  | nil => rfl
  | cons b G ih =>
    simp only [List.all_cons, Bool.and_eq_true] at h
    rw [List.map_cons, niOut_ren h.1, ih h.2]
theorem putAll_set (σ : List Nat) : ∀ (ρ : List Nat) (B H : AHeap), B.all niOut = true → putAll σ ρ B H = setAll ρ B H
  | [], _, _, _ => rfl
  | _ :: _, [], _, _ => rfl
  | r :: ρ, b :: B, H, h => by
    simp only [List.all_cons, Bool.and_eq_true] at h
    simp only [putAll, setAll, niOut_ren h.1]
    exact putAll_set σ ρ B _ h.2
theorem has_fits {ρ0 : List Nat} {H : AHeap} : ∀ {ρ : List Nat} {G : AHeap}, G.all niBlk = true → has H ρ G → handed ρ0 H ρ G
  | [], [], _, _ => trivial
  | r :: ρ, b :: B, h, hh => by
    simp only [List.all_cons, Bool.and_eq_true] at h
    refine ⟨?_, has_fits h.2 hh.2⟩
    have e1 := niBlk_bnd h.1 ρ0.length
    have e2 := niOut_ren (niBlk_out h.1) ρ0
    cases b with
    | dead => trivial
    | live cs => exact ⟨e1.resolve_left (by simp), by rw [e2]; exact hh.1⟩
    | froz cs => exact ⟨e1.resolve_left (by simp), by rw [e2]; exact hh.1⟩
    | void => exact hh.1
  | [], _ :: _, _, hh => hh.elim
  | _ :: _, [], _, hh => hh.elim
theorem has_len {H : AHeap} : ∀ {ρ : List Nat} {G : AHeap}, has H ρ G → ρ.length = G.length
  | [], [], _ => rfl
  | _ :: _, _ :: _, hh => by simp only [List.length_cons, has_len hh.2]
  | [], _ :: _, hh => hh.elim
  | _ :: _, [], hh => hh.elim
theorem has_congr {H H' : AHeap} : ∀ {ρ : List Nat} {G : AHeap}, has H ρ G → (∀ b, b ∈ ρ → H'[b]? = H[b]?) → has H' ρ G
  | [], [], _, _ => trivial
  | r :: ρ, b :: B, hh, h => ⟨by rw [h r (by simp)]; exact hh.1, has_congr hh.2 fun b hb => h b (by simp [hb])⟩
  | [], _ :: _, hh, _ => hh.elim
  | _ :: _, [], hh, _ => hh.elim

theorem setAll_len : ∀ (ρ : List Nat) (B H : AHeap), (setAll ρ B H).length = H.length
  | [], _, _ => rfl
  | _ :: _, [], _ => rfl
  | r :: ρ, b :: B, H => by simp [setAll, setAll_len ρ B]
theorem setAll_off : ∀ (ρ : List Nat) (B H : AHeap) (b : Nat), b ∉ ρ → (setAll ρ B H)[b]? = H[b]?
  | [], _, _, _, _ => rfl
  | _ :: _, [], _, _, _ => rfl
  | r :: ρ, y :: B, H, b, h => by
    simp only [List.mem_cons, not_or] at h
    simp only [setAll]
    rw [setAll_off ρ B _ b h.2, List.getElem?_set_ne (Ne.symm h.1)]
theorem setAll_on : ∀ (ρ : List Nat) (B H H' : AHeap) (b : Nat), H'.length = H.length → ρ.length ≤ B.length → b ∈ ρ → (setAll ρ B H')[b]? = (setAll ρ B H)[b]?
  | [], _, _, _, _, _, _, h => by simp at h
  | _ :: _, [], _, _, _, _, hl, _ => by simp at hl
  | r :: ρ, y :: B, H, H', b, he, hl, h => by
    simp only [setAll]
    by_cases c : b ∈ ρ
    · exact setAll_on ρ B _ _ b (by simpa using he) (by simpa using hl) c
    · have : b = r := by simpa [c] using h
      subst this
      rw [setAll_off ρ B _ b c, setAll_off ρ B _ b c]
      by_cases d : b < H.length
      · rw [List.getElem?_set_self (by omega), List.getElem?_set_self d]
      · rw [List.getElem?_eq_none (by simp; omega), List.getElem?_eq_none (by simp; omega)]

section
variable {P : Program} {g : FuncId} {args args' : List D} {G G' H : AHeap} {x x' : D}

theorem EffN.exact (h : EffN P g args G x G') (hl : G.length ≤ G'.length) (hx : x.bnd G'.length = true) (hb : G'.all niOut = true) : ACalls P g args G fun r H' => r = x ∧ H' = G' := by
  refine acalls_drop h G'.length hl fun r H' ⟨h1, h2⟩ => ?_
  have hlen : G'.length ≤ H'.length := by
    have := congrArg List.length h2
    rw [List.length_take] at this
    omega
  refine ⟨by rw [h1]; exact hx, hlen, fun i b hi hbi => ?_, h1, h2⟩
  have : G'[i]? = some b := by rw [← h2, List.getElem?_take_of_lt hi]; exact hbi
  exact niOut_bnd (List.all_eq_true.1 hb b (List.mem_of_getElem? this)) _

theorem EffN.frame (ρ : List Nat) (h : EffN P g args G x G') (hl : G.length ≤ G'.length) (hx : x.bnd G'.length = true) (hG : G.all niBlk = true) (hG' : G'.all niOut = true) (hn : ρ.Nodup) (hH : has H ρ G) (hb : args.all (D.bnd ρ.length) = true)
    (he : args' = args.map (D.ren ρ)) (hx' : x.ren (sig ρ H.length G'.length) = x') : ACalls P g args' H fun r H' => r = x' ∧ H' = setAll ρ G' H ++ G'.drop ρ.length := by
  subst he
  have hr := has_len hH
  refine acalls_frame (h.exact hl hx hG') hn (niBlk_there hG) (has_fits hG hH) hb fun r H' ⟨h1, h2⟩ => ?_
  subst h1; subst h2
  refine ⟨by omega, hx', ?_⟩
  rw [mergeH, putAll_set _ _ _ _ hG', niOut_map (List.all_eq_true.2 fun b hb => List.all_eq_true.1 hG' b (List.mem_of_mem_drop hb))]

variable {τ : Ty} {f : Fit} {d : Drw} {all : List Oper} {k : List It} {Q : AQ} {rest : List Oper} {s : Nat} {env : Env} {dst : Option Tmp} {z : List WR}

/-- What is handed back as a new block may come into a place that was kept free for it. -/
theorem EffN.fill (h : EffN P g args G x G') (hl : G'.length = G.length + 1) (hx : x.bnd G'.length = true) (hG : G.all niBlk = true) (hG' : G'.all niOut = true) (hb : args.all (D.bnd G.length) = true) : EffN P g args (G ++ [.void]) x G' := by
  have hE := h.exact (by omega) hx hG'
  refine ⟨h.1, fun w S β vs hI hlv hr => ?_⟩
  have hlb : β.length = G.length + 1 := by rw [hI.len]; simp
  have eB : renB (List.range G.length) β = β.take G.length := by
    apply List.ext_getElem?
    intro i
    simp only [renB, List.getElem?_map]
    by_cases c : i < G.length
    · have : i < β.length := by omega
      rw [List.getElem?_range c, List.getElem?_take_of_lt c]
      simp [List.getD, this]
    · rw [List.getElem?_eq_none (by simp; omega), List.getElem?_eq_none (by simp; omega)]; rfl
  have relD : ∀ {d v}, d.bnd G.length = true → Rel w S β d v → Rel w S (β.take G.length) d v := fun {d v} hb h => by
    rw [← eB]
    exact h.ren d (D.ren_range _ d hb) (by simpa using hb)
  have bkT : ∀ b x, b < G.length → Bk β b x → Bk (β.take G.length) b x := fun b x hb h => by
    unfold Bk at *; rwa [List.getElem?_take_of_lt hb]
  have bkF : ∀ b x, Bk (β.take G.length) b x → b < G.length ∧ Bk β b x := fun b x h => by
    have hb : b < G.length := by
      unfold Bk at h
      have := (List.getElem?_eq_some_iff.1 h).1
      simp at this
      omega
    unfold Bk at *
    rw [List.getElem?_take_of_lt hb] at h
    exact ⟨hb, h⟩
  have up : ∀ b x, G[b]? = some x → b < G.length ∧ (G ++ [Blk.void])[b]? = some x ∧ (x = .void ∨ bndBlk G.length x = true) := fun b x h => by
    have hb := (List.getElem?_eq_some_iff.1 h).1
    exact ⟨hb, by rw [List.getElem?_append_left hb]; exact h, niBlk_bnd (List.all_eq_true.1 hG x (List.mem_of_getElem? h)) _⟩
  have mutU : ∀ y, Mut (β.take G.length) G y → Mut β (G ++ [Blk.void]) y := fun y ⟨b, cs, off, h1, h2⟩ => ⟨b, cs, off, (up _ _ h1).2.1, (bkF _ _ h2).2⟩
  have lies : ∀ {cs : List D} {b0 o1 vs0 T0 fr0}, cs.all (D.bnd G.length) = true → Lies w S β cs b0 o1 vs0 T0 fr0 → Lies w S (β.take G.length) cs b0 o1 vs0 T0 fr0 := fun hb h =>
    ⟨h.heap, h.one, fun i d hd => let ⟨v, k1, k2⟩ := h.cell i d hd; ⟨v, k1, relD (List.all_eq_true.1 hb d (List.mem_of_getElem? hd)) k2⟩⟩
  have hI0 : AInv w S (β.take G.length) G := by
    refine ⟨by simp; omega, fun b cs hb => ?_, fun b cs hb => ?_, fun b b' cs cs' x o o' hb hb' k k' => ?_, hI.old, fun b hb => ?_⟩
    · obtain ⟨c1, c2, c3⟩ := up _ _ hb
      rcases hI.live b cs c2 with ⟨h5, h6⟩ | ⟨b0, o, vs0, T0, fr0, h5, h6, h7, h8⟩
      · exact .inl ⟨h5, bkT _ _ c1 h6⟩
      · exact .inr ⟨b0, o, vs0, T0, fr0, bkT _ _ c1 h5, h6, h7, lies (c3.resolve_left (by simp)) h8⟩
    · obtain ⟨c1, c2, c3⟩ := up _ _ hb
      rcases hI.froz b cs c2 with ⟨h5, h6⟩ | ⟨b0, o, vs0, T0, fr0, h5, h6, h8⟩
      · exact .inl ⟨h5, bkT _ _ c1 h6⟩
      · exact .inr ⟨b0, o, vs0, T0, fr0, bkT _ _ c1 h5, h6, lies (c3.resolve_left (by simp)) h8⟩
    · exact hI.apart b b' cs cs' x o o' (up _ _ hb).2.1 (up _ _ hb').2.1 (bkF _ _ k).2 (bkF _ _ k').2
    · obtain ⟨c1, c2, c3⟩ := up _ _ hb
      rw [List.getElem?_take_of_lt c1]
      exact hI.void b c2
  refine (hE.2 w S _ vs hI0 hlv fun i d v hd hv => relD (List.all_eq_true.1 hb d (List.mem_of_getElem? hd)) (hr i d v hd hv)).mono ?_
  rintro e w' ⟨v, r, H', S', β', rfl, hI', hV, hR, h1, h2⟩
  refine ⟨v, r, H', S', β', rfl, hI', ⟨hV.os, hV.output, hV.size, fun b hb hm => hV.frame b hb fun h => hm (mutU b h), hV.shape, hV.sub, fun b y hy => ?_, fun b hb => ?_, fun b hb => ?_⟩, hR, h1, by rw [h2, List.take_length]⟩
  · by_cases c : b < G.length
    · exact hV.bk b y (bkT _ _ c hy)
    · exfalso
      have hb : b < β.length := by unfold Bk at hy; exact (List.getElem?_eq_some_iff.1 hy).1
      have : b = G.length := by omega
      subst this
      have hv := hI.void G.length (by simp)
      unfold Bk at hy
      rw [hv] at hy
      simp at hy
  · rcases hV.newS b hb with h | h | h
    · exact .inl h
    · exact .inr (.inl (mutU b h))
    · exact .inr (.inr h)
  · rcases hV.newM b hb with h | h
    · exact .inl (mutU b h)
    · exact .inr h

theorem bnd_dl {α : Type} (n sz : Nat) (f : α → D) (hf : ∀ x, (f x).noIds = true) (l : List α) : (dl sz f l).bnd n = true := bnd_noIds _ _ (by simp only [dl, ni_sl, noL f hf])
theorem ren_dl {α : Type} (ρ : List Nat) (sz : Nat) (f : α → D) (hf : ∀ x, (f x).noIds = true) (l : List α) : (dl sz f l).ren ρ = dl sz f l := ren_noIds _ _ (by simp only [dl, ni_sl, noL f hf])

theorem ren_cellsL {α : Type} (ρ : List Nat) (f : α → D) (hf : ∀ x, (f x).noIds = true) (l : List α) : (l.map f).map (D.ren ρ) = l.map f := by
  rw [← D.renL_eq]
  exact D.renL_noIds ρ _ (noL f hf l)
theorem bnd_cellsL {α : Type} (n : Nat) (f : α → D) (hf : ∀ x, (f x).noIds = true) (l : List α) : (l.map f).all (D.bnd n) = true := by
  rw [← D.bndL_eq]
  exact D.bndL_noIds n _ (noL f hf l)

def SubsR (H : AHeap) : List D → List D → Prop
  | [], [] => True
  | x :: xs, y :: ys => (x = y ∨ Sub H x y) ∧ SubsR H xs ys
  | _, _ => False
theorem SubsR.get {H : AHeap} : ∀ {xs ys : List D}, SubsR H xs ys → xs.length = ys.length ∧ ∀ (i : Nat) (x y : D), xs[i]? = some x → ys[i]? = some y → x = y ∨ Sub H x y
  | [], [], _ => ⟨rfl, fun i x y h => by simp at h⟩
  | x :: xs, y :: ys, h => by
    obtain ⟨h1, h2⟩ := SubsR.get h.2
    refine ⟨by simp [h1], fun i a b ha hb => ?_⟩
    cases i with
    | zero =>
      simp only [List.getElem?_cons_zero, Option.some.injEq] at ha hb
      subst ha; subst hb
      exact h.1
    | succ i => exact h2 i a b (by simpa using ha) (by simpa using hb)
  | [], _ :: _, h => h.elim
  | _ :: _, [], h => h.elim

/-- The arguments may tell less. -/
theorem acalls_sub {K : D → AHeap → Prop} (hs : SubsR H args args') (h : ACalls P g args' H K) : ACalls P g args H K := by
  obtain ⟨hl, hg⟩ := hs.get
  refine ⟨h.1, fun w S β vs hI hv hr => h.2 w S β vs hI (by omega) fun i y v hy hvi => ?_⟩
  have hi : i < args.length := by rw [hl]; exact (List.getElem?_eq_some_iff.1 hy).1
  have hx := List.getElem?_eq_getElem hi
  rcases hg i _ y hx hy with h1 | h1
  · rw [← h1]; exact hr i _ v hx hvi
  · exact h1.2 w S β v hI (hr i _ v hx hvi)
theorem aext_sub {K : D → AHeap → Prop} (hs : SubsR H args args') (h : AExt P g args' H K) : AExt P g args H K := by
  obtain ⟨hl, hg⟩ := hs.get
  refine fun w S β vs hI hv hr => h w S β vs hI (by omega) fun i y v hy hvi => ?_
  have hi : i < args.length := by rw [hl]; exact (List.getElem?_eq_some_iff.1 hy).1
  have hx := List.getElem?_eq_getElem hi
  rcases hg i _ y hx hy with h1 | h1
  · rw [← h1]; exact hr i _ v hx hvi
  · exact h1.2 w S β v hI (hr i _ v hx hvi)
theorem callSubR (args' : List D) (hs : SubsR H args args') (h : acallS P τ f d all k Q rest s env dst g args' H) : acallS P τ f d all k Q rest s env dst g args H := h.elim (fun h => .inl (acalls_sub hs h)) fun h => .inr (aext_sub hs h)

/-- A call on blocks of one's own. -/
theorem callN (ρ : List Nat) (x' : D) (hF : EffN P g args G x G') (hl : G.length ≤ G'.length) (hx : x.bnd G'.length = true) (hG : G.all niBlk = true) (hG' : G'.all niOut = true) (hn : ρ.Nodup) (hH : has H ρ G) (hb : args.all (D.bnd ρ.length) = true)
    (he : args' = args.map (D.ren ρ)) (hx' : x.ren (sig ρ H.length G'.length) = x') (h : ar P τ f d all k Q rest s (put env dst x') (setAll ρ G' H ++ G'.drop ρ.length)) : acallS P τ f d all k Q rest s env dst g args' H :=
  callA (hF.frame ρ hl hx hG hG' hn hH hb he hx') fun r H' ⟨h1, h2⟩ => by subst h1; subst h2; exact h

theorem DC.n (ρ : List Nat) (x' : D) (hF : EffN P g args G x G') (hl : G.length = G'.length) (hx : x.bnd G'.length = true) (hG : G.all niBlk = true) (hG' : G'.all niOut = true) (hn : ρ.Nodup) (hH : has H ρ G) (hb : args.all (D.bnd ρ.length) = true)
    (he : args' = args.map (D.ren ρ)) (hx' : x.ren ρ = x') : DC P g args' [] ρ H x' (setAll ρ G' H) := by
  have hr := has_len hH
  have hd : G'.drop ρ.length = [] := List.drop_of_length_le (by omega)
  have hs : ∀ n, sig ρ n G'.length = ρ := fun n => by rw [sig, show G'.length - ρ.length = 0 by omega]; simp
  refine ⟨fun H' hl' hag => ?_, setAll_len _ _ _, fun b hb => setAll_off _ _ _ b hb⟩
  have h0 := hF.frame (H := H') (args' := args') (x' := x') ρ (by omega) hx hG hG' hn (has_congr hH fun b hb => hag b (.inr hb)) hb he (by rw [hs]; exact hx')
  refine h0.mono fun r H'' ⟨h1, h2⟩ => ?_
  rw [hd, List.append_nil] at h2
  subst h2
  exact ⟨h1, setAll_len _ _ _, fun b hb => setAll_on _ _ _ _ b hl' (by omega) hb, fun b hb => setAll_off _ _ _ b hb⟩

/-- In an open order: a call on blocks of one's own. -/
theorem tcN (ρ : List Nat) (x' : D) (hF : EffN P g args G x G') (hl : G.length = G'.length) (hx : x.bnd G'.length = true) (hG : G.all niBlk = true) (hG' : G'.all niOut = true) (hn : ρ.Nodup) (hH : has H ρ G) (hb : args.all (D.bnd ρ.length) = true)
    (he : args' = args.map (D.ren ρ)) (hx' : x.ren ρ = x') (h : tr P τ f d all k Q rest s (put env dst x') (setAll ρ G' H) (([], ρ) :: z)) : tcS P τ f d all k Q rest s env dst g args' H z :=
  ⟨[], ρ, x', setAll ρ G' H, DC.n ρ x' hF hl hx hG hG' hn hH hb he hx', h⟩
end

end Go.Proofs.YtlkffgmejcgdbaaDoor

/- A function of data that returns numbers, truths and texts alone, called on one's own blocks: they stay one's own, as they were. Of no program. -/
namespace Go.Proofs.YtlkffgmejcgdbaaDoor
set_option linter.all false

mutual
def D.plain : D → Bool
  | .int _ _ | .bool _ | .str _ | .nil | .nilp | .nilf | .niface => true
  | .agg cs => D.plainL cs
  | .tup cs => D.plainL cs
  | _ => false
def D.plainL : List D → Bool
  | [] => true
  | d :: l => d.plain && D.plainL l
end

theorem D.plainL_eq (l : List D) : D.plainL l = l.all D.plain := by
  induction l with
  | nil => rfl
  | cons d l ih => simp only [D.plainL, List.all_cons, ih]

theorem Rel.plain {w : World} {S : Nat → Prop} {β : Bmap} {d : D} {v : Value} (h : Rel w S β d v) (w' : World) (S' : Nat → Prop) (β' : Bmap) : d.plain = true → Rel w' S' β' d v := by
  have mem : ∀ {l : List D}, D.plainL l = true → ∀ (i : Nat) (d : D), l[i]? = some d → d.plain = true := fun {l} hl i d hd => by
    rw [D.plainL_eq, List.all_eq_true] at hl
    exact hl d (List.mem_of_getElem? hd)
  induction h with
  | int k n h1 h2 => exact fun _ => .int k n h1 h2
  | bool b => exact fun _ => .bool b
  | str s h => exact fun _ => .str s h
  | agg ds vs h1 h0 h2 ih => exact fun hp => .agg ds vs h1 h0 fun i d v hd hv => ih i d v hd hv (mem hp i d hd)
  | tup ds vs h1 h2 ih => exact fun hp => .tup ds vs h1 fun i d v hd hv => ih i d v hd hv (mem hp i d hd)
  | nil => exact fun _ => .nil
  | nilp => exact fun _ => .nilp
  | nilf => exact fun _ => .nilf
  | niface => exact fun _ => .niface
  | _ => exact fun hp => by simp [D.plain] at hp

theorem pcall_peek {P : Program} {g : FuncId} {args pargs : List D} {d : D} {H : AHeap} {K : D → AHeap → Prop} (hF : PureF P g pargs d) (hd : d.plain = true) (hl : args.length = pargs.length)
    (hs : ∀ (i : Nat) (x y : D), args[i]? = some x → pargs[i]? = some y → Sub (H.map Blk.fz) x y) (hk : K d H) : ACalls P g args H K := by
  refine ⟨hF.1, fun w S β vs hI hlv hr => ?_⟩
  obtain ⟨S1, h1, h2⟩ := hI.freezeAll
  have hI0 : AInv w S1 [] [] := ⟨rfl, fun b cs h => by simp at h, fun b cs h => by simp at h, fun b b' cs cs' blk o o' h => by simp at h, h1.old, fun b h => by simp at h⟩
  refine (hF.2 w S1 [] vs hI0 (by omega) (fun i y v hy hv => ?_)).mono ?_
  · have hi : i < args.length := by rw [hl]; exact (List.getElem?_eq_some_iff.1 hy).1
    obtain ⟨k1, k2⟩ := hs i _ y (List.getElem?_eq_getElem hi) hy
    exact (k2 w S1 β v h1 ((hr i _ v (List.getElem?_eq_getElem hi) hv).evo hI h2)).noIds [] k1
  · rintro e w' ⟨v, r, Hs', S', βs, rfl, h3, h4, h5, h6⟩
    obtain ⟨S'', h7, h8⟩ := h3.freezeAll
    have h9 := h6.2 w' S'' βs v h7 (h5.evo h3 h8)
    have E := h4.trans h8
    have nomut : ∀ b, ¬ Mut [] [] b := fun b ⟨i, cs, o, h, _⟩ => by simp at h
    have hheap : ∀ b, b < w.heap.size → w'.heap[b]? = w.heap[b]? := fun b hb => E.frame b hb (nomut b)
    have hS : ∀ b, S b → S'' b ∧ ¬ Mut β H b := fun b hb => ⟨E.sub b (h2.sub b hb), hI.notMut hb⟩
    have keep : ∀ {d v}, Rel w S β d v → Rel w' (fun b => S'' b ∧ ¬ Mut β H b) β d v := fun h => h.keep (fun b hb => hheap b (hI.old b hb)) hS (fun _ _ h => h) E.shape
    have lies : ∀ {cs b0 o1 vs0 T0 fr0}, Lies w S β cs b0 o1 vs0 T0 fr0 → Lies w' (fun b => S'' b ∧ ¬ Mut β H b) β cs b0 o1 vs0 T0 fr0 := fun h =>
      ⟨by rw [hheap _ (Array.getElem?_eq_some_iff.1 h.heap).1]; exact h.heap, h.one, fun i d hd => let ⟨v, k1, k2⟩ := h.cell i d hd; ⟨v, k1, keep k2⟩⟩
    refine ⟨v, d, H, fun b => S'' b ∧ ¬ Mut β H b, β, rfl, ⟨hI.len, fun b cs h => ?_, fun b cs h => ?_, hI.apart, ⟨fun b hb => h7.old b hb.1, fun g t hg => let ⟨k1, v, k2⟩ := h7.old.gl g t hg; ⟨⟨k1, hI.notMut (hI.old.gl g t hg).1⟩, v, k2⟩⟩, hI.void⟩,
      ⟨E.os, E.output, E.size, fun b hb _ => hheap b hb, E.shape, hS, fun _ _ h => h, fun b hb => ?_, fun _ h => .inl h⟩, h9.plain _ _ _ hd, hk⟩
    · rcases hI.live b cs h with h | ⟨b0, o, vs0, T0, fr0, k3, k4, k5, k6⟩
      · exact .inl h
      · exact .inr ⟨b0, o, vs0, T0, fr0, k3, fun hs => hs.2 ⟨b, cs, o, h, k3⟩, k5, lies k6⟩
    · rcases hI.froz b cs h with h | ⟨b0, o, vs0, T0, fr0, k3, k4, k6⟩
      · exact .inl h
      · exact .inr ⟨b0, o, vs0, T0, fr0, k3, hS _ k4, lies k6⟩
    · rcases E.newS b hb.1 with h | h | h
      · rcases h2.newS b h with h | h | h
        · exact .inl h
        · exact absurd h hb.2
        · exact .inr (.inr h)
      · exact absurd h (nomut b)
      · exact .inr (.inr h)

section
variable {P : Program} {τ : Ty} {f : Fit} {d : Drw} {all : List Oper} {k : List It} {Q : AQ} {rest : List Oper} {s : Nat} {env : Env} {dst : Option Tmp} {g : FuncId} {args pargs : List D} {H : AHeap} {z : List WR}

/-- A call that reads one's own blocks. -/
theorem callPeek {x : D} (hF : PureF P g pargs x) (hx : x.plain = true) (hs : Subs (H.map Blk.fz) args pargs) (h : ar P τ f d all k Q rest s (put env dst x) H) : acallS P τ f d all k Q rest s env dst g args H :=
  .inl (pcall_peek hF hx hs.get.1 hs.get.2 h)

/-- In an open order. -/
theorem tcPeek {x : D} (R : List Nat) (hF : PureF P g pargs x) (hx : x.plain = true) (hs : ∀ H' : AHeap, (∀ b, b ∈ R → H'[b]? = H[b]?) → Subs (H'.map Blk.fz) args pargs) (h : tr P τ f d all k Q rest s (put env dst x) H ((R, []) :: z)) : tcS P τ f d all k Q rest s env dst g args H z :=
  ⟨R, [], x, H, ⟨fun H' _ he => pcall_peek hF hx (hs H' fun b hb => he b (.inl hb)).get.1 (hs H' fun b hb => he b (.inl hb)).get.2 ⟨rfl, rfl, fun b hb => absurd hb (by simp), fun b _ => rfl⟩, rfl, fun b _ => rfl⟩, h⟩
end

/-- Arguments that tell less. -/
def LeL : List D → List D → Prop
  | [], [] => True
  | x :: xs, y :: ys => leD x y ∧ LeL xs ys
  | _, _ => False
theorem LeL.get : ∀ {xs ys : List D}, LeL xs ys → xs.length = ys.length ∧ ∀ (i : Nat) (x y : D), xs[i]? = some x → ys[i]? = some y → leD x y
  | [], [], _ => ⟨rfl, fun i x y h => by simp at h⟩
  | x :: xs, y :: ys, h => by
    obtain ⟨h1, h2⟩ := LeL.get h.2
    refine ⟨by simp [h1], fun i a b ha hb => ?_⟩
    cases i with
    | zero => simp at ha hb; subst ha; subst hb; exact h.1
    | succ i => exact h2 i a b (by simpa using ha) (by simpa using hb)
  | [], _ :: _, h => h.elim
  | _ :: _, [], h => h.elim
theorem acalls_le {P : Program} {g : FuncId} {args args' : List D} {H : AHeap} {K : D → AHeap → Prop} (hs : LeL args args') (h : ACalls P g args' H K) : ACalls P g args H K := by
  obtain ⟨hl, hg⟩ := hs.get
  refine ⟨h.1, fun w S β vs hI hv hr => h.2 w S β vs hI (by omega) fun i y v hy hvi => ?_⟩
  have hi : i < args.length := by rw [hl]; exact (List.getElem?_eq_some_iff.1 hy).1
  have hx := List.getElem?_eq_getElem hi
  exact leD_rel (hg i _ y hx hy) (hr i _ v hx hvi)
theorem aext_le {P : Program} {g : FuncId} {args args' : List D} {H : AHeap} {K : D → AHeap → Prop} (hs : LeL args args') (h : AExt P g args' H K) : AExt P g args H K := by
  obtain ⟨hl, hg⟩ := hs.get
  refine fun w S β vs hI hv hr => h w S β vs hI (by omega) fun i y v hy hvi => ?_
  have hi : i < args.length := by rw [hl]; exact (List.getElem?_eq_some_iff.1 hy).1
  have hx := List.getElem?_eq_getElem hi
  exact leD_rel (hg i _ y hx hy) (hr i _ v hx hvi)
theorem callLe {P : Program} {τ : Ty} {f : Fit} {d : Drw} {all : List Oper} {k : List It} {Q : AQ} {rest : List Oper} {s : Nat} {env : Env} {dst : Option Tmp} {g : FuncId} {args : List D} {H : AHeap} (args' : List D) (hs : LeL args args')
    (h : acallS P τ f d all k Q rest s env dst g args' H) : acallS P τ f d all k Q rest s env dst g args H := h.elim (fun h => .inl (acalls_le hs h)) fun h => .inr (aext_le hs h)

/-- At a loop's head: empty blocks more, and what tells less. -/
theorem fitsNew {n0 : Nat} {env : Env} {E : Env} {G : AHeap} : ∀ (k : Nat) {H : AHeap}, Fits n0 env (H ++ List.replicate k (.live [])) E G → Fits n0 env H E G
  | 0, H, h => by simpa using h
  | k + 1, H, h => .trans _ _ _ _ _ _ (.new env H) (fitsNew k (by rw [List.append_assoc]; exact h))
theorem fitsL {n0 : Nat} {env : Env} {H : AHeap} {E : Env} {G : AHeap} (h1 : leEnv env E) (h2 : leH H G) : Fits n0 env H E G := .le _ _ _ _ h1 h2

section
variable (env : Env) (t : Nat) (d x y : D) (r : Env) (xs ys : List D) (a b : Blk) (H G : AHeap) (i o sz : Nat) (u : Bool)
theorem leEnv_one {env : Env} {t : Nat} {d : D} (h : leD (get env t) d) : leEnv env [(t, d)] := ⟨h, trivial⟩
theorem leEnv_nil' : leEnv env [] = True := rfl
theorem leEnv_cons' : leEnv env ((t, d) :: r) = (leD (get env t) d ∧ leEnv env r) := rfl
theorem leD_self : leD d d = True := eq_true (leD_refl d)
theorem leD_nilref : leD .nil (.ref i o 0 sz) = True := eq_true (.inl (le1_ref i o sz))
theorem leD_nilsl : leD .nil (.sl sz [] u) = True := eq_true (.inl (le1_nil sz u))
theorem leD_uncap (n c : Nat) : leD (.refc i o n sz c) (.ref i o n sz) = True := eq_true (.inl (le1_uncap i o n sz c))
theorem leD_loose : leD (.sl sz xs true) (.sl sz xs false) = True := eq_true (.inl (le1_loose sz xs))
theorem le1_self : le1 d d = True := eq_true (le1_refl d)
theorem le1_nilref : le1 .nil (.ref i o 0 sz) = True := eq_true (le1_ref i o sz)
theorem le1_nilsl : le1 .nil (.sl sz [] u) = True := eq_true (le1_nil sz u)
theorem leC_nil' : leC [] [] = True := rfl
theorem leC_cons' : leC (x :: xs) (y :: ys) = (le1 x y ∧ leC xs ys) := rfl
theorem leB_self : leB b b = True := eq_true (leB_refl b)
theorem leB_live' : leB (.live xs) (.live ys) = leC xs ys := rfl
theorem leH_nil' : leH [] [] = True := rfl
theorem leH_cons' : leH (a :: H) (b :: G) = (leB a b ∧ leH H G) := rfl
end

end Go.Proofs.YtlkffgmejcgdbaaDoor

/- A slice's capacity, told; what is told less of behind a call; slices.overlaps. Of no program. -/
namespace Go.Proofs.YtlkffgmejcgdbaaDoor
set_option linter.all false

section
variable {P : Program} {τ : Ty} {g : FuncId} {args : List D} {H : AHeap} {K : D → AHeap → Prop}

/-- A slice into a block has some capacity. -/
theorem acalls_cap {b o len sz : Nat} (hm : len ≤ maxLen) (h : ∀ c, len ≤ c → ACalls P g (.refc b o len sz c :: args) H K) : ACalls P g (.ref b o len sz :: args) H K := by
  refine ⟨(h len (Nat.le_refl _)).1, fun w S β vs hI hl hr => ?_⟩
  have h0 : 0 < vs.size := by rw [hl]; simp
  have hv := hr 0 _ vs[0] rfl (Array.getElem?_eq_getElem h0)
  have key : ∀ c, len ≤ c → Rel w S β (.refc b o len sz c) vs[0] → Calls P g vs w fun e w' => ∃ v d H' S' β', e = .returned v ∧ AInv w' S' β' H' ∧ Evo w S β H w' S' β' H' ∧ Rel w' S' β' d v ∧ K d H' := fun c hc hrel =>
    (h c hc).2 w S β vs hI (by simpa using hl) fun i d v hd hv' => by
      cases i with
      | zero =>
        simp only [List.getElem?_cons_zero, Option.some.injEq] at hd
        rw [Array.getElem?_eq_getElem h0] at hv'
        cases hv'
        subst hd
        exact hrel
      | succ i => exact hr (i + 1) d v (by simpa using hd) hv'
  generalize vs[0] = v0 at hv key
  cases hv with
  | ref _ _ _ _ blk off cap h1 h2 h3 T n h4 h5 => exact key cap h2 (.refc _ _ _ _ _ blk off h1 h2 h3 T n h4 h5)
  | refEmpty _ _ _ a => exact key 0 (Nat.le_refl _) (.refcEmpty _ _ _ _)

/-- What is told less behind a call: as at a loop's head. -/
theorem acalls_fits {K1 : D → AHeap → Prop} (h : ACalls P g args H K1) (hw : ∀ r H1, K1 r H1 → ∃ r2 H2, Fits H.length [(0, r)] H1 [(0, r2)] H2 ∧ r2 ≠ .any ∧ K r2 H2) : ACalls P g args H K := by
  refine ⟨h.1, fun w S β vs hI hl hr => (h.2 w S β vs hI hl hr).mono ?_⟩
  rintro e w' ⟨v, r, H1, S', β', rfl, hI', hE, hR, hk⟩
  obtain ⟨r2, H2, hf, hn, hk2⟩ := hw r H1 hk
  have hst : Stt 1 w S β H [(0, r)] H1 { tmps := #[v], defers := [] } w' S' β' := by
    refine ⟨rfl, rfl, fun t => ?_, hI', hE⟩
    by_cases e : t = 0
    · subst e; exact .inr ⟨v, rfl, hR⟩
    · left
      have e2 : ((0 : Nat) == t) = false := by simp; omega
      simp [get, e2]
  obtain ⟨S2, β2, h2⟩ := fits_sound hf hst hI
  rcases h2.env 0 with h3 | ⟨u, h3, h4⟩
  · exact absurd h3 hn
  · have : u = v := by simpa using h3.symm
    subst this
    exact ⟨u, r2, H2, S2, β2, rfl, h2.inv, h2.evo, h4, hk2⟩

/-- Do two slices of two blocks overlap? Some answer comes. -/
theorem overlaps_ext (hT : TyOk P τ) {t e tr : TypeId} (htd : (τ t).td = .slice e) (hke : (τ e).td.known = true) (hf : ∀ (vs : Array Value) (w : World), (callFunc g vs).run P w = ((Extern.SlicesOverlaps.overlaps #[t, t] #[tr] vs).run P w).andThen fun v w' => .ok (.value v) w')
    {b1 o1 n1 b2 o2 n2 c2 : Nat} {cs1 cs2 : List D} (hb1 : H[b1]? = some (.live cs1)) (hb2 : H[b2]? = some (.live cs2)) (hne : b1 ≠ b2) (hfit : o1 + n1 * (τ e).size ≤ cs1.length) :
    AExt P g [.ref b1 o1 n1 (τ e).size, .refc b2 o2 n2 (τ e).size c2] H fun r H' => r = .bit ∧ H' = H := by
  intro w S β vs hI hl hr
  have hu := (hT t (by rw [htd]; rfl)).slice htd
  have hz : ∀ w, (Go.sizeOf e).run P w = .ok (τ e).size w := fun w => (hT e hke).run_sizeOf w
  obtain ⟨vx, vy, rfl⟩ : ∃ vx vy, vs = #[vx, vy] := by
    have : vs.size = 2 := by simpa using hl
    exact ⟨vs[0], vs[1], by apply Array.ext <;> simp [this]; intro i h1 h2; match i, h1 with | 0, _ => rfl | 1, _ => rfl⟩
  have hx := hr 0 _ vx rfl rfl
  have hy := hr 1 _ vy rfl rfl
  have main : ∃ bb w', (Extern.SlicesOverlaps.overlaps #[t, t] #[tr] #[vx, vy]).run P w = .ok (.bool bb) w' ∧ (w' = w ∨ w' = w.drew) := by
    cases hx with
    | refEmpty _ _ _ a =>
      cases hy with
      | refcEmpty _ _ _ a' => exact ⟨false, w, by change Sem.run P (underlying t >>= _) w = _; cases a <;> cases a' <;> simp [run_underlying hu, hz], .inl rfl⟩
      | refc => exact ⟨false, w, by change Sem.run P (underlying t >>= _) w = _; cases a <;> simp [run_underlying hu, hz], .inl rfl⟩
    | ref _ _ _ _ blk1 off1 cap1 h1 h2 h3 T1 m1 h4 h5 =>
      cases hy with
      | refcEmpty _ _ _ a' => exact ⟨false, w, by change Sem.run P (underlying t >>= _) w = _; cases a' <;> simp [run_underlying hu, hz], .inl rfl⟩
      | refc _ _ _ _ _ blk2 off2 k1 k2 k3 T2 m2 k4 k5 =>
        by_cases h0 : n1 = 0 ∨ n2 = 0 ∨ (τ e).size = 0
        · exact ⟨false, w, by change Sem.run P (underlying t >>= _) w = _; simp [run_underlying hu, hz, h0], .inl rfl⟩
        · have hpos : 0 < n1 * (τ e).size := Nat.mul_pos (by omega) (by omega)
          have hblk : blk1 ≠ blk2 := fun e => hne (hI.apart b1 b2 cs1 cs2 blk1 off1 off2 hb1 hb2 h1 (e ▸ k1))
          have hnb : (blk1 != blk2) = true := by simpa using hblk
          have hnb' : (blk1 == blk2) = false := by simpa using hblk
          have hfa : w.frozen? ⟨blk1, off1 + o1, none⟩ = false := by
            rcases hI.live b1 cs1 hb1 with ⟨q, _⟩ | ⟨b0, o0, vs0, T0, fr0, q1, q2, q3, q4⟩
            · subst q; simp at hfit; omega
            · have e : b0 = blk1 ∧ o0 = off1 := by unfold Bk at h1 q1; rw [q1] at h1; cases h1; exact ⟨rfl, rfl⟩
              obtain ⟨rfl, rfl⟩ := e
              obtain ⟨lo, hi⟩ := fr0
              obtain ⟨v, q5, _⟩ := q4.cell o1 _ (List.getElem?_eq_getElem (show o1 < cs1.length by omega))
              have q6 := (Array.getElem?_eq_some_iff.1 q5).1
              simp only [World.frozen?, q4.heap]
              rcases q3 with q3 | q3 <;> simp only [] at q3 <;> simp <;> omega
          have hfr : ∀ (a : Addr), ∃ x, w.frozen? a = x := fun a => ⟨_, rfl⟩
          obtain ⟨x1, hx1⟩ := hfr ⟨blk1, m1, none⟩
          obtain ⟨x2, hx2⟩ := hfr ⟨blk2, off2 + o2, none⟩
          obtain ⟨x3, hx3⟩ := hfr ⟨blk2, m2, none⟩
          have hm1 : m1 ≠ 0 := by
            have : n1 * (τ e).size ≤ cap1 * (τ e).size := Nat.mul_le_mul_right _ h2
            omega
          have hm2 : m2 ≠ 0 := by
            have : n2 * (τ e).size ≤ c2 * (τ e).size := Nat.mul_le_mul_right _ k2
            have := Nat.mul_pos (show 0 < n2 by omega) (show 0 < (τ e).size by omega)
            omega
          obtain ⟨m1, rfl⟩ : ∃ k, m1 = k + 1 := ⟨m1 - 1, by omega⟩
          obtain ⟨m2, rfl⟩ : ∃ k, m2 = k + 1 := ⟨m2 - 1, by omega⟩
          by_cases hc : x1 = true ∧ (x2 = true ∨ x3 = true)
          · obtain ⟨rfl, hc⟩ := hc
            refine ⟨((Question.extern "sameAddr.stringBytes" 2).cut (w.tape w.drawn (Question.extern "sameAddr.stringBytes" 2))) == 1, w.drew, ?_, .inr rfl⟩
            change Sem.run P (underlying t >>= _) w = _
            cases x2 <;> cases x3 <;> simp at hc <;>
              simp [run_underlying hu, hz, h0, hnb, hnb', frozen, noView, viewAt, mayBeOne, stringish, shape, Sem.run, h4, k4, hfa, hx1, hx2, hx3, choose, Question.forced] <;> rfl
          · refine ⟨false, w, ?_, .inl rfl⟩
            change Sem.run P (underlying t >>= _) w = _
            cases x1 <;> cases x2 <;> cases x3 <;> simp at hc <;>
              simp [run_underlying hu, hz, h0, hnb, hnb', frozen, noView, viewAt, mayBeOne, stringish, shape, Sem.run, h4, k4, hfa, hx1, hx2, hx3]
  obtain ⟨bb, w', h1, h2⟩ := main
  have hres : AInv w' S β H ∧ Evo w S β H w' S β H := by
    rcases h2 with rfl | rfl
    · exact ⟨hI, Evo.refl _ _ _ _⟩
    · exact hI.drew
  exact ⟨.bool bb, w', .bit, H, S, β, by rw [hf, h1]; rfl, hres.1, hres.2, .bit bb, rfl, rfl⟩

variable {f : Fit} {d : Drw} {k : List It} {Q : AQ} {env : Env}
/-- A branch on what is not known: both. -/
theorem acond_both {x y : Code} (h1 : aw P τ f d x k Q env H) (h2 : aw P τ f d y k Q env H) : acondS P τ f d .bit x y k Q env H := ⟨h1, h2⟩
end

end Go.Proofs.YtlkffgmejcgdbaaDoor

/- The cells of elements, one behind the other. Of no program. -/
namespace Go.Proofs.YtlkffgmejcgdbaaDoor
set_option linter.all false

section
variable {α : Type} (f : α → D) (sz : Nat)

def flatD (l : List α) : List D := (l.map f).flatMap D.cells
theorem flat_fold (l : List α) : (l.map f).flatMap D.cells = flatD f l := rfl
theorem flatD_nil : flatD f [] = [] := rfl
theorem flatD_cons (x : α) (l : List α) : flatD f (x :: l) = (f x).cells ++ flatD f l := rfl
theorem flatD_app (a b : List α) : flatD f (a ++ b) = flatD f a ++ flatD f b := by simp [flatD]
theorem flatD_len (h : ∀ x, (f x).cells.length = sz) (l : List α) : (flatD f l).length = l.length * sz := flat_len f sz h l
theorem flatD_one (h : ∀ x, (f x).cells.all D.one = true) (l : List α) : (flatD f l).all D.one = true := flat_all f h l
theorem flatD_ni (h : ∀ x, D.noIdsL (f x).cells = true) (l : List α) : D.noIdsL (flatD f l) = true := flat_noIds f h l
theorem flatD_take (h : ∀ x, (f x).cells.length = sz) (l : List α) (i : Nat) : (flatD f l).take (i * sz) = flatD f (l.take i) := by
  by_cases hi : i ≤ l.length
  · have e : l = l.take i ++ l.drop i := (List.take_append_drop i l).symm
    have hl : (flatD f (l.take i)).length = i * sz := by rw [flatD_len f sz h, List.length_take, Nat.min_eq_left hi]
    conv => lhs; rw [e]
    rw [flatD_app, ← hl, List.take_left]
  · have hl : (flatD f l).length = l.length * sz := flatD_len f sz h l
    have : l.length * sz ≤ i * sz := Nat.mul_le_mul_right _ (by omega)
    rw [List.take_of_length_le (by omega), List.take_of_length_le (by omega)]
theorem flatD_drop (h : ∀ x, (f x).cells.length = sz) (l : List α) (i : Nat) : (flatD f l).drop (i * sz) = flatD f (l.drop i) := by
  by_cases hi : i ≤ l.length
  · have e : l = l.take i ++ l.drop i := (List.take_append_drop i l).symm
    have hl : (flatD f (l.take i)).length = i * sz := by rw [flatD_len f sz h, List.length_take, Nat.min_eq_left hi]
    conv => lhs; rw [e]
    rw [flatD_app, ← hl, List.drop_left]
  · have hl : (flatD f l).length = l.length * sz := flatD_len f sz h l
    have : l.length * sz ≤ i * sz := Nat.mul_le_mul_right _ (by omega)
    rw [List.drop_of_length_le (by omega), List.drop_of_length_le (by omega)]
    rfl
theorem flatD_one1 (x : α) : flatD f [x] = (f x).cells := by simp [flatD]
/-- Cells written over elements. -/
theorem flatD_splice (h : ∀ x, (f x).cells.length = sz) (l m : List α) (i : Nat) (hi : i ≤ l.length) : splice (flatD f l) (i * sz) (flatD f m) = flatD f (l.take i ++ m ++ l.drop (i + m.length)) := by
  rw [splice, flatD_take f sz h, flatD_len f sz h, ← Nat.add_mul, flatD_drop f sz h, flatD_app, flatD_app]
theorem flatD_row (h : ∀ x, (f x).cells.length = sz) (l : List α) (i : Nat) (hi : i < l.length) : ((flatD f l).drop (i * sz)).take sz = (f (l[i]'hi)).cells := flat_row f sz h l i hi
theorem flatD_getD (h : ∀ x, (f x).cells.length = sz) (l : List α) (i j : Nat) (hi : i < l.length) (hj : j < sz) (d : D) : (flatD f l).getD (i * sz + j) d = (f (l[i]'hi)).cells.getD j d := flat_getD f sz h l i j hi hj d
theorem Sub.ownF {H : AHeap} {b len : Nat} {cs : List D} (l : List α) (h1 : ∀ x, (f x).cells.length = sz) (h2 : ∀ x, D.noIdsL (f x).cells = true) (hb : H[b]? = some (.froz cs)) (hl : l.length = len) (hc : cs = flatD f l) : Sub H (.ref b 0 len sz) (.sl sz (l.map f) false) :=
  Sub.ownA l f sz h1 h2 hb hl hc
end

theorem splice_app {α : Type} (a z x : List α) : splice (a ++ z) a.length x = a ++ x ++ z.drop x.length := by
  simp [splice]
theorem splice_end {α : Type} (a x : List α) : splice a a.length x = a ++ x := by
  simp [splice]

theorem flatD_set {α : Type} (f : α → D) (sz : Nat) (h : ∀ x, (f x).cells.length = sz) (l : List α) (i : Nat) (x : α) (hi : i < l.length) : splice (flatD f l) (i * sz) (f x).cells = flatD f (l.set i x) := by
  have := flatD_splice f sz h l [x] i (by omega)
  rw [flatD_one1] at this
  rw [this, List.set_eq_take_append_cons_drop, if_pos hi]
  simp

theorem noIdsL_cells (d : D) (h : d.noIds = true) : D.noIdsL d.cells = true := by
  cases d <;> simp_all [D.cells, D.noIds, D.noIdsL]

theorem grow_eq {α : Type} (A X B Z : List α) (a x b : Nat) (ha : A.length = a) (hx : X.length = x) (hb : B.length = b) (hz : Z.length = x + b) : splice (splice (A ++ Z) a X) (a + x) B = A ++ X ++ B := by
  subst ha; subst hx; subst hb
  rw [splice_app, ← List.length_append, splice_app]
  rw [List.drop_of_length_le (l := Z.drop X.length) (by rw [List.length_drop]; omega), List.append_nil]
theorem shift_eq {α : Type} (A X B : List α) (a x : Nat) (ha : A.length = a) (hx : X.length = x) (hb : x ≤ B.length) : splice (splice (A ++ B) (a + x) B) a X = A ++ X ++ B := by
  subst ha; subst hx
  have h1 : splice (A ++ B) (A.length + X.length) B = A ++ (B.take X.length ++ B) := by
    unfold splice
    rw [List.take_append, List.drop_of_length_le (by rw [List.length_append]; omega), List.append_nil, List.take_of_length_le (by omega), show A.length + X.length - A.length = X.length by omega, List.append_assoc]
  rw [h1, splice_app, List.drop_left' (by rw [List.length_take]; omega)]

theorem shift_fin {α : Type} {FL A X B : List α} {a q q' r : Nat} (hF : FL = A ++ B) (ha : A.length = a) (hq : a ≤ q) (hq2 : q ≤ FL.length) (hqq : q' = q) (hr : FL.length ≤ r) :
    (FL.take q ++ B ++ FL.drop r).take a ++ X ++ (FL.take q ++ B ++ FL.drop r).drop q' = A ++ X ++ B := by
  subst hqq
  have e1 : FL.drop r = [] := List.drop_of_length_le hr
  have e2 : (FL.take q').length = q' := by simp; omega
  have e3 : FL.take q' ++ B = A ++ (B.take (q' - a) ++ B) := by
    subst hF; subst ha
    rw [List.take_append, List.take_of_length_le (by omega), List.append_assoc]
  rw [e1, List.append_nil, List.drop_left' e2, e3, List.take_left' ha]
theorem grow_fin {α : Type} {A X B Z : List α} {a q q' r : Nat} (ha : A.length = a) (hq : q = a + X.length) (hq' : q' = a + X.length) (hz : Z.length = X.length + B.length) (hr : q + B.length ≤ r) :
    ((A ++ Z).take a ++ X ++ (A ++ Z).drop q').take q ++ B ++ ((A ++ Z).take a ++ X ++ (A ++ Z).drop q').drop r = A ++ X ++ B := by
  subst ha; subst hq; subst hq'
  have e1 : (A ++ Z).take A.length ++ X ++ (A ++ Z).drop (A.length + X.length) = A ++ X ++ Z.drop X.length := by
    rw [List.take_left, List.drop_append, List.drop_of_length_le (by omega), List.nil_append, show A.length + X.length - A.length = X.length by omega]
  rw [e1, ← List.length_append, List.take_left, List.drop_of_length_le (by simp; omega), List.append_nil]

theorem aUn_bit (H : AHeap) : aUn .not .bit H = ⟨True, .bit, H⟩ := rfl
theorem ex_int (k : IntKind) : (∃ k', TD.int k = TD.int k') = True := eq_true ⟨k, rfl⟩

/-- What is returned is a slice of a whole block: that block is told, the one handed in is given up. -/
theorem own_last {P : Program} {g : FuncId} {args : List D} {G0 : Blk} {m sz : Nat} {cs : List D} (hn : D.noIdsL cs = true) (h : ACalls P g args [G0] fun r H' => ∃ b, r = .ref b 0 m sz ∧ H'[b]? = some (.live cs)) : EffN P g args [G0] (.ref 1 0 m sz) [.dead, .live cs] := by
  unfold EffN
  refine acalls_fits h fun r H1 ⟨b, hr, hb⟩ => ?_
  subst hr
  refine ⟨.ref 1 0 m sz, [.dead, .live cs], fitsR [0, b] ⟨⟨rfl, rfl⟩, trivial⟩ ?_ (by simp [liveIds]) rfl, by simp, rfl, rfl⟩
  rw [fh_dead, fh_live _ _ _ _ _ _ hn]
  exact ⟨hb, trivial⟩
/-- Where one stands among what rises, or would: how many are below. -/
def idxT {α : Type} (l : List α) (c : α → Int) : Nat := (l.takeWhile fun x => decide (c x < 0)).length
def thereT {α : Type} (l : List α) (c : α → Int) : Bool := match l[idxT l c]? with
  | some x => c x == 0
  | none => false
theorem idxT_eq {α : Type} (l : List α) (c : α → Int) : ∀ (i : Nat), i ≤ l.length → (∀ (k : Nat) (h : k < l.length), k < i → c l[k] < 0) → (∀ (k : Nat) (h : k < l.length), i ≤ k → ¬ c l[k] < 0) → idxT l c = i := by
  induction l with
  | nil => intro i hi _ _; simp at hi; subst hi; rfl
  | cons x l ih =>
    intro i hi h1 h2
    cases i with
    | zero =>
      have := h2 0 (by simp) (Nat.le_refl _)
      simp only [List.getElem_cons_zero] at this
      simp [idxT, this]
    | succ i =>
      have hx := h1 0 (by simp) (by omega)
      simp only [List.getElem_cons_zero] at hx
      have := ih i (by simpa using hi) (fun k hk hki => by have := h1 (k + 1) (by simpa using hk) (by omega); simpa using this) (fun k hk hki => by have := h2 (k + 1) (by simpa using hk) (by omega); simpa using this)
      simp only [idxT] at this ⊢
      simp [hx, this]

theorem idxT_le {α : Type} (l : List α) (c : α → Int) : idxT l c ≤ l.length := (List.takeWhile_sublist _).length_le
theorem there_lt {α : Type} {l : List α} {c : α → Int} (h : thereT l c = true) : idxT l c < l.length := by
  unfold thereT at h
  by_cases hl : idxT l c < l.length
  · exact hl
  · rw [List.getElem?_eq_none (by omega)] at h; cases h

/-- 'i' elements exchanged with as many from the end, of 'n' from 'p' on. -/
def revI {α : Type} (L : List α) (p n : Nat) : Nat → List α
  | 0 => L
  | i + 1 => match (revI L p n i)[p + i]?, (revI L p n i)[p + (n - 1 - i)]? with
    | some x, some y => ((revI L p n i).set (p + i) y).set (p + (n - 1 - i)) x
    | _, _ => revI L p n i
theorem revI_len {α : Type} (L : List α) (p n : Nat) : ∀ i, (revI L p n i).length = L.length
  | 0 => rfl
  | i + 1 => by
    simp only [revI]
    split
    · simp [revI_len L p n i]
    · exact revI_len L p n i
theorem revI_get {α : Type} (L : List α) (p n : Nat) (hp : p + n ≤ L.length) : ∀ i, 2 * i ≤ n → ∀ k, (revI L p n i)[k]? = if (p ≤ k ∧ k < p + i) ∨ (p + n - i ≤ k ∧ k < p + n) then L[2 * p + n - 1 - k]? else L[k]?
  | 0, _, k => by
    rw [if_neg (by omega)]
    rfl
  | i + 1, hi, k => by
    have ih := revI_get L p n hp i (by omega)
    have hl := revI_len L p n i
    have e1 : (revI L p n i)[p + i]? = L[p + i]? := by rw [ih, if_neg (by omega)]
    have e2 : (revI L p n i)[p + (n - 1 - i)]? = L[p + (n - 1 - i)]? := by rw [ih, if_neg (by omega)]
    have g1 : L[p + i]? = some (L[p + i]'(by omega)) := List.getElem?_eq_getElem (by omega)
    have g2 : L[p + (n - 1 - i)]? = some (L[p + (n - 1 - i)]'(by omega)) := List.getElem?_eq_getElem (by omega)
    simp only [revI, e1, e2, g1, g2]
    rw [List.getElem?_set, List.getElem?_set]
    by_cases c1 : p + (n - 1 - i) = k
    · rw [if_pos c1, if_pos (by simp; omega), if_pos (by omega), ← g1]
      congr 1; omega
    · rw [if_neg c1]
      by_cases c2 : p + i = k
      · rw [if_pos c2, if_pos (by omega), if_pos (by omega), ← g2]
        congr 1; omega
      · rw [if_neg c2, ih]
        by_cases c3 : (p ≤ k ∧ k < p + i) ∨ (p + n - i ≤ k ∧ k < p + n)
        · rw [if_pos c3, if_pos (by omega)]
        · rw [if_neg c3, if_neg (by omega)]
/-- 'n' elements from 'p' on, the other way round. -/
def revAt {α : Type} (L : List α) (p n : Nat) : List α := L.take p ++ ((L.drop p).take n).reverse ++ L.drop (p + n)
theorem revI_done {α : Type} (L : List α) (p n i : Nat) (hp : p + n ≤ L.length) (hi : 2 * i ≤ n) (hd : n ≤ 2 * i + 1) : revI L p n i = revAt L p n := by
  apply List.ext_getElem?
  intro k
  have hl1 : (L.take p).length = p := by simp; omega
  have hl2 : (((L.drop p).take n).reverse).length = n := by simp; omega
  rw [revI_get L p n hp i hi, revAt, List.append_assoc]
  by_cases c1 : k < p
  · rw [if_neg (by omega), List.getElem?_append_left (by omega), List.getElem?_take_of_lt c1]
  · rw [List.getElem?_append_right (by omega), hl1]
    by_cases c2 : k < p + n
    · rw [List.getElem?_append_left (by omega), List.getElem?_reverse (by simp; omega), List.length_take, List.length_drop, Nat.min_eq_left (by omega), List.getElem?_take_of_lt (by omega), List.getElem?_drop]
      by_cases c3 : (p ≤ k ∧ k < p + i) ∨ (p + n - i ≤ k ∧ k < p + n)
      · rw [if_pos c3]; congr 1; omega
      · rw [if_neg c3]; congr 1; omega
    · rw [if_neg (by omega), List.getElem?_append_right (by omega), hl2, List.getElem?_drop]
      congr 1; omega
theorem revAt_len {α : Type} (L : List α) (p n : Nat) (hp : p + n ≤ L.length) : (revAt L p n).length = L.length := by
  simp [revAt]; omega
/-- Three turns round: the last one comes first. -/
theorem rev3 {α : Type} (A B : List α) (x : α) : revAt (revAt (revAt (A ++ B ++ [x]) A.length B.length) (A.length + B.length) 1) A.length (B.length + 1) = A ++ x :: B := by
  have e1 : revAt (A ++ B ++ [x]) A.length B.length = A ++ B.reverse ++ [x] := by simp [revAt, List.append_assoc]
  rw [e1]
  have hab : (A ++ B.reverse).length = A.length + B.length := by simp
  have e2 : revAt (A ++ B.reverse ++ [x]) (A.length + B.length) 1 = A ++ B.reverse ++ [x] := by
    have d1 : (A ++ B.reverse ++ [x]).drop ((A ++ B.reverse).length + 1) = [] := List.drop_of_length_le (by simp; omega)
    rw [revAt, ← hab, List.take_left, List.drop_left, d1]
    simp
  rw [e2]
  have h1 : (A ++ B.reverse ++ [x]).drop A.length = B.reverse ++ [x] := by simp [List.append_assoc]
  have h2 : (A ++ B.reverse ++ [x]).take A.length = A := by simp [List.append_assoc]
  have h3 : (B.reverse ++ [x]).take (B.length + 1) = B.reverse ++ [x] := List.take_of_length_le (by simp)
  have h4 : (A ++ B.reverse ++ [x]).drop (A.length + (B.length + 1)) = [] := List.drop_of_length_le (by simp)
  rw [revAt, h1, h2, h3, h4]
  simp

/-- At a loop's head: a block of one's own becomes one for good; a cell of a block of one's own is told of as data. -/
theorem fitsFroz {n0 : Nat} {env : Env} {H : AHeap} {E : Env} {G : AHeap} (b : Nat) {cs : List D} (h : H[b]? = some (.live cs)) (hn : Fits n0 env (H.set b (.froz cs)) E G) : Fits n0 env H E G := .trans _ _ _ _ _ _ (.froz b cs env H h) hn
theorem fitsCell {n0 : Nat} {env : Env} {H : AHeap} {E : Env} {G : AHeap} (b i : Nat) {cs : List D} {d d' : D} (h : H[b]? = some (.live cs)) (hd : cs[i]? = some d) (hs : Sub H d d') (hn : Fits n0 env (H.set b (.live (cs.set i d'))) E G) : Fits n0 env H E G := .trans _ _ _ _ _ _ (.cell b i cs d d' env H h hd hs.2) hn

end Go.Proofs.YtlkffgmejcgdbaaDoor
