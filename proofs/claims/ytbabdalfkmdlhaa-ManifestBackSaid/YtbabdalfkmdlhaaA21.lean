/- Operations whose order is open: a run in the order of the text stands for every order, where what is not ordered is apart. Of no program. -/
import Derived.Test.YtbabdalfkmdlhaaA20
import Derived.Orders
namespace Go.Proofs.Ytbabdalfkmdlhaa
set_option linter.all false

/-- What is ahead of an operation, by its edges, as bits. -/
def maskF (acc : List Nat) (s : Nat) (e : Edge) : Nat := if Region.binds .any e then s ||| 2 ^ e.on ||| acc.getD e.on 0 else s
def mask (acc : List Nat) (o : Oper) : Nat := o.after.toList.foldl (maskF acc) 0

def befores : List Oper → List Nat → List Nat
  | [], acc => acc
  | o :: r, acc => befores r (acc ++ [mask acc o])

def edgesOk : List Oper → Nat → Bool
  | [], _ => true
  | o :: r, j => o.after.toList.all (fun e => !Region.binds .any e || decide (e.on < j)) && edgesOk r (j + 1)

def tmpsOk (ops : List Oper) : Bool :=
  let B := befores ops []
  edgesOk ops 0 && (List.range ops.length).all fun j => (List.range j).all fun i => (B.getD j 0).testBit i ||
    (match ops[i]?, ops[j]? with | some x, some y => Oper.apart ops.toArray x y | _, _ => true)

abbrev WR := List Nat × List Nat

def offEach (l m : List Nat) : Bool := l.all fun x => !m.contains x

def heapOk (ops : List Oper) (tr : List WR) : Bool :=
  let B := befores ops []
  (List.range ops.length).all fun j => (List.range j).all fun i => (B.getD j 0).testBit i ||
    (match tr[i]?, tr[j]? with | some x, some y => offEach x.2 y.1 && offEach x.2 y.2 && offEach y.2 x.1 | _, _ => true)

theorem befores_spec : ∀ (ops : List Oper) (acc : List Nat), (befores ops acc).length = acc.length + ops.length ∧ (∀ i, i < acc.length → (befores ops acc)[i]? = acc[i]?) ∧
    ∀ j o, ops[j]? = some o → (befores ops acc).getD (acc.length + j) 0 = mask ((befores ops acc).take (acc.length + j)) o
  | [], acc => ⟨by simp [befores], fun i h => rfl, fun j o h => by simp at h⟩
  | o :: r, acc => by
    obtain ⟨h1, h2, h3⟩ := befores_spec r (acc ++ [mask acc o])
    simp only [befores]
    refine ⟨by rw [h1]; simp; omega, fun i hi => ?_, fun j o' hj => ?_⟩
    · rw [h2 i (by simp; omega), List.getElem?_append_left hi]
    · cases j with
      | zero =>
        simp only [List.getElem?_cons_zero, Option.some.injEq] at hj
        subst hj
        have h4 := h2 acc.length (by simp)
        rw [List.getElem?_append_right (Nat.le_refl _)] at h4
        simp only [Nat.sub_self, List.getElem?_cons_zero] at h4
        have h5 : (befores r (acc ++ [mask acc o])).take acc.length = acc := by
          apply List.ext_getElem?
          intro i
          by_cases hi : i < acc.length
          · rw [List.getElem?_take_of_lt hi, h2 i (by simp; omega), List.getElem?_append_left hi]
          · rw [List.getElem?_eq_none (by simp; omega), List.getElem?_eq_none (by omega)]
        rw [Nat.add_zero, h5, List.getD_eq_getElem?_getD, h4]; rfl
      | succ j =>
        have := h3 j o' (by simpa using hj)
        simpa [Nat.add_assoc, Nat.add_comm 1 j] using this

theorem mask_bit {acc : List Nat} {o : Oper} {i : Nat} (h : (mask acc o).testBit i = true) : ∃ e, e ∈ o.after.toList ∧ Region.binds .any e = true ∧ (e.on = i ∨ (acc.getD e.on 0).testBit i = true) := by
  have gen : ∀ (l : List Edge) (s : Nat), (l.foldl (maskF acc) s).testBit i = true → s.testBit i = true ∨ ∃ e, e ∈ l ∧ Region.binds .any e = true ∧ (e.on = i ∨ (acc.getD e.on 0).testBit i = true) := by
    intro l
    induction l with
    | nil => intro s hs; exact .inl hs
    | cons e l ih =>
      intro s hs
      rcases ih _ hs with h | ⟨e', h1, h2⟩
      · by_cases hb : Region.binds .any e = true
        · unfold maskF at h
          rw [if_pos hb] at h
          simp only [Nat.testBit_or, Bool.or_eq_true] at h
          rcases h with (h | h) | h
          · exact .inl h
          · refine .inr ⟨e, by simp, hb, .inl ?_⟩
            rw [Nat.testBit_two_pow] at h; simpa using h
          · exact .inr ⟨e, by simp, hb, .inr h⟩
        · unfold maskF at h; rw [if_neg hb] at h; exact .inl h
      · exact .inr ⟨e', by simp [h1], h2⟩
  rcases gen _ _ h with h | h
  · simp at h
  · exact h

theorem edgesOk_spec : ∀ (ops : List Oper) (k : Nat), edgesOk ops k = true → ∀ (j : Nat) (o : Oper), ops[j]? = some o → ∀ e, e ∈ o.after.toList → Region.binds .any e = true → e.on < k + j
  | [], _, _, j, o, hj, _, _, _ => by simp at hj
  | o :: r, k, h, j, o', hj, e, he, hb => by
    simp only [edgesOk, Bool.and_eq_true, List.all_eq_true, Bool.or_eq_true, Bool.not_eq_true', decide_eq_true_eq] at h
    cases j with
    | zero =>
      simp only [List.getElem?_cons_zero, Option.some.injEq] at hj
      subst hj
      rcases h.1 e he with h1 | h1
      · rw [hb] at h1; cases h1
      · omega
    | succ j =>
      have := edgesOk_spec r (k + 1) h.2 j o' (by simpa using hj) e he hb
      omega

section order
variable {ops : List Oper} (hE : edgesOk ops 0 = true) {L : Nat → Prop}

/-- With an operation all that is ahead of it. -/
def Down (ops : List Oper) (L : Nat → Prop) : Prop := ∀ j o, ops[j]? = some o → L j → ∀ e, e ∈ o.after.toList → Region.binds .any e = true → L e.on

def Bit (ops : List Oper) (j i : Nat) : Prop := ((befores ops []).getD j 0).testBit i = true

include hE in
theorem bit_step {j : Nat} {o : Oper} {i : Nat} (hj : ops[j]? = some o) (h : Bit ops j i) : ∃ e, e ∈ o.after.toList ∧ Region.binds .any e = true ∧ e.on < j ∧ (e.on = i ∨ Bit ops e.on i) := by
  have h1 := (befores_spec ops []).2.2 j o hj
  unfold Bit at h
  simp only [List.length_nil, Nat.zero_add] at h1
  rw [h1] at h
  obtain ⟨e, h2, h3, h4⟩ := mask_bit h
  have h5 := edgesOk_spec ops 0 hE j o hj e h2 h3
  refine ⟨e, h2, h3, by omega, h4.imp id fun h => ?_⟩
  unfold Bit
  rw [List.getD_eq_getElem?_getD] at h ⊢
  rwa [List.getElem?_take_of_lt (by omega)] at h

include hE in
theorem bit_down (hD : Down ops L) : ∀ (j i : Nat), L j → Bit ops j i → L i := by
  intro j
  induction j using Nat.strongRecOn with
  | ind j ih =>
    intro i hj hb
    cases ho : ops[j]? with
    | none =>
      have h1 := (befores_spec ops []).1
      have : ops.length ≤ j := by simpa using ho
      unfold Bit at hb
      rw [List.getD_eq_getElem?_getD, List.getElem?_eq_none (by rw [h1]; simpa using this)] at hb
      simp at hb
    | some o =>
      obtain ⟨e, h1, h2, h3, h4⟩ := bit_step hE ho hb
      have h5 := hD j o ho hj e h1 h2
      rcases h4 with rfl | h4
      · exact h5
      · exact ih _ h3 i h5 h4

include hE in
theorem bit_ready (hD : Down ops L) {i k : Nat} {o : Oper} (ho : ops[i]? = some o) (he : ∀ e, e ∈ o.after.toList → Region.binds .any e = true → L e.on) (hb : Bit ops i k) : L k := by
  obtain ⟨e, h1, h2, h3, h4⟩ := bit_step hE ho hb
  rcases h4 with rfl | h4
  · exact he e h1 h2
  · exact bit_down hE hD _ _ (he e h1 h2) h4

end order

section cur
open Classical
variable {X V : Type} (wr : Nat → X → Prop) (v : Nat → X → V)

/-- What stands at 'x' where just the operations of 'L' among the first 'k' have run. -/
noncomputable def cur (L : Nat → Prop) (x : X) : Nat → V
  | 0 => v 0 x
  | k + 1 => if L k ∧ wr k x then v (k + 1) x else cur L x k

variable {wr v} {L : Nat → Prop} {x : X} {n : Nat} (hv : ∀ k x, k < n → ¬ wr k x → v (k + 1) x = v k x)

include hv in
theorem cur_all : ∀ k, k ≤ n → (∀ j, j < k → L j ∨ ¬ wr j x) → cur wr v L x k = v k x
  | 0, _, _ => rfl
  | k + 1, hk, h => by
    have ih := cur_all k (by omega) (fun j hj => h j (by omega))
    by_cases hc : L k ∧ wr k x
    · simp [cur, hc]
    · simp only [cur, hc, if_false]
      rw [ih, hv k x (by omega)]
      intro hw
      rcases h k (by omega) with h1 | h1
      · exact hc ⟨h1, hw⟩
      · exact h1 hw

theorem cur_stop (i : Nat) : ∀ k, i ≤ k → (∀ j, i ≤ j → j < k → ¬(L j ∧ wr j x)) → cur wr v L x k = cur wr v L x i
  | 0, h, _ => by rw [Nat.le_zero.1 h]
  | k + 1, h, hn => by
    by_cases e : i = k + 1
    · rw [e]
    · have hc := hn k (by omega) (by omega)
      simp only [cur, hc, if_false]
      exact cur_stop i k (by omega) fun j h1 h2 => hn j h1 (by omega)

theorem cur_congr {L' : Nat → Prop} (h : ∀ k, wr k x → (L' k ↔ L k)) : ∀ k, cur wr v L' x k = cur wr v L x k
  | 0 => rfl
  | k + 1 => by
    have : (L' k ∧ wr k x) ↔ (L k ∧ wr k x) := ⟨fun ⟨a, b⟩ => ⟨(h k b).1 a, b⟩, fun ⟨a, b⟩ => ⟨(h k b).2 a, b⟩⟩
    simp only [cur, this, cur_congr h k]

include hv in
/-- What an operation that is next sees is what it sees in the text's order. -/
theorem cur_read {i : Nat} (hi : i ≤ n) (h1 : ∀ j, j < i → L j ∨ ¬ wr j x) (h2 : ∀ j, i ≤ j → ¬(L j ∧ wr j x)) : cur wr v L x n = v i x := by
  rw [cur_stop i n hi (fun j h _ => h2 j h), cur_all hv i hi h1]

theorem cur_write {i : Nat} (hi : i < n) {L' : Nat → Prop} (hL : L' i) (hw : wr i x) (h2 : ∀ j, i < j → ¬(L' j ∧ wr j x)) : cur wr v L' x n = v (i + 1) x := by
  rw [cur_stop (i + 1) n hi (fun j h _ => h2 j h)]
  simp [cur, hL, hw]

end cur

/-- A call whose reach is known: what it reads, what it writes, what comes of it, whatever stands elsewhere. -/
structure DC (P : Program) (g : FuncId) (args : List D) (Rs Ws : List Nat) (H : AHeap) (d : D) (H1 : AHeap) : Prop where
  run : ∀ H', H'.length = H.length → (∀ b, b ∈ Rs ∨ b ∈ Ws → H'[b]? = H[b]?) → ACalls P g args H' fun r H'' => r = d ∧ H''.length = H'.length ∧ (∀ b, b ∈ Ws → H''[b]? = H1[b]?) ∧ ∀ b, b ∉ Ws → H''[b]? = H'[b]?
  len : H1.length = H.length
  keep : ∀ b, b ∉ Ws → H1[b]? = H[b]?

theorem DC.pure {P : Program} {g : FuncId} {args : List D} {d : D} {H : AHeap} (hF : PureF P g args d) (hn : args.all D.noIds = true) : DC P g args [] [] H d H :=
  ⟨fun H' _ _ => pcall hF hn ⟨rfl, rfl, fun b hb => absurd hb (by simp), fun b _ => rfl⟩, rfl, fun b _ => rfl⟩

def tcall (P : Program) (f : D) (args : List D) (H : AHeap) (k : D → AHeap → List Nat → List Nat → Prop) : Prop :=
  match f with
  | .fn (.func g) cap => ∃ Rs Ws d H1, DC P g (args ++ cap) Rs Ws H d H1 ∧ k d H1 Rs Ws
  | _ => False

def tstep (P : Program) (τ : Ty) (o : Oper) (s : Nat) (env : Env) (H : AHeap) (k : D → AHeap → List Nat → List Nat → Prop) : Prop :=
  match o.op with
  | .call { callee := .value f, args, .. } => tcall P (aeval env f) (args.toList.map (aeval env)) H k
  | op => (allocs τ op = true → isVoid H s = true) ∧ (aop τ (aeval env) s H op).ob ∧ k (aop τ (aeval env) s H op).d (aop τ (aeval env) s H op).H (aReads (aeval env) op) (aWrites τ (aeval env) s op)

def trun (P : Program) (τ : Ty) (all : List Oper) (K : Env → AHeap → Prop) : List Oper → Nat → Env → AHeap → List WR → Prop
  | [], _, env, H, tr => heapOk all tr.reverse = true ∧ K env H
  | o :: rest, s, env, H, tr =>
    agd (gsel all env o.guard) (tstep P τ o s env H fun d H' Rs Ws => trun P τ all K rest (nexts τ o s) (put env o.dst d) H' ((Rs, Ws) :: tr)) (trun P τ all K rest (nexts τ o s) (put env o.dst (.tup [])) H (([], []) :: tr))

/-- A region whose order is open: the run in the text's order, and that what is not ordered is apart. -/
def adraw (P : Program) (τ : Ty) : Drw := fun _ ops K env H =>
  tmpsOk ops = true ∧ ∃ x, trun P τ ops K ops H.length env (pad H (countAllocs τ ops + x)) []

/-- What an operation did in the text's order. -/
inductive Rec (P : Program) (τ : Ty) (all : List Oper) (o : Oper) (s : Nat) (env : Env) (H : AHeap) : D → List Nat → List Nat → AHeap → Prop
  | op (hs : gsel all env o.guard = some true) (hc : ∀ f as ts, o.op ≠ .call { callee := .value f, args := as, argTypes := ts }) (hv : allocs τ o.op = true → isVoid H s = true) (ho : (aop τ (aeval env) s H o.op).ob) :
      Rec P τ all o s env H (aop τ (aeval env) s H o.op).d (aReads (aeval env) o.op) (aWrites τ (aeval env) s o.op) (aop τ (aeval env) s H o.op).H
  | call (hs : gsel all env o.guard = some true) (f : Operand) (as : Array Operand) (ts : Array TypeId) (hop : o.op = .call { callee := .value f, args := as, argTypes := ts }) (g : FuncId) (cap : List D) (hf : aeval env f = .fn (.func g) cap)
      (d : D) (Rs Ws : List Nat) (H1 : AHeap) (hdc : DC P g (as.toList.map (aeval env) ++ cap) Rs Ws H d H1) : Rec P τ all o s env H d Rs Ws H1
  | off (hs : gsel all env o.guard = some false) : Rec P τ all o s env H (.tup []) [] [] H

def slotAt (τ : Ty) : List Oper → Nat → Nat → Nat
  | o :: r, s, i + 1 => slotAt τ r (nexts τ o s) i
  | _, s, _ => s

theorem trun_trace {P : Program} {τ : Ty} {all : List Oper} {K : Env → AHeap → Prop} : ∀ (rest : List Oper) (s : Nat) (env : Env) (H : AHeap) (tr : List WR), trun P τ all K rest s env H tr →
    ∃ (E : Nat → Env) (G : Nat → AHeap) (V : Nat → D) (T : Nat → WR), E 0 = env ∧ G 0 = H ∧
      (∀ i o, rest[i]? = some o → E (i + 1) = put (E i) o.dst (V i) ∧ Rec P τ all o (slotAt τ rest s i) (E i) (G i) (V i) (T i).1 (T i).2 (G (i + 1))) ∧
      heapOk all (tr.reverse ++ (List.range rest.length).map T) = true ∧ K (E rest.length) (G rest.length)
  | [], s, env, H, tr, h => ⟨fun _ => env, fun _ => H, fun _ => .any, fun _ => ([], []), rfl, rfl, fun i o hi => by simp at hi, by simpa using h.1, h.2⟩
  | o :: rest, s, env, H, tr, h => by
    have step : ∀ (d : D) (Rs Ws : List Nat) (H1 : AHeap), Rec P τ all o s env H d Rs Ws H1 → trun P τ all K rest (nexts τ o s) (put env o.dst d) H1 ((Rs, Ws) :: tr) →
        ∃ (E : Nat → Env) (G : Nat → AHeap) (V : Nat → D) (T : Nat → WR), E 0 = env ∧ G 0 = H ∧
          (∀ i o', (o :: rest)[i]? = some o' → E (i + 1) = put (E i) o'.dst (V i) ∧ Rec P τ all o' (slotAt τ (o :: rest) s i) (E i) (G i) (V i) (T i).1 (T i).2 (G (i + 1))) ∧
          heapOk all (tr.reverse ++ (List.range (o :: rest).length).map T) = true ∧ K (E (o :: rest).length) (G (o :: rest).length) := by
      intro d Rs Ws H1 hr ht
      obtain ⟨E, G, V, T, h1, h2, h3, h4, h5⟩ := trun_trace rest _ _ _ _ ht
      refine ⟨fun | 0 => env | i + 1 => E i, fun | 0 => H | i + 1 => G i, fun | 0 => d | i + 1 => V i, fun | 0 => (Rs, Ws) | i + 1 => T i, rfl, rfl, fun i o' hi => ?_, ?_, h5⟩
      · cases i with
        | zero =>
          simp only [List.getElem?_cons_zero, Option.some.injEq] at hi
          subst hi
          exact ⟨h1, by simp only [slotAt]; rw [h2]; exact hr⟩
        | succ i => exact h3 i o' (by simpa using hi)
      · rw [List.length_cons, List.range_succ_eq_map, List.map_cons, List.map_map]
        simpa [Function.comp_def] using h4
    unfold trun at h
    cases hg : gsel all env o.guard with
    | none => rw [hg] at h; exact h.elim
    | some b =>
      rw [hg] at h
      cases b with
      | false => exact step _ _ _ _ (.off hg) h
      | true =>
        simp only [agd] at h
        by_cases hc : ∃ f as ts, o.op = .call { callee := .value f, args := as, argTypes := ts }
        · obtain ⟨f, as, ts, hop⟩ := hc
          unfold tstep at h
          rw [hop] at h
          simp only at h
          unfold tcall at h
          cases hd : aeval env f <;> rw [hd] at h <;> try exact h.elim
          rename_i fn cap
          cases fn <;> try exact h.elim
          rename_i g
          obtain ⟨Rs, Ws, d, H1, hdc, hk⟩ := h
          exact step _ _ _ _ (.call hg f as ts hop g cap hd d Rs Ws H1 hdc) hk
        · have h' : (allocs τ o.op = true → isVoid H s = true) ∧ (aop τ (aeval env) s H o.op).ob ∧ trun P τ all K rest (nexts τ o s) (put env o.dst (aop τ (aeval env) s H o.op).d) (aop τ (aeval env) s H o.op).H ((aReads (aeval env) o.op, aWrites τ (aeval env) s o.op) :: tr) := by
            unfold tstep at h
            split at h
            · rename_i f as ts heq; exact absurd ⟨f, as, ts, heq⟩ hc
            · exact h
          exact step _ _ _ _ (.op hg (fun f as ts e => hc ⟨f, as, ts, e⟩) h'.1 h'.2.1) h'.2.2

theorem aop_congr (τ : Ty) {ev ev' : Operand → D} (s : Nat) (H : AHeap) (op : Op) (h : ∀ x, x ∈ op.operands.toList → ev' x = ev x) : aop τ ev' s H op = aop τ ev s H op := by
  have pairs : ∀ ps : Array (Nat × Operand), (∀ x, x ∈ ps.toList.map (fun x => x.2) → ev' x = ev x) → (ps.toList.map fun p => (p.1, ev' p.2)) = (ps.toList.map fun p => (p.1, ev p.2)) := fun ps hp =>
    List.map_congr_left fun p hm => by rw [hp p.2 (List.mem_map.2 ⟨p, hm, rfl⟩)]
  cases op <;> simp only [Op.operands] at h
  case build t ps => simp only [aop, pairs ps (by simpa using h)]
  case buildSlice t n ps => simp only [aop, pairs ps (by simpa using h)]
  case makeFunc fn first cap =>
    cases fn <;> try rfl
    simp only [aop]
    rw [List.map_congr_left (l := cap.toList) fun x hx => h x (by simp; exact .inr (by simpa using hx))]
  case call c =>
    obtain ⟨callee, args, ts⟩ := c
    cases callee <;> try rfl
    rename_i b
    simp only [aop]
    rw [List.map_congr_left (l := args.toList) fun x hx => h x (by simp [Call.operands]; exact by simpa using hx)]
  case slice t x lo hi mx => cases lo <;> cases hi <;> cases mx <;> simp_all [aop]
  all_goals (first | rfl | (simp_all [aop]; done))

theorem slot_written {τ : Ty} {ev : Operand → D} {s : Nat} {op : Op} (h : allocs τ op = true) : s ∈ aWrites τ ev s op := by
  cases op <;> try (cases h; done)
  case alloc => simp [aWrites]
  case box => simp [aWrites]
  case buildSlice => simp [aWrites]
  case makeSlice => simp [aWrites]
  case convert => simp only [allocs] at h; simp [aWrites, h]
  case call c =>
    obtain ⟨callee, args, ts⟩ := c
    cases callee <;> try (cases h; done)
    rename_i b
    cases b <;> try (cases h; done)
    simp [aWrites]

section
variable {P : Program} {τ : Ty} {all : List Oper} {o : Oper} {s : Nat} {env : Env} {H : AHeap} {d : D} {Rs Ws : List Nat} {H1 : AHeap}

theorem Rec.frame (hr : Rec P τ all o s env H d Rs Ws H1) : H1.length = H.length ∧ ∀ b, b ∉ Ws → H1[b]? = H[b]? := by
  cases hr with
  | op hs hc hv ho =>
    obtain ⟨_, _, h3, _, h5⟩ := aop_local τ (aeval env) s o.op H H rfl (fun _ _ => rfl) ho
    exact ⟨h3, h5⟩
  | call hs f as ts hop g cap hf _ _ _ _ hdc => exact ⟨hdc.len, hdc.keep⟩
  | off hs => exact ⟨rfl, fun _ _ => rfl⟩

theorem Rec.go (hr : Rec P τ all o s env H d Rs Ws H1) {env' : Env} {H' : AHeap} (he : ∀ t, t ∈ Oper.looksAt all.toArray o → get env' t = get env t) (hl : H'.length = H.length) (hb : ∀ b, b ∈ Rs ∨ b ∈ Ws → H'[b]? = H[b]?) :
    agd (gsel all env' o.guard) (astep P τ o s env' H' fun d' H'' => d' = d ∧ H''.length = H'.length ∧ (∀ b, b ∈ Ws → H''[b]? = H1[b]?) ∧ ∀ b, b ∉ Ws → H''[b]? = H'[b]?) (D.tup [] = d ∧ (∀ b, b ∈ Ws → H'[b]? = H1[b]?) ∧ ∀ b, b ∉ Ws → H'[b]? = H'[b]?) := by
  have hx : ∀ x, x ∈ o.op.operands.toList → aeval env' x = aeval env x := fun x hx => by
    cases x with
    | tmp t => exact he t (List.mem_append_left _ (List.mem_filterMap.2 ⟨.tmp t, hx, rfl⟩))
    | _ => rfl
  have hg : gsel all env' o.guard = gsel all env o.guard := by
    unfold gsel
    cases hgu : o.guard with
    | none => rfl
    | some gw =>
      obtain ⟨j, want⟩ := gw
      have : ayield all env' j = ayield all env j := by
        unfold ayield
        cases hj : all[j]? with
        | none => rfl
        | some oj =>
          simp only
          cases hd : oj.dst with
          | none => rfl
          | some t => exact he t (List.mem_append_right _ (by simp [hgu, hj, hd]))
      simp only [this]
  rw [hg]
  cases hr with
  | op hs hc hv ho =>
    rw [hs]
    simp only [agd]
    have hav := aop_congr τ s H' o.op hx
    obtain ⟨h1, h2, h3, h4, h5⟩ := aop_local τ (aeval env) s o.op H H' hl hb ho
    unfold astep
    split
    · rename_i f as ts heq; exact absurd heq (hc _ _ _)
    · refine ⟨fun ha => ?_, ?_, ?_⟩
      · have := hv ha
        unfold isVoid at *
        rw [hb s (.inr (slot_written ha))]; exact this
      · rw [hav]; exact h1
      · simp only [hav]; exact ⟨h2, h3, h4, h5⟩
  | call hs f as ts hop g cap hf _ _ _ _ hdc =>
    rw [hs]
    simp only [agd]
    unfold astep
    rw [hop]
    simp only
    have h1 : aeval env' f = .fn (.func g) cap := by rw [← hf]; exact hx f (by rw [hop]; simp [Op.operands, Call.operands])
    have h2 : as.toList.map (aeval env') = as.toList.map (aeval env) := List.map_congr_left fun x hm => hx x (by rw [hop]; simp [Op.operands, Call.operands]; right; simpa using hm)
    rw [h1, h2]
    exact hdc.run H' hl hb
  | off hs => rw [hs]; exact ⟨rfl, fun b h => absurd h (by simp), fun _ _ => rfl⟩

end

theorem unl_set : ∀ (l : List Bool) (i : Nat), l[i]? = some false → (l.set i true).count false + 1 = l.count false
  | [], i, h => by simp at h
  | b :: l, 0, h => by
    simp only [List.getElem?_cons_zero, Option.some.injEq] at h
    subst h
    simp
  | b :: l, i + 1, h => by
    have := unl_set l i (by simpa using h)
    simp only [List.set_cons_succ, List.count_cons]
    omega

theorem tmpsOk_spec {ops : List Oper} (h : tmpsOk ops = true) : edgesOk ops 0 = true ∧ ∀ (i j : Nat) (x y : Oper), i < j → ops[i]? = some x → ops[j]? = some y → ¬ Bit ops j i → Oper.apart ops.toArray x y = true := by
  simp only [tmpsOk, Bool.and_eq_true, List.all_eq_true, List.mem_range, Bool.or_eq_true] at h
  refine ⟨h.1, fun i j x y hij hx hy hb => ?_⟩
  rcases h.2 j (List.getElem?_eq_some_iff.1 hy).1 i hij with h1 | h1
  · exact absurd h1 hb
  · rw [hx, hy] at h1; exact h1

theorem offEach_spec {l m : List Nat} (h : offEach l m = true) : ∀ b, b ∈ l → b ∉ m := fun b hb hm => by
  simp only [offEach, List.all_eq_true, Bool.not_eq_true', List.contains_eq_mem, decide_eq_false_iff_not] at h
  exact h b hb hm

theorem heapOk_spec {ops : List Oper} {T : Nat → WR} (h : heapOk ops ((List.range ops.length).map T) = true) : ∀ (i j : Nat), i < j → j < ops.length → ¬ Bit ops j i →
    (∀ b, b ∈ (T i).2 → b ∉ (T j).1 ∧ b ∉ (T j).2) ∧ ∀ b, b ∈ (T j).2 → b ∉ (T i).1 := by
  simp only [heapOk, List.all_eq_true, List.mem_range, Bool.or_eq_true] at h
  intro i j hij hj hb
  rcases h j hj i hij with h1 | h1
  · exact absurd h1 hb
  · simp only [List.getElem?_map, List.getElem?_range hj, List.getElem?_range (Nat.lt_trans hij hj), Option.map_some, Bool.and_eq_true] at h1
    exact ⟨fun b hb => ⟨offEach_spec h1.1.1 b hb, offEach_spec h1.1.2 b hb⟩, fun b hb => offEach_spec h1.2 b hb⟩

section
variable {P : Program} {τ : Ty} {n : Nat} {w0 : World} {S0 : Nat → Prop} {β0 : Bmap} {H0 : AHeap}

theorem Stt.same {env env' : Env} {H : AHeap} {a : Act} {w : World} {S : Nat → Prop} {β : Bmap} (h : Stt n w0 S0 β0 H0 env H a w S β) (he : ∀ t, get env' t = get env t) : Stt n w0 S0 β0 H0 env' H a w S β :=
  ⟨h.defers, h.size, fun t => by rw [he t]; exact h.env t, h.inv, h.evo⟩

theorem any_sound (hT : TyOk P τ) {ops : Array Oper} {Q : Exit → Act → World → Prop} (hok : ops.toList.all (okOper n) = true) (ht : tmpsOk ops.toList = true) {s0 : Nat} {E : Nat → Env} {G : Nat → AHeap} {V : Nat → D} {T : Nat → WR}
    (hrec : ∀ i o, ops.toList[i]? = some o → E (i + 1) = put (E i) o.dst (V i) ∧ Rec P τ ops.toList o (slotAt τ ops.toList s0 i) (E i) (G i) (V i) (T i).1 (T i).2 (G (i + 1)))
    (hh : heapOk ops.toList ((List.range ops.toList.length).map T) = true) (hQ : ∀ a w, Lift n w0 S0 β0 H0 (fun env H => env = E ops.size ∧ H = G ops.size) a w → Q .normal a w) :
    ∀ (fuel : Nat) (listed : Array Bool) (a : Act) (w : World) (env : Env) (H : AHeap) (S : Nat → Prop) (β : Bmap), listed.size = ops.size → listed.toList.count false = fuel → Down ops.toList (fun i => listed.getD i false = true) →
      Stt n w0 S0 β0 H0 env H a w S β → (∀ t, get env t = cur (fun i t => ∃ o, ops.toList[i]? = some o ∧ o.dst = some t) (fun k t => get (E k) t) (fun i => listed.getD i false = true) t ops.size) →
      H.length = (G 0).length → (∀ b, H[b]? = cur (fun i b => i < ops.size ∧ b ∈ (T i).2) (fun k (b : Nat) => (G k)[b]?) (fun i => listed.getD i false = true) b ops.size) →
      wpAny P .any ops Q fuel listed a w := by
  obtain ⟨hE, hap⟩ := tmpsOk_spec ht
  have hhp := heapOk_spec hh
  have hvT : ∀ k t, k < ops.size → ¬ (∃ o, ops.toList[k]? = some o ∧ o.dst = some t) → get (E (k + 1)) t = get (E k) t := fun k t hk hn => by
    have hko : ops.toList[k]? = some ops[k] := by simp [hk]
    rw [(hrec k _ hko).1]
    cases hd : ops[k].dst with
    | none => rfl
    | some u =>
      simp only [put, get]
      have : u ≠ t := fun e => hn ⟨_, hko, by rw [hd, e]⟩
      have : (u == t) = false := by simp [this]
      rw [this]; rfl
  have hvH : ∀ k (b : Nat), k < ops.size → ¬ (k < ops.size ∧ b ∈ (T k).2) → (G (k + 1))[b]? = (G k)[b]? := fun k b hk hn => by
    have hko : ops.toList[k]? = some ops[k] := by simp [hk]
    exact (hrec k _ hko).2.frame.2 b fun hb => hn ⟨hk, hb⟩
  have hlen : ∀ k, k ≤ ops.size → (G k).length = (G 0).length := by
    intro k
    induction k with
    | zero => intro _; rfl
    | succ k ih =>
      intro hk
      have hko : ops.toList[k]? = some ops[k] := by simp [show k < ops.size by omega]
      rw [(hrec k _ hko).2.frame.1]; exact ih (by omega)
  have readyNil : ∀ (listed : Array Bool), listed.size = ops.size → Region.ready .any ops listed = [] → ∀ i, i < ops.size → listed.getD i false = true := by
    intro listed hs hr i
    induction i using Nat.strongRecOn with
    | ind i ih =>
      intro hi
      have hio : ops[i]? = some ops[i] := by simp [hi]
      have hil : listed.getD i true = listed.getD i false := by simp [hs, hi]
      by_cases hc : listed.getD i false = true
      · exact hc
      · exfalso
        have : i ∈ Region.ready .any ops listed := by
          unfold Region.ready
          rw [List.mem_filter]
          refine ⟨List.mem_range.2 hi, ?_⟩
          rw [hil, hio]
          simp only [Bool.not_eq_true] at hc
          simp only [hc, Bool.not_false, Bool.true_and, Option.map_some, Option.getD_some, Array.all_eq_true_iff_forall_mem, Bool.or_eq_true, Bool.not_eq_true']
          intro e he
          by_cases hb : Region.binds .any e = true
          · right
            have := edgesOk_spec _ 0 hE i ops[i] (by simpa using hio) e (by simpa using he) hb
            exact ih e.on (by omega) (by omega)
          · left; simpa using hb
        rw [hr] at this; cases this
  have done : ∀ (listed : Array Bool) (a : Act) (w : World) (env : Env) (H : AHeap) (S : Nat → Prop) (β : Bmap), listed.size = ops.size → Stt n w0 S0 β0 H0 env H a w S β →
      (∀ t, get env t = cur (fun i t => ∃ o, ops.toList[i]? = some o ∧ o.dst = some t) (fun k t => get (E k) t) (fun i => listed.getD i false = true) t ops.size) →
      (∀ b, H[b]? = cur (fun i b => i < ops.size ∧ b ∈ (T i).2) (fun k (b : Nat) => (G k)[b]?) (fun i => listed.getD i false = true) b ops.size) → Region.ready .any ops listed = [] → Q .normal a w := by
    intro listed a w env H S β hs hst hgt hgh hr
    have hall := readyNil listed hs hr
    have hH : H = G ops.size := List.ext_getElem? fun b => by
      rw [hgh b, cur_all (fun k x hk hn => hvH k x hk hn) ops.size (Nat.le_refl _) fun j hj => .inl (hall j hj)]
    refine hQ a w ⟨E ops.size, G ops.size, S, β, ?_, rfl, rfl⟩
    rw [← hH]
    exact hst.same fun t => by rw [hgt t, cur_all (fun k x hk hn => hvT k x hk hn) ops.size (Nat.le_refl _) fun j hj => .inl (hall j hj)]
  intro fuel
  induction fuel with
  | zero =>
    intro listed a w env H S β hs hcount _ hst hgt _ hgh
    have hr : Region.ready .any ops listed = [] := by
      unfold Region.ready
      rw [List.filter_eq_nil_iff]
      intro i hi
      have hlt : i < listed.size := by rw [hs]; exact List.mem_range.1 hi
      have : listed[i] = true := by
        cases hb : listed[i] with
        | true => rfl
        | false =>
          have : false ∈ listed.toList := by rw [← hb]; simp
          exact absurd (List.count_pos_iff.2 this) (by omega)
      simp [hlt, this]
    exact ⟨hr, done listed a w env H S β hs hst hgt hgh hr⟩
  | succ fuel ih =>
    intro listed a w env H S β hs hcount hdown hst hgt hlH hgh
    refine ⟨done listed a w env H S β hs hst hgt hgh, fun i hi => ?_⟩
    unfold Region.ready at hi
    rw [List.mem_filter] at hi
    obtain ⟨hi1, hi2⟩ := hi
    have hin : i < ops.size := List.mem_range.1 hi1
    have hio : ops[i]? = some ops[i] := by simp [hin]
    have hioL : ops.toList[i]? = some ops[i] := by simp [hin]
    rw [hio] at hi2
    simp only [Option.map_some, Option.getD_some, Bool.and_eq_true, Bool.not_eq_true', Array.all_eq_true_iff_forall_mem, Bool.or_eq_true] at hi2
    obtain ⟨hni, hedge⟩ := hi2
    have hil : listed.getD i true = listed.getD i false := by simp [hs, hin]
    rw [hil] at hni
    generalize ho : ops[i] = o at *
    have hedges : ∀ e, e ∈ o.after.toList → Region.binds .any e = true → listed.getD e.on false = true := fun e he hb => by
      rcases hedge e (by simpa using he) with h | h
      · rw [hb] at h; cases h
      · exact h
    obtain ⟨hput, hr⟩ := hrec i o hioL
    have hLi : ¬ (listed.getD i false = true) := by rw [hni]; simp
    -- what is ahead of i and is not listed does not touch what i touches
    have aheadT : ∀ j, j < i → ¬ (listed.getD j false = true) → ∀ oj, ops.toList[j]? = some oj → Oper.apart ops.toList.toArray oj o = true := fun j hj hl oj hoj =>
      hap j i oj o hj hoj hioL fun hb => hl (bit_ready hE hdown hioL hedges hb)
    have behindT : ∀ j, i < j → listed.getD j false = true → ∀ oj, ops.toList[j]? = some oj → Oper.apart ops.toList.toArray o oj = true := fun j hj hl oj hoj =>
      hap i j o oj hj hioL hoj fun hb => hLi (bit_down hE hdown j i hl hb)
    have aheadH : ∀ j, j < i → ¬ (listed.getD j false = true) → ∀ b, b ∈ (T j).2 → b ∉ (T i).1 ∧ b ∉ (T i).2 := fun j hj hl =>
      (hhp j i hj (by simpa using hin) fun hb => hl (bit_ready hE hdown hioL hedges hb)).1
    have behindH : ∀ j, i < j → j < ops.size → listed.getD j false = true → (∀ b, b ∈ (T i).2 → b ∉ (T j).2) ∧ ∀ b, b ∈ (T j).2 → b ∉ (T i).1 := fun j hj hjn hl => by
      have := hhp i j hj (by simpa using hjn) fun hb => hLi (bit_down hE hdown j i hl hb)
      exact ⟨fun b hb => (this.1 b hb).2, this.2⟩
    have seeT : ∀ t, t ∈ Oper.looksAt ops.toList.toArray o → get env t = get (E i) t := fun t htl => by
      rw [hgt t]
      refine cur_read (fun k x hk hn => hvT k x hk hn) (Nat.le_of_lt hin) (fun j hj => ?_) (fun j hj => ?_)
      · by_cases hl : listed.getD j false = true
        · exact .inl hl
        · refine .inr ?_
          rintro ⟨oj, hoj, hd⟩
          exact (Oper.apart_spec (aheadT j hj hl oj hoj)).1 t hd htl
      · rintro ⟨hl, oj, hoj, hd⟩
        rcases Nat.lt_or_eq_of_le hj with hj | rfl
        · exact (Oper.apart_spec (behindT j hj hl oj hoj)).2.2 t hd htl
        · exact hLi hl
    have seeH : ∀ b, b ∈ (T i).1 ∨ b ∈ (T i).2 → H[b]? = (G i)[b]? := fun b hb => by
      rw [hgh b]
      refine cur_read (v := fun k (b : Nat) => (G k)[b]?) (fun k x hk hn => hvH k x hk hn) (Nat.le_of_lt hin) (fun j hj => ?_) (fun j hj => ?_)
      · by_cases hl : listed.getD j false = true
        · exact .inl hl
        · refine .inr ?_
          rintro ⟨_, hw⟩
          have := aheadH j hj hl b hw
          rcases hb with hb | hb
          · exact this.1 hb
          · exact this.2 hb
      · rintro ⟨hl, hjn, hw⟩
        rcases Nat.lt_or_eq_of_le hj with hj | rfl
        · have := behindH j hj hjn hl
          rcases hb with hb | hb
          · exact this.2 b hw hb
          · exact this.1 b hb hw
        · exact hLi hl
    have hgo := hr.go seeT (hlH.trans (hlen i (Nat.le_of_lt hin)).symm) seeH
    -- the listed ones, with i
    have hget : ∀ j, (listed.setIfInBounds i true).getD j false = true ↔ (listed.getD j false = true ∨ j = i) := fun j => by
      by_cases e : j = i
      · subst e; simp [hs, hin]
      · have e' : i ≠ j := fun h => e h.symm
        simp only [Array.getD_eq_getD_getElem?, Array.getElem?_setIfInBounds_ne e', e, or_false]
    have hcount' : (listed.setIfInBounds i true).toList.count false = fuel := by
      have h1 : listed.toList[i]? = some false := by
        have : listed.getD i false = false := by simpa using hLi
        simp only [Array.getElem?_toList]
        rw [Array.getD_eq_getD_getElem?] at this
        rw [Array.getElem?_eq_getElem (by omega)] at this ⊢
        simpa using this
      have := unl_set listed.toList i h1
      simp only [Array.toList_setIfInBounds]
      omega
    have hdown' : Down ops.toList (fun j => (listed.setIfInBounds i true).getD j false = true) := fun j oj hoj hl e he hb => by
      simp only [hget] at hl ⊢
      rcases hl with hl | rfl
      · exact .inl (hdown j oj hoj hl e he hb)
      · rw [hioL] at hoj; cases hoj
        exact .inl (hedges e he hb)
    have next : ∀ (d : D) (H' : AHeap) (a' : Act) (w' : World) (S' : Nat → Prop) (β' : Bmap), Stt n w0 S0 β0 H0 (put env o.dst d) H' a' w' S' β' → d = V i → H'.length = H.length → (∀ b, b ∈ (T i).2 → H'[b]? = (G (i + 1))[b]?) → (∀ b, b ∉ (T i).2 → H'[b]? = H[b]?) →
        wpAny P .any ops Q fuel (listed.setIfInBounds i true) a' w' := by
      intro d H' a' w' S' β' hst' hd hl' hw' hk'
      subst hd
      refine ih (listed.setIfInBounds i true) a' w' _ H' S' β' (by simp [hs]) hcount' hdown' hst' (fun t => ?_) (hl'.trans hlH) (fun b => ?_)
      · by_cases hdt : o.dst = some t
        · rw [cur_write hin ((hget i).2 (.inr rfl)) ⟨o, hioL, hdt⟩ fun j hj => ?_]
          · rw [hput, hdt]; simp [put, get]
          · rintro ⟨hl, oj, hoj, hd⟩
            have hl : listed.getD j false = true := ((hget j).1 hl).resolve_right (by omega)
            exact (Oper.apart_spec (behindT j hj hl oj hoj)).2.1 t hdt hd
        · rw [cur_congr (fun k hk => ?_), ← hgt t]
          · cases hd : o.dst with
            | none => rfl
            | some u =>
              have : (u == t) = false := beq_false_of_ne fun e => hdt (by rw [hd, e])
              simp only [put, get, this, cond_false]
          · rw [hget]
            refine ⟨fun h => h.resolve_right ?_, .inl⟩
            rintro rfl
            obtain ⟨ok, hok, hd⟩ := hk
            rw [hioL] at hok; cases hok
            exact hdt hd
      · by_cases hb : b ∈ (T i).2
        · rw [hw' b hb, cur_write (v := fun k (b : Nat) => (G k)[b]?) hin ((hget i).2 (.inr rfl)) ⟨hin, hb⟩ fun j hj => ?_]
          rintro ⟨hl, hjn, hw⟩
          have hl : listed.getD j false = true := ((hget j).1 hl).resolve_right (by omega)
          exact (behindH j hj hjn hl).1 b hb hw
        · rw [hk' b hb, cur_congr (fun k hk => ?_), ← hgh b]
          rw [hget]
          refine ⟨fun h => h.resolve_right ?_, .inl⟩
          rintro rfl
          exact hb hk.2
    have hoj : okOper n o = true := List.all_eq_true.1 hok o (by have := Array.mem_of_getElem? hio; simpa using this)
    refine op_sound hT hio hoj hst hgo (fun d' H'' a' w' S' β' h' hg => next d' H'' a' w' S' β' h' hg.1 hg.2.1 hg.2.2.1 hg.2.2.2) (fun a' h' hg => next (.tup []) H a' w S β h' hg.1 rfl hg.2.1 hg.2.2)

theorem adraw_sound (hT : TyOk P τ) (hm : P.follows .mixedOrders = true) {env : Env} {H : AHeap} {a : Act} {w : World} {S : Nat → Prop} {β : Bmap} {K : Env → AHeap → Prop} {id : Nat} {ops : Array Oper} {Q : Exit → Act → World → Prop}
    (hok : ops.toList.all (okOper n) = true) (hst : Stt n w0 S0 β0 H0 env H a w S β) (h : adraw P τ id ops.toList K env H) (hQ : ∀ a w, Lift n w0 S0 β0 H0 K a w → Q .normal a w) : (Code.region id ops true).wp P Q a w := by
  obtain ⟨ht, x, hrun⟩ := h
  obtain ⟨E, G, V, T, h1, h2, h3, h4, h5⟩ := trun_trace _ _ _ _ _ hrun
  obtain ⟨k1, k2⟩ := hst.inv.pad (countAllocs τ ops.toList + x)
  have hst' := (hst.step k1 k2).drew
  have hge : ∀ i, (Array.replicate ops.size false).getD i false = false := fun i => by
    simp only [Array.getD_eq_getD_getElem?, Array.getElem?_replicate]
    split <;> rfl
  refine wp_region_any hm ?_
  refine any_sound hT hok ht (s0 := H.length) (E := E) (G := G) (V := V) (T := T) h3 (by simp only [List.reverse_nil, List.nil_append] at h4; exact h4) (fun a w hl => hQ a w ?_) ops.size (Array.replicate ops.size false) a _ env (pad H (countAllocs τ ops.toList + x)) S _ (by simp) (by simp) ?_ hst' (fun t => ?_) (by rw [h2]) (fun b => ?_)
  · obtain ⟨env', H', S', β', hs', he, hH⟩ := hl
    subst he; subst hH
    exact ⟨_, _, S', β', hs', by simpa using h5⟩
  · intro j o hj hl
    rw [hge] at hl; cases hl
  · rw [cur_stop 0 ops.size (Nat.zero_le _) fun j _ _ => by rw [hge]; simp]
    simp only [cur, h1]
  · rw [cur_stop 0 ops.size (Nat.zero_le _) fun j _ _ => by rw [hge]; simp]
    simp only [cur, h2]

theorem wokD (hT : TyOk P τ) (hm : P.follows .mixedOrders = true) {H : AHeap} : WOk P τ n H (Fits H.length) (adraw P τ) :=
  ⟨fun hI hs hf => fits_sound hf hs hI, fun hok hs hd hQ => adraw_sound hT hm hok hs hd hQ⟩

end
end Go.Proofs.Ytbabdalfkmdlhaa
