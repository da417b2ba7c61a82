/- The walk with its continuation as data, for simp: what is left of the code is a list, so simp never looks into what has not been reached. Of no program. -/
import Derived.Test.YtbabdalfkmdlhaaA16
namespace Go.Proofs.Ytbabdalfkmdlhaa
set_option linter.all false

inductive It where
  | code (c : Code)
  | endb (id : Nat)

abbrev Fit := Env → AHeap → Env → AHeap → Prop
abbrev Drw := Nat → List Oper → (Env → AHeap → Prop) → Env → AHeap → Prop
abbrev AQ := Exit → Env → AHeap → Prop

section
variable (P : Program) (τ : Ty) (f : Fit) (d : Drw)

def contQ : List It → AQ → AQ
  | [], Q => Q
  | .code y :: k, Q => fun e env H => aseq e (awp P τ f d y (contQ k Q) env H) (contQ k Q e env H)
  | .endb id :: k, Q => ablock id (contQ k Q)

/-- The code 'c', and 'k' behind it. -/
def aw (c : Code) (k : List It) (Q : AQ) (env : Env) (H : AHeap) : Prop := awp P τ f d c (contQ P τ f d k Q) env H

def goN (k : List It) (Q : AQ) (env : Env) (H : AHeap) : Prop := contQ P τ f d k Q .normal env H
def goE (id : Nat) (k : List It) (Q : AQ) (env : Env) (H : AHeap) : Prop := contQ P τ f d k Q (.exit id) env H

/-- A loop that has been reached. -/
def aloopS (c : Code) (k : List It) (Q : AQ) (env : Env) (H : AHeap) : Prop := aloop (awp P τ f d c) f (contQ P τ f d k Q) env H

/-- A branch that has been reached. -/
def acondS (c : D) (x y : Code) (k : List It) (Q : AQ) (env : Env) (H : AHeap) : Prop := acond c (awp P τ f d x (contQ P τ f d k Q) env H) (awp P τ f d y (contQ P τ f d k Q) env H)

/-- Operations in a row, and 'k' behind them. -/
def ar (all : List Oper) (k : List It) (Q : AQ) (l : List Oper) (s : Nat) (env : Env) (H : AHeap) : Prop := arun P τ all (goN P τ f d k Q) l s env H

/-- A call that has been reached. -/
def acallS (all : List Oper) (k : List It) (Q : AQ) (rest : List Oper) (s : Nat) (env : Env) (dst : Option Tmp) (g : FuncId) (args : List D) (H : AHeap) : Prop :=
  ACalls P g args H fun r H' => ar P τ f d all k Q rest s (put env dst r) H'

/-- A region whose order is open that has been reached. -/
def adrawS (id : Nat) (ops : List Oper) (k : List It) (Q : AQ) (env : Env) (H : AHeap) : Prop := d id ops (goN P τ f d k Q) env H

theorem aw_start (c : Code) (Q : AQ) (env : Env) (H : AHeap) (h : aw P τ f d c [] Q env H) : awp P τ f d c Q env H := h

variable (k : List It) (Q : AQ) (env : Env) (H : AHeap)

theorem aw_skip : aw P τ f d .skip k Q env H = goN P τ f d k Q env H := Eq.trans rfl rfl
theorem aw_label (l : Nat) : aw P τ f d (.label l) k Q env H = goN P τ f d k Q env H := Eq.trans rfl rfl
theorem aw_scope (c : Code) : aw P τ f d (.scope c) k Q env H = aw P τ f d c k Q env H := Eq.trans rfl rfl
theorem aw_seq (x y : Code) : aw P τ f d (.seq x y) k Q env H = aw P τ f d x (.code y :: k) Q env H := Eq.trans rfl rfl
theorem aw_block (id : Nat) (c : Code) : aw P τ f d (.block id c) k Q env H = aw P τ f d c (.endb id :: k) Q env H := Eq.trans rfl rfl
theorem aw_cond (c : Operand) (x y : Code) : aw P τ f d (.cond c x y) k Q env H = acondS P τ f d (aeval env c) x y k Q env H := Eq.trans rfl rfl
theorem aw_loop (c : Code) : aw P τ f d (.loop c) k Q env H = aloopS P τ f d c k Q env H := Eq.trans rfl rfl
theorem aw_region (id : Nat) (ops : List Oper) : aw P τ f d (.region id ops.toArray false) k Q env H = ar P τ f d ops k Q ops H.length env (pad H (countAllocs τ ops)) := Eq.trans rfl rfl
theorem aw_draw (id : Nat) (ops : List Oper) : aw P τ f d (.region id ops.toArray true) k Q env H = adrawS P τ f d id ops k Q env H := Eq.trans rfl rfl
theorem aw_exit (id : Nat) : aw P τ f d (.exit id) k Q env H = goE P τ f d id k Q env H := Eq.trans rfl rfl
theorem contQ_ret : contQ P τ f d k Q .ret env H = Q .ret env H := by
  induction k with
  | nil => rfl
  | cons x k ih => cases x <;> exact ih
theorem aw_ret : aw P τ f d .ret k Q env H = Q .ret env H := contQ_ret P τ f d k Q env H
theorem goN_nil : goN P τ f d [] Q env H = Q .normal env H := Eq.trans rfl rfl
theorem goN_code (y : Code) : goN P τ f d (.code y :: k) Q env H = aw P τ f d y k Q env H := Eq.trans rfl rfl
theorem goN_endb (id : Nat) : goN P τ f d (.endb id :: k) Q env H = goN P τ f d k Q env H := Eq.trans rfl rfl
theorem goE_nil (id : Nat) : goE P τ f d id [] Q env H = Q (.exit id) env H := Eq.trans rfl rfl
theorem goE_code (id : Nat) (y : Code) : goE P τ f d id (.code y :: k) Q env H = goE P τ f d id k Q env H := Eq.trans rfl rfl
theorem goE_endb (id id' : Nat) : goE P τ f d id (.endb id' :: k) Q env H = if id = id' then goN P τ f d k Q env H else goE P τ f d id k Q env H := Eq.trans rfl rfl

variable (all : List Oper) (s : Nat)

theorem ar_nil : ar P τ f d all k Q [] s env H = goN P τ f d k Q env H := Eq.trans rfl rfl

/-- One operation, its guard being open. -/
def ao (all : List Oper) (k : List It) (Q : AQ) (o : Oper) (rest : List Oper) (s : Nat) (env : Env) (H : AHeap) : Prop :=
  astep P τ o s env H fun r H' => ar P τ f d all k Q rest (nexts τ o s) (put env o.dst r) H'

/-- One operation behind a guard, the guard's value being 'y'. -/
def ag (all : List Oper) (k : List It) (Q : AQ) (o : Oper) (rest : List Oper) (s : Nat) (env : Env) (H : AHeap) (y : D) (want : Bool) : Prop :=
  agd (match y with | .bool b => some (b == want) | .tup _ => some false | _ => none) (ao P τ f d all k Q o rest s env H) (ar P τ f d all k Q rest (nexts τ o s) (put env o.dst (.tup [])) H)

theorem ar_none (rest : List Oper) (dst : Option Tmp) (op : Op) (t : TypeId) (pos : String) (aft : Array Edge) :
    ar P τ f d all k Q (⟨dst, op, t, pos, aft, none⟩ :: rest) s env H = ao P τ f d all k Q ⟨dst, op, t, pos, aft, none⟩ rest s env H := Eq.trans rfl rfl
theorem ar_some (rest : List Oper) (dst : Option Tmp) (op : Op) (t : TypeId) (pos : String) (aft : Array Edge) (j : Nat) (want : Bool) :
    ar P τ f d all k Q (⟨dst, op, t, pos, aft, some (j, want)⟩ :: rest) s env H = ag P τ f d all k Q ⟨dst, op, t, pos, aft, some (j, want)⟩ rest s env H (ayield all env j) want := Eq.trans rfl rfl
theorem ag_tt (o : Oper) (rest : List Oper) : ag P τ f d all k Q o rest s env H (.bool true) true = ao P τ f d all k Q o rest s env H := Eq.trans rfl rfl
theorem ag_ff (o : Oper) (rest : List Oper) : ag P τ f d all k Q o rest s env H (.bool false) false = ao P τ f d all k Q o rest s env H := Eq.trans rfl rfl
theorem ag_tf (o : Oper) (rest : List Oper) : ag P τ f d all k Q o rest s env H (.bool true) false = ar P τ f d all k Q rest (nexts τ o s) (put env o.dst (.tup [])) H := Eq.trans rfl rfl
theorem ag_u (o : Oper) (rest : List Oper) (l : List D) (want : Bool) : ag P τ f d all k Q o rest s env H (.tup l) want = ar P τ f d all k Q rest (nexts τ o s) (put env o.dst (.tup [])) H := Eq.trans rfl rfl
theorem ag_ft (o : Oper) (rest : List Oper) : ag P τ f d all k Q o rest s env H (.bool false) true = ar P τ f d all k Q rest (nexts τ o s) (put env o.dst (.tup [])) H := Eq.trans rfl rfl

/-- What an operation comes to, handed on. -/
def an (all : List Oper) (k : List It) (Q : AQ) (rest : List Oper) (s : Nat) (env : Env) (dst : Option Tmp) (r : R) : Prop :=
  r.ob ∧ ar P τ f d all k Q rest s (put env dst r.d) r.H

theorem an_true (rest : List Oper) (dst : Option Tmp) (x : D) (H' : AHeap) : an P τ f d all k Q rest s env dst ⟨True, x, H'⟩ = ar P τ f d all k Q rest s (put env dst x) H' := by simp [an]
theorem an_mk (rest : List Oper) (dst : Option Tmp) (ob : Prop) (x : D) (H' : AHeap) : an P τ f d all k Q rest s env dst ⟨ob, x, H'⟩ = (ob ∧ ar P τ f d all k Q rest s (put env dst x) H') := Eq.trans rfl rfl

/-- A call, its function being known. -/
def ac (all : List Oper) (k : List It) (Q : AQ) (rest : List Oper) (s : Nat) (env : Env) (dst : Option Tmp) (fn : D) (args : List D) (H : AHeap) : Prop :=
  acall P fn args H fun r H' => ar P τ f d all k Q rest s (put env dst r) H'

theorem ac_fn (rest : List Oper) (dst : Option Tmp) (g : FuncId) (cap as : List D) : ac P τ f d all k Q rest s env dst (.fn (.func g) cap) as H = acallS P τ f d all k Q rest s env dst g (as ++ cap) H := Eq.trans rfl rfl

theorem ao_call (rest : List Oper) (dst : Option Tmp) (t : TypeId) (pos : String) (aft : Array Edge) (gu : Option (Nat × Bool)) (fn : Operand) (as : List Operand) (ts : Array TypeId) :
    ao P τ f d all k Q ⟨dst, .call ⟨.value fn, as.toArray, ts⟩, t, pos, aft, gu⟩ rest s env H = ac P τ f d all k Q rest s env dst (aeval env fn) (as.map (aeval env)) H := Eq.trans rfl rfl

/-- Is it a call of a function? -/
def opIsCall : Op → Bool
  | .call { callee := .value _, .. } => true
  | _ => false

theorem ao_op (rest : List Oper) (o : Oper) (h : opIsCall o.op = false) : ao P τ f d all k Q o rest s env H = ((allocs τ o.op = true → isVoid H s = true) ∧ an P τ f d all k Q rest (nexts τ o s) env o.dst (aop τ (aeval env) s H o.op)) := by
  unfold ao astep
  split
  · rename_i heq; rw [heq] at h; simp [opIsCall] at h
  · rfl

end

section
variable {P : Program} {τ : Ty} {f : Fit} {d : Drw} {all : List Oper} {k : List It} {Q : AQ} {rest : List Oper} {s : Nat} {env : Env} {dst : Option Tmp} {g : FuncId} {args : List D} {H : AHeap}

/-- A call of a function of data. -/
theorem callP {x : D} (hF : PureF P g args x) (hn : args.all D.noIds = true) (h : ar P τ f d all k Q rest s (put env dst x) H) : acallS P τ f d all k Q rest s env dst g args H := pcall hF hn h

theorem callA {K : D → AHeap → Prop} (hF : ACalls P g args H K) (h : ∀ r H', K r H' → ar P τ f d all k Q rest s (put env dst r) H') : acallS P τ f d all k Q rest s env dst g args H := hF.mono h

/-- What is asked at a round's end. -/
def loopQ (f : Fit) {ι : Type} (E : ι → Env) (G : ι → AHeap) (I : ι → Prop) (μ : ι → Nat) (i : ι) (QK : AQ) (e : Exit) (env : Env) (H : AHeap) : Prop :=
  match e with
  | .normal => ∃ j, I j ∧ μ j < μ i ∧ f env H (E j) (G j)
  | e => QK e env H

theorem loopQ_normal {ι : Type} (E : ι → Env) (G : ι → AHeap) (I : ι → Prop) (μ : ι → Nat) (i : ι) (QK : AQ) : loopQ f E G I μ i QK .normal env H = ∃ j, I j ∧ μ j < μ i ∧ f env H (E j) (G j) := Eq.trans rfl rfl
theorem loopQ_exit {ι : Type} (E : ι → Env) (G : ι → AHeap) (I : ι → Prop) (μ : ι → Nat) (i : ι) (id : Nat) : loopQ f E G I μ i (contQ P τ f d k Q) (.exit id) env H = goE P τ f d id k Q env H := Eq.trans rfl rfl
theorem loopQ_ret {ι : Type} (E : ι → Env) (G : ι → AHeap) (I : ι → Prop) (μ : ι → Nat) (i : ι) : loopQ f E G I μ i (contQ P τ f d k Q) .ret env H = Q .ret env H := contQ_ret P τ f d k Q env H

/-- The loop's rule: what is told at each round's head, by an index; a number that falls. -/
theorem loopR {c : Code} {ι : Type} (E : ι → Env) (G : ι → AHeap) (I : ι → Prop) (μ : ι → Nat) (i : ι) (hi : I i) (hf : f env H (E i) (G i))
    (round : ∀ i, I i → aw P τ f d c [] (loopQ f E G I μ i (contQ P τ f d k Q)) (E i) (G i)) : aloopS P τ f d c k Q env H :=
  ⟨ι, E, G, I, μ, i, hi, hf, round⟩

end
end Go.Proofs.Ytbabdalfkmdlhaa
