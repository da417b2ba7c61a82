/- The walk with its continuation as data, for simp: what is left of the code is a list, so simp never looks into what has not been reached. Of no program. -/
import Derived.Test.YtlkffgmejcgdbaaDoorL2
import Derived.IntWalk
import Derived.Orders
namespace Go.Proofs.YtlkffgmejcgdbaaDoor
set_option linter.all false

inductive It where
  | code (c : Code)
  | endb (id : Nat)

abbrev Fit := Env → AHeap → Env → AHeap → Prop
abbrev Drw := Nat → List Oper → (Env → AHeap → Prop) → Env → AHeap → Prop
abbrev AQ := Exit → Env → AHeap → Prop

section
variable (P : Program) (τ : Ty) (f : Fit) (d : Drw)

def contQ : List It → AQ → AQ
  | [], Q => Q
  | .code y :: k, Q => fun e env H => aseq e (awp P τ f d y (contQ k Q) env H) (contQ k Q e env H)
  | .endb id :: k, Q => ablock id (contQ k Q)

/-- The code 'c', and 'k' behind it. -/
def aw (c : Code) (k : List It) (Q : AQ) (env : Env) (H : AHeap) : Prop := awp P τ f d c (contQ P τ f d k Q) env H

def goN (k : List It) (Q : AQ) (env : Env) (H : AHeap) : Prop := contQ P τ f d k Q .normal env H
def goE (id : Nat) (k : List It) (Q : AQ) (env : Env) (H : AHeap) : Prop := contQ P τ f d k Q (.exit id) env H

/-- A loop that has been reached. -/
def aloopS (c : Code) (k : List It) (Q : AQ) (env : Env) (H : AHeap) : Prop := aloop (awp P τ f d c) f (contQ P τ f d k Q) env H

/-- A branch that has been reached. -/
def acondS (c : D) (x y : Code) (k : List It) (Q : AQ) (env : Env) (H : AHeap) : Prop := acond c (awp P τ f d x (contQ P τ f d k Q) env H) (awp P τ f d y (contQ P τ f d k Q) env H)

/-- Operations in a row, and 'k' behind them. -/
def ar (all : List Oper) (k : List It) (Q : AQ) (l : List Oper) (s : Nat) (env : Env) (H : AHeap) : Prop := arun P τ all (goN P τ f d k Q) l s env H

/-- A call that has been reached. -/
def acallS (all : List Oper) (k : List It) (Q : AQ) (rest : List Oper) (s : Nat) (env : Env) (dst : Option Tmp) (g : FuncId) (args : List D) (H : AHeap) : Prop :=
  ACalls P g args H (fun r H' => ar P τ f d all k Q rest s (put env dst r) H') ∨ AExt P g args H (fun r H' => ar P τ f d all k Q rest s (put env dst r) H')

/-- A region whose order is open that has been reached. -/
def adrawS (id : Nat) (ops : List Oper) (k : List It) (Q : AQ) (env : Env) (H : AHeap) : Prop := d id ops (goN P τ f d k Q) env H

theorem aw_start (c : Code) (Q : AQ) (env : Env) (H : AHeap) (h : aw P τ f d c [] Q env H) : awp P τ f d c Q env H := h

variable (k : List It) (Q : AQ) (env : Env) (H : AHeap)

theorem aw_skip : aw P τ f d .skip k Q env H = goN P τ f d k Q env H := Eq.trans rfl rfl
theorem aw_label (l : Nat) : aw P τ f d (.label l) k Q env H = goN P τ f d k Q env H := Eq.trans rfl rfl
theorem aw_scope (c : Code) : aw P τ f d (.scope c) k Q env H = aw P τ f d c k Q env H := Eq.trans rfl rfl
theorem aw_seq (x y : Code) : aw P τ f d (.seq x y) k Q env H = aw P τ f d x (.code y :: k) Q env H := Eq.trans rfl rfl
theorem aw_block (id : Nat) (c : Code) : aw P τ f d (.block id c) k Q env H = aw P τ f d c (.endb id :: k) Q env H := Eq.trans rfl rfl
theorem aw_cond (c : Operand) (x y : Code) : aw P τ f d (.cond c x y) k Q env H = acondS P τ f d (aeval env c) x y k Q env H := Eq.trans rfl rfl
theorem aw_loop (c : Code) : aw P τ f d (.loop c) k Q env H = aloopS P τ f d c k Q env H := Eq.trans rfl rfl
theorem aw_region (id : Nat) (ops : List Oper) : aw P τ f d (.region id ops.toArray false) k Q env H = ar P τ f d ops k Q ops H.length env (pad H (countAllocs τ ops)) := Eq.trans rfl rfl
theorem aw_draw (id : Nat) (ops : List Oper) : aw P τ f d (.region id ops.toArray true) k Q env H = adrawS P τ f d id ops k Q env H := Eq.trans rfl rfl
theorem aw_exit (id : Nat) : aw P τ f d (.exit id) k Q env H = goE P τ f d id k Q env H := Eq.trans rfl rfl
theorem contQ_ret : contQ P τ f d k Q .ret env H = Q .ret env H := by
  induction k with
  | nil => rfl
  | cons x k ih => cases x <;> exact ih
theorem aw_ret : aw P τ f d .ret k Q env H = Q .ret env H := contQ_ret P τ f d k Q env H
theorem goN_nil : goN P τ f d [] Q env H = Q .normal env H := Eq.trans rfl rfl
theorem goN_code (y : Code) : goN P τ f d (.code y :: k) Q env H = aw P τ f d y k Q env H := Eq.trans rfl rfl
theorem goN_endb (id : Nat) : goN P τ f d (.endb id :: k) Q env H = goN P τ f d k Q env H := Eq.trans rfl rfl
theorem goE_nil (id : Nat) : goE P τ f d id [] Q env H = Q (.exit id) env H := Eq.trans rfl rfl
theorem goE_code (id : Nat) (y : Code) : goE P τ f d id (.code y :: k) Q env H = goE P τ f d id k Q env H := Eq.trans rfl rfl
theorem goE_endb (id id' : Nat) : goE P τ f d id (.endb id' :: k) Q env H = if id = id' then goN P τ f d k Q env H else goE P τ f d id k Q env H := Eq.trans rfl rfl

variable (all : List Oper) (s : Nat)

theorem ar_nil : ar P τ f d all k Q [] s env H = goN P τ f d k Q env H := Eq.trans rfl rfl

/-- One operation, its guard being open. -/
def ao (all : List Oper) (k : List It) (Q : AQ) (o : Oper) (rest : List Oper) (s : Nat) (env : Env) (H : AHeap) : Prop :=
  astep P τ o s env H fun r H' => ar P τ f d all k Q rest (nexts τ o s) (put env o.dst r) H'

/-- One operation behind a guard, the guard's value being 'y'. -/
def ag (all : List Oper) (k : List It) (Q : AQ) (o : Oper) (rest : List Oper) (s : Nat) (env : Env) (H : AHeap) (y : D) (want : Bool) : Prop :=
  agd (match y with | .bool b => some (b == want) | .tup _ => some false | _ => none) (ao P τ f d all k Q o rest s env H) (ar P τ f d all k Q rest (nexts τ o s) (put env o.dst (.tup [])) H)

theorem ar_none (rest : List Oper) (dst : Option Tmp) (op : Op) (t : TypeId) (pos : String) (aft : Array Edge) :
    ar P τ f d all k Q (⟨dst, op, t, pos, aft, none⟩ :: rest) s env H = ao P τ f d all k Q ⟨dst, op, t, pos, aft, none⟩ rest s env H := Eq.trans rfl rfl
theorem ar_some (rest : List Oper) (dst : Option Tmp) (op : Op) (t : TypeId) (pos : String) (aft : Array Edge) (j : Nat) (want : Bool) :
    ar P τ f d all k Q (⟨dst, op, t, pos, aft, some (j, want)⟩ :: rest) s env H = ag P τ f d all k Q ⟨dst, op, t, pos, aft, some (j, want)⟩ rest s env H (ayield all env j) want := Eq.trans rfl rfl
theorem ag_tt (o : Oper) (rest : List Oper) : ag P τ f d all k Q o rest s env H (.bool true) true = ao P τ f d all k Q o rest s env H := Eq.trans rfl rfl
theorem ag_ff (o : Oper) (rest : List Oper) : ag P τ f d all k Q o rest s env H (.bool false) false = ao P τ f d all k Q o rest s env H := Eq.trans rfl rfl
theorem ag_tf (o : Oper) (rest : List Oper) : ag P τ f d all k Q o rest s env H (.bool true) false = ar P τ f d all k Q rest (nexts τ o s) (put env o.dst (.tup [])) H := Eq.trans rfl rfl
theorem ag_u (o : Oper) (rest : List Oper) (l : List D) (want : Bool) : ag P τ f d all k Q o rest s env H (.tup l) want = ar P τ f d all k Q rest (nexts τ o s) (put env o.dst (.tup [])) H := Eq.trans rfl rfl
theorem ag_ft (o : Oper) (rest : List Oper) : ag P τ f d all k Q o rest s env H (.bool false) true = ar P τ f d all k Q rest (nexts τ o s) (put env o.dst (.tup [])) H := Eq.trans rfl rfl

/-- What an operation comes to, handed on. -/
def an (all : List Oper) (k : List It) (Q : AQ) (rest : List Oper) (s : Nat) (env : Env) (dst : Option Tmp) (r : R) : Prop :=
  r.ob ∧ ar P τ f d all k Q rest s (put env dst r.d) r.H

theorem an_true (rest : List Oper) (dst : Option Tmp) (x : D) (H' : AHeap) : an P τ f d all k Q rest s env dst ⟨True, x, H'⟩ = ar P τ f d all k Q rest s (put env dst x) H' := by simp [an]
theorem an_mk (rest : List Oper) (dst : Option Tmp) (ob : Prop) (x : D) (H' : AHeap) : an P τ f d all k Q rest s env dst ⟨ob, x, H'⟩ = (ob ∧ ar P τ f d all k Q rest s (put env dst x) H') := Eq.trans rfl rfl

/-- A call, its function being known. -/
def ac (all : List Oper) (k : List It) (Q : AQ) (rest : List Oper) (s : Nat) (env : Env) (dst : Option Tmp) (fn : D) (args : List D) (H : AHeap) : Prop :=
  acall P fn args H fun r H' => ar P τ f d all k Q rest s (put env dst r) H'

theorem ac_fn (rest : List Oper) (dst : Option Tmp) (g : FuncId) (cap as : List D) : ac P τ f d all k Q rest s env dst (.fn (.func g) cap) as H = acallS P τ f d all k Q rest s env dst g (as ++ cap) H := Eq.trans rfl rfl

theorem ao_call (rest : List Oper) (dst : Option Tmp) (t : TypeId) (pos : String) (aft : Array Edge) (gu : Option (Nat × Bool)) (fn : Operand) (as : List Operand) (ts : Array TypeId) :
    ao P τ f d all k Q ⟨dst, .call ⟨.value fn, as.toArray, ts⟩, t, pos, aft, gu⟩ rest s env H = ac P τ f d all k Q rest s env dst (aeval env fn) (as.map (aeval env)) H := Eq.trans rfl rfl

/-- Is it a call of a function? -/
def opIsCall : Op → Bool
  | .call { callee := .value _, .. } => true
  | _ => false

theorem ao_op (rest : List Oper) (o : Oper) (h : opIsCall o.op = false) : ao P τ f d all k Q o rest s env H = ((allocs τ o.op = true → isVoid H s = true) ∧ an P τ f d all k Q rest (nexts τ o s) env o.dst (aop τ (aeval env) s H o.op)) := by
  unfold ao astep
  split
  · rename_i heq; rw [heq] at h; simp [opIsCall] at h
  · rfl

end

section
variable {P : Program} {τ : Ty} {f : Fit} {d : Drw} {all : List Oper} {k : List It} {Q : AQ} {rest : List Oper} {s : Nat} {env : Env} {dst : Option Tmp} {g : FuncId} {args : List D} {H : AHeap}

/-- A call of a function of data. -/
theorem callP {x : D} (hF : PureF P g args x) (hn : args.all D.noIds = true) (h : ar P τ f d all k Q rest s (put env dst x) H) : acallS P τ f d all k Q rest s env dst g args H := .inl (pcall hF hn h)

theorem callA {K : D → AHeap → Prop} (hF : ACalls P g args H K) (h : ∀ r H', K r H' → ar P τ f d all k Q rest s (put env dst r) H') : acallS P τ f d all k Q rest s env dst g args H := .inl (hF.mono h)

/-- A call that the machine itself answers. -/
theorem callX {K : D → AHeap → Prop} (hF : AExt P g args H K) (h : ∀ r H', K r H' → ar P τ f d all k Q rest s (put env dst r) H') : acallS P τ f d all k Q rest s env dst g args H :=
  .inr fun w S β vs h1 h2 h3 => let ⟨v, w', d, H', S', β', k1, k2, k3, k4, k5⟩ := hF w S β vs h1 h2 h3; ⟨v, w', d, H', S', β', k1, k2, k3, k4, h _ _ k5⟩

/-- What is asked at a round's end. -/
def loopQ (f : Fit) {ι : Type} (E : ι → Env) (G : ι → AHeap) (I : ι → Prop) (μ : ι → Nat) (i : ι) (QK : AQ) (e : Exit) (env : Env) (H : AHeap) : Prop :=
  match e with
  | .normal => ∃ j, I j ∧ μ j < μ i ∧ f env H (E j) (G j)
  | e => QK e env H

theorem loopQ_normal {ι : Type} (E : ι → Env) (G : ι → AHeap) (I : ι → Prop) (μ : ι → Nat) (i : ι) (QK : AQ) : loopQ f E G I μ i QK .normal env H = ∃ j, I j ∧ μ j < μ i ∧ f env H (E j) (G j) := Eq.trans rfl rfl
theorem loopQ_exit {ι : Type} (E : ι → Env) (G : ι → AHeap) (I : ι → Prop) (μ : ι → Nat) (i : ι) (id : Nat) : loopQ f E G I μ i (contQ P τ f d k Q) (.exit id) env H = goE P τ f d id k Q env H := Eq.trans rfl rfl
theorem loopQ_ret {ι : Type} (E : ι → Env) (G : ι → AHeap) (I : ι → Prop) (μ : ι → Nat) (i : ι) : loopQ f E G I μ i (contQ P τ f d k Q) .ret env H = Q .ret env H := contQ_ret P τ f d k Q env H

/-- The loop's rule: what is told at each round's head, by an index; a number that falls. -/
theorem loopR {c : Code} {ι : Type} (E : ι → Env) (G : ι → AHeap) (I : ι → Prop) (μ : ι → Nat) (i : ι) (hi : I i) (hf : f env H (E i) (G i))
    (round : ∀ i, I i → aw P τ f d c [] (loopQ f E G I μ i (contQ P τ f d k Q)) (E i) (G i)) : aloopS P τ f d c k Q env H :=
  ⟨ι, E, G, I, μ, i, hi, hf, round⟩

end
end Go.Proofs.YtlkffgmejcgdbaaDoor

/- One operation after the other, by its shape: what the walk by simp leans on. Of no program. -/
namespace Go.Proofs.YtlkffgmejcgdbaaDoor
set_option linter.all false

section
variable (P : Program) (τ : Ty) (f : Fit) (d : Drw) (k : List It) (Q : AQ) (env : Env) (H : AHeap) (all : List Oper) (s : Nat) (rest : List Oper)
variable (dst : Option Tmp) (t : TypeId) (pos : String) (aft : Array Edge) (gu : Option (Nat × Bool))

theorem np {p q : Prop} : ((False → p) ∧ q) = q := by simp
theorem tp {p : Prop} : (True ∧ p) = p := by simp

theorem ao_noalloc (o : Oper) (hc : opIsCall o.op = false) (ha : allocs τ o.op = false) :
    ao P τ f d all k Q o rest s env H = an P τ f d all k Q rest s env o.dst (aop τ (aeval env) s H o.op) := by
  rw [ao_op P τ f d k Q env H all s rest o hc]
  simp [ha, nexts]

theorem ao_doalloc (o : Oper) (hc : opIsCall o.op = false) (ha : allocs τ o.op = true) :
    ao P τ f d all k Q o rest s env H = (isVoid H s = true ∧ an P τ f d all k Q rest (s + 1) env o.dst (aop τ (aeval env) s H o.op)) := by
  rw [ao_op P τ f d k Q env H all s rest o hc]
  simp [ha, nexts]

theorem ao_move (x : Operand) : ao P τ f d all k Q ⟨dst, .move x, t, pos, aft, gu⟩ rest s env H = ar P τ f d all k Q rest s (put env dst (aeval env x)) H := by
  rw [ao_noalloc _ _ _ _ _ _ _ _ _ _ _ _ rfl rfl]; exact tp
theorem ao_assign (x : Operand) : ao P τ f d all k Q ⟨dst, .assign x, t, pos, aft, gu⟩ rest s env H = ar P τ f d all k Q rest s (put env dst (aeval env x)) H := by
  rw [ao_noalloc _ _ _ _ _ _ _ _ _ _ _ _ rfl rfl]; exact tp

theorem cells_int (ik : IntKind) (n : Int) : (D.int ik n).cells = [D.int ik n] := Eq.trans rfl rfl
theorem cells_bool (b : Bool) : (D.bool b).cells = [D.bool b] := Eq.trans rfl rfl
theorem cells_str (x : List UInt8) : (D.str x).cells = [D.str x] := Eq.trans rfl rfl
theorem cells_agg (cs : List D) : (D.agg cs).cells = cs := Eq.trans rfl rfl
theorem cells_nil : D.nil.cells = [D.nil] := Eq.trans rfl rfl
theorem cells_sl (z : Nat) (es : List D) (t : Bool) : (D.sl z es t).cells = [D.sl z es t] := Eq.trans rfl rfl
theorem cells_ref (b o n z : Nat) : (D.ref b o n z).cells = [D.ref b o n z] := Eq.trans rfl rfl
theorem cells_refc (b o n z c : Nat) : (D.refc b o n z c).cells = [D.refc b o n z c] := Eq.trans rfl rfl
theorem cells_cp (cs : List D) : (D.cp cs).cells = [D.cp cs] := Eq.trans rfl rfl
theorem cells_ptr (b o : Nat) : (D.ptr b o).cells = [D.ptr b o] := Eq.trans rfl rfl
theorem cells_nilp : D.nilp.cells = [D.nilp] := Eq.trans rfl rfl
theorem cells_nilf : D.nilf.cells = [D.nilf] := Eq.trans rfl rfl
theorem cells_fn (g : Fn) (cs : List D) : (D.fn g cs).cells = [D.fn g cs] := Eq.trans rfl rfl
theorem cells_niface : D.niface.cells = [D.niface] := Eq.trans rfl rfl
theorem cells_any : D.any.cells = [D.any] := Eq.trans rfl rfl
theorem cells_iface (t : TypeId) (x : D) : (D.iface t x).cells = [D.iface t x] := Eq.trans rfl rfl

theorem getD_map {α β : Type} (g : α → β) (l : List α) (i : Nat) (x : β) (h : i < l.length) : (l.map g).getD i x = g l[i] := by
  simp [List.getD, h]

/-- A choice by a bool. -/
def aPick (c a b : D) (H : AHeap) : R := match c with | .bool true => ⟨True, a, H⟩ | .bool false => ⟨True, b, H⟩ | _ => bad
theorem ao_pick (c x y : Operand) : ao P τ f d all k Q ⟨dst, .pick c x y, t, pos, aft, gu⟩ rest s env H = an P τ f d all k Q rest s env dst (aPick (aeval env c) (aeval env x) (aeval env y) H) :=
  ao_noalloc _ _ _ _ _ _ _ _ _ _ _ _ rfl rfl
theorem aPick_t (a b : D) : aPick (.bool true) a b H = ⟨True, a, H⟩ := Eq.trans rfl rfl
theorem aPick_f (a b : D) : aPick (.bool false) a b H = ⟨True, b, H⟩ := Eq.trans rfl rfl
theorem aPick_b (c x y : Bool) : aPick (.bool c) (.bool x) (.bool y) H = ⟨True, .bool (bif c then x else y), H⟩ := by cases c <;> rfl
theorem aPick_i (c : Bool) (k : IntKind) (x y : Int) : aPick (.bool c) (.int k x) (.int k y) H = ⟨True, .int k (bif c then x else y), H⟩ := by cases c <;> rfl

theorem ao_alloc (ty : TypeId) : ao P τ f d all k Q ⟨dst, .alloc ty, t, pos, aft, gu⟩ rest s env H = (isVoid H s = true ∧ an P τ f d all k Q rest (s + 1) env dst (aAlloc τ ty s H)) :=
  ao_doalloc _ _ _ _ _ _ _ _ _ _ _ _ rfl rfl
theorem ao_box (ty : TypeId) (x : Operand) : ao P τ f d all k Q ⟨dst, .box ty x, t, pos, aft, gu⟩ rest s env H = (isVoid H s = true ∧ an P τ f d all k Q rest (s + 1) env dst (aBox (aeval env x) s H)) :=
  ao_doalloc _ _ _ _ _ _ _ _ _ _ _ _ rfl rfl
theorem ao_build (ty : TypeId) (ps : List (Nat × Operand)) : ao P τ f d all k Q ⟨dst, .build ty ps.toArray, t, pos, aft, gu⟩ rest s env H = an P τ f d all k Q rest s env dst (aBuild τ ty (ps.map fun p => (p.1, aeval env p.2)) H) :=
  ao_noalloc _ _ _ _ _ _ _ _ _ _ _ _ rfl rfl
theorem ao_buildSlice (ty : TypeId) (n : Nat) (ps : List (Nat × Operand)) : ao P τ f d all k Q ⟨dst, .buildSlice ty n ps.toArray, t, pos, aft, gu⟩ rest s env H = (isVoid H s = true ∧ an P τ f d all k Q rest (s + 1) env dst (aBuildSlice τ ty n (ps.map fun p => (p.1, aeval env p.2)) s H)) :=
  ao_doalloc _ _ _ _ _ _ _ _ _ _ _ _ rfl rfl
theorem ao_load (ty : TypeId) (x : Operand) : ao P τ f d all k Q ⟨dst, .load ty x, t, pos, aft, gu⟩ rest s env H = an P τ f d all k Q rest s env dst (aLoad τ ty (aeval env x) H) :=
  ao_noalloc _ _ _ _ _ _ _ _ _ _ _ _ rfl rfl
theorem ao_store (ty : TypeId) (x y : Operand) : ao P τ f d all k Q ⟨dst, .store ty x y, t, pos, aft, gu⟩ rest s env H = an P τ f d all k Q rest s env dst (aStore τ ty (aeval env x) (aeval env y) H) :=
  ao_noalloc _ _ _ _ _ _ _ _ _ _ _ _ rfl rfl

def aNilCheck (x : D) (H : AHeap) : R := match x with | .ptr b o => ⟨True, .ptr b o, H⟩ | .cp cs => ⟨True, .cp cs, H⟩ | .fn (.func f) cap => ⟨True, .fn (.func f) cap, H⟩ | _ => bad
theorem ao_nilCheck (x : Operand) : ao P τ f d all k Q ⟨dst, .nilCheck x, t, pos, aft, gu⟩ rest s env H = an P τ f d all k Q rest s env dst (aNilCheck (aeval env x) H) :=
  ao_noalloc _ _ _ _ _ _ _ _ _ _ _ _ rfl rfl
theorem ao_binOp (op : BinOp) (ty : TypeId) (x y : Operand) (ty' : TypeId) : ao P τ f d all k Q ⟨dst, .binOp op ty x y ty', t, pos, aft, gu⟩ rest s env H = an P τ f d all k Q rest s env dst (aBinC τ op ty (aeval env x) (aeval env y) (constOp x || constOp y) H) :=
  ao_noalloc _ _ _ _ _ _ _ _ _ _ _ _ rfl rfl
theorem ao_unOp (op : UnOp) (ty : TypeId) (x : Operand) : ao P τ f d all k Q ⟨dst, .unOp op ty x, t, pos, aft, gu⟩ rest s env H = an P τ f d all k Q rest s env dst (aUn op (aeval env x) H) :=
  ao_noalloc _ _ _ _ _ _ _ _ _ _ _ _ rfl rfl

/-- A conversion: of a text to bytes it makes a block. -/
def ak (P : Program) (τ : Ty) (f : Fit) (d : Drw) (all : List Oper) (k : List It) (Q : AQ) (rest : List Oper) (s : Nat) (env : Env) (dst : Option Tmp) (src ty : TypeId) (x : D) (H : AHeap) (m : Bool) : Prop :=
  (m = true → isVoid H s = true) ∧ an P τ f d all k Q rest (bif m then s + 1 else s) env dst (aConv τ src ty x s H)
theorem ao_convert (src ty : TypeId) (x : Operand) : ao P τ f d all k Q ⟨dst, .convert src ty x, t, pos, aft, gu⟩ rest s env H = ak P τ f d all k Q rest s env dst src ty (aeval env x) H (τ ty).td.isSlice :=
  ao_op _ _ _ _ _ _ _ _ _ _ _ _ rfl
theorem ak_t (src ty : TypeId) (x : D) : ak P τ f d all k Q rest s env dst src ty x H true = (isVoid H s = true ∧ an P τ f d all k Q rest (s + 1) env dst (aConv τ src ty x s H)) := by simp [ak]
theorem ak_f (src ty : TypeId) (x : D) : ak P τ f d all k Q rest s env dst src ty x H false = an P τ f d all k Q rest s env dst (aConv τ src ty x s H) := by simp [ak]

theorem ao_makeInterface (ty : TypeId) (x : Operand) : ao P τ f d all k Q ⟨dst, .makeInterface ty x, t, pos, aft, gu⟩ rest s env H = an P τ f d all k Q rest s env dst ⟨(τ ty).td.conc = true, .iface ty (aeval env x), H⟩ :=
  ao_noalloc _ _ _ _ _ _ _ _ _ _ _ _ rfl rfl
theorem ao_makeFunc (g : FuncId) (cap : List Operand) : ao P τ f d all k Q ⟨dst, .makeFunc (.func g) #[] cap.toArray, t, pos, aft, gu⟩ rest s env H = ar P τ f d all k Q rest s (put env dst (.fn (.func g) (cap.map (aeval env)))) H := by
  rw [ao_noalloc _ _ _ _ _ _ _ _ _ _ _ _ rfl rfl]; simp [an, aop]
theorem ao_makeSlice (ty : TypeId) (x y : Operand) : ao P τ f d all k Q ⟨dst, .makeSlice ty x y, t, pos, aft, gu⟩ rest s env H = (isVoid H s = true ∧ an P τ f d all k Q rest (s + 1) env dst (aMakeSlice τ ty (aeval env x) (aeval env y) s H)) :=
  ao_doalloc _ _ _ _ _ _ _ _ _ _ _ _ rfl rfl
theorem ao_slice (ty : TypeId) (x : Operand) (lo hi mx : Option Operand) : ao P τ f d all k Q ⟨dst, .slice ty x lo hi mx, t, pos, aft, gu⟩ rest s env H = an P τ f d all k Q rest s env dst (aSlice τ ty (aeval env x) (lo.map (aeval env)) (hi.map (aeval env)) (mx.map (aeval env)) H) :=
  ao_noalloc _ _ _ _ _ _ _ _ _ _ _ _ rfl rfl
theorem ao_fieldAddr (ty : TypeId) (x : Operand) (i : Nat) : ao P τ f d all k Q ⟨dst, .fieldAddr ty x i, t, pos, aft, gu⟩ rest s env H = an P τ f d all k Q rest s env dst (aFieldAddr τ ty (aeval env x) i H) :=
  ao_noalloc _ _ _ _ _ _ _ _ _ _ _ _ rfl rfl
theorem ao_field (ty : TypeId) (x : Operand) (i : Nat) : ao P τ f d all k Q ⟨dst, .field ty x i, t, pos, aft, gu⟩ rest s env H = an P τ f d all k Q rest s env dst (aField τ ty (aeval env x) i H) :=
  ao_noalloc _ _ _ _ _ _ _ _ _ _ _ _ rfl rfl
theorem ao_indexAddr (ty : TypeId) (x y : Operand) : ao P τ f d all k Q ⟨dst, .indexAddr ty x y, t, pos, aft, gu⟩ rest s env H = an P τ f d all k Q rest s env dst (aIndexAddr τ ty (aeval env x) (aeval env y) H) :=
  ao_noalloc _ _ _ _ _ _ _ _ _ _ _ _ rfl rfl
theorem ao_index (ty : TypeId) (x y : Operand) : ao P τ f d all k Q ⟨dst, .index ty x y, t, pos, aft, gu⟩ rest s env H = an P τ f d all k Q rest s env dst (aIndex τ ty (aeval env x) (aeval env y) H) :=
  ao_noalloc _ _ _ _ _ _ _ _ _ _ _ _ rfl rfl

def aExtract (x : D) (i : Nat) (H : AHeap) : R := match x with | .tup ds => ⟨i < ds.length, ds.getD i .any, H⟩ | _ => bad
theorem ao_extract (x : Operand) (i : Nat) : ao P τ f d all k Q ⟨dst, .extract x i, t, pos, aft, gu⟩ rest s env H = an P τ f d all k Q rest s env dst (aExtract (aeval env x) i H) :=
  ao_noalloc _ _ _ _ _ _ _ _ _ _ _ _ rfl rfl
theorem ao_append (as : List Operand) (ts : List TypeId) : ao P τ f d all k Q ⟨dst, .call ⟨.builtin .append, as.toArray, ts.toArray⟩, t, pos, aft, gu⟩ rest s env H = (isVoid H s = true ∧ an P τ f d all k Q rest (s + 1) env dst (aBuiltin τ .append ts (as.map (aeval env)) s H)) :=
  ao_doalloc _ _ _ _ _ _ _ _ _ _ _ _ rfl rfl
theorem ao_len (as : List Operand) (ts : List TypeId) : ao P τ f d all k Q ⟨dst, .call ⟨.builtin .len, as.toArray, ts.toArray⟩, t, pos, aft, gu⟩ rest s env H = an P τ f d all k Q rest s env dst (aBuiltin τ .len ts (as.map (aeval env)) s H) :=
  ao_noalloc _ _ _ _ _ _ _ _ _ _ _ _ rfl rfl
theorem ao_cap (as : List Operand) (ts : List TypeId) : ao P τ f d all k Q ⟨dst, .call ⟨.builtin .cap, as.toArray, ts.toArray⟩, t, pos, aft, gu⟩ rest s env H = an P τ f d all k Q rest s env dst (aBuiltin τ .cap ts (as.map (aeval env)) s H) :=
  ao_noalloc _ _ _ _ _ _ _ _ _ _ _ _ rfl rfl
theorem ao_clear (as : List Operand) (ts : List TypeId) : ao P τ f d all k Q ⟨dst, .call ⟨.builtin .clear, as.toArray, ts.toArray⟩, t, pos, aft, gu⟩ rest s env H = an P τ f d all k Q rest s env dst (aBuiltin τ .clear ts (as.map (aeval env)) s H) :=
  ao_noalloc _ _ _ _ _ _ _ _ _ _ _ _ rfl rfl
theorem ao_max (as : List Operand) (ts : List TypeId) : ao P τ f d all k Q ⟨dst, .call ⟨.builtin .max, as.toArray, ts.toArray⟩, t, pos, aft, gu⟩ rest s env H = an P τ f d all k Q rest s env dst (aBuiltin τ .max ts (as.map (aeval env)) s H) :=
  ao_noalloc _ _ _ _ _ _ _ _ _ _ _ _ rfl rfl
theorem ao_min (as : List Operand) (ts : List TypeId) : ao P τ f d all k Q ⟨dst, .call ⟨.builtin .min, as.toArray, ts.toArray⟩, t, pos, aft, gu⟩ rest s env H = an P τ f d all k Q rest s env dst (aBuiltin τ .min ts (as.map (aeval env)) s H) :=
  ao_noalloc _ _ _ _ _ _ _ _ _ _ _ _ rfl rfl
theorem ao_copy (as : List Operand) (ts : List TypeId) : ao P τ f d all k Q ⟨dst, .call ⟨.builtin .copy, as.toArray, ts.toArray⟩, t, pos, aft, gu⟩ rest s env H = an P τ f d all k Q rest s env dst (aBuiltin τ .copy ts (as.map (aeval env)) s H) :=
  ao_noalloc _ _ _ _ _ _ _ _ _ _ _ _ rfl rfl

end

section
variable {P : Program} {τ : Ty} {f : Fit} {d : Drw} {k : List It} {Q : AQ} {env : Env} {H : AHeap} {all : List Oper} {s : Nat} {rest : List Oper} {o : Oper} {x : Code}

/-- A guard's two ways. -/
theorem ag_split {b want : Bool} (h1 : b = true → ag P τ f d all k Q o rest s env H (.bool true) want) (h2 : b = false → ag P τ f d all k Q o rest s env H (.bool false) want) : ag P τ f d all k Q o rest s env H (.bool b) want := by
  cases b
  · exact h2 rfl
  · exact h1 rfl

/-- A branch's two ways. -/
theorem acond_split {b : Bool} {x y : Code} (h1 : b = true → aw P τ f d x k Q env H) (h2 : b = false → aw P τ f d y k Q env H) : acondS P τ f d (.bool b) x y k Q env H := ⟨h1, h2⟩
theorem acond_t (P : Program) (τ : Ty) (f : Fit) (d : Drw) (x y : Code) (k : List It) (Q : AQ) (env : Env) (H : AHeap) : acondS P τ f d (.bool true) x y k Q env H = aw P τ f d x k Q env H := by simp [acondS, acond, aw]
theorem acond_f (P : Program) (τ : Ty) (f : Fit) (d : Drw) (x y : Code) (k : List It) (Q : AQ) (env : Env) (H : AHeap) : acondS P τ f d (.bool false) x y k Q env H = aw P τ f d y k Q env H := by simp [acondS, acond, aw]
theorem acond_bit (P : Program) (τ : Ty) (f : Fit) (d : Drw) (x y : Code) (k : List It) (Q : AQ) (env : Env) (H : AHeap) : acondS P τ f d .bit x y k Q env H = (aw P τ f d x k Q env H ∧ aw P τ f d y k Q env H) := Eq.trans rfl rfl

/-- What an operation asks. -/
theorem an_ob {dst : Option Tmp} {ob : Prop} {v : D} {H' : AHeap} (h1 : ob) (h2 : ar P τ f d all k Q rest s (put env dst v) H') : an P τ f d all k Q rest s env dst ⟨ob, v, H'⟩ := ⟨h1, h2⟩

end

theorem wok0 {P : Program} {τ : Ty} {n : Nat} {H : AHeap} : WOk P τ n H (Fits H.length) (fun _ _ _ _ _ => False) :=
  ⟨fun hI hs hf => fits_sound hf hs hI, fun _ _ h _ => h.elim⟩

abbrev nodraw : Drw := fun _ _ _ _ _ => False

/-- A function of data, by its walk. -/
theorem pureF {P : Program} {τ : Ty} {g : FuncId} {fn : Func} {c : Code} {args : List D} {x : D} {rs : List ResultVar} (hT : TyOk P τ)
    (hf : P.funcs[g]? = some fn) (hnm : (fn.name == "runtime.NumGoroutine") = false) (hb : fn.body = some c) (hr : fn.results.toList = rs) (hn : args.length ≤ fn.ntmps) (hok : okCode fn.ntmps c = true)
    (h : aw P τ (Fits 0) nodraw c [] (retQ τ rs fun r H' => Sub (H'.map Blk.fz) r x) (argEnv args 0) []) : PureF P g args x := by
  subst hr
  exact acalls_of_awp hT hf hnm hb hn hok wok0 h

end Go.Proofs.YtlkffgmejcgdbaaDoor

/- What loops and returns ask, by its shape. Of no program. -/
namespace Go.Proofs.YtlkffgmejcgdbaaDoor
set_option linter.all false

mutual
theorem D.ren_noIds (ρ : List Nat) : ∀ (d : D), d.noIds = true → d.ren ρ = d
  | .agg cs, h => by simp only [D.noIds] at h; simp only [D.ren, D.renL_noIds ρ cs h]
  | .sl _ cs _, h => by simp only [D.noIds] at h; simp only [D.ren, D.renL_noIds ρ cs h]
  | .cp cs, h => by simp only [D.noIds] at h; simp only [D.ren, D.renL_noIds ρ cs h]
  | .fn _ cs, h => by simp only [D.noIds] at h; simp only [D.ren, D.renL_noIds ρ cs h]
  | .tup cs, h => by simp only [D.noIds] at h; simp only [D.ren, D.renL_noIds ρ cs h]
  | .iface _ d, h => by simp only [D.noIds] at h; simp only [D.ren, D.ren_noIds ρ d h]
  | .ref _ _ _ _, h => by simp [D.noIds] at h
  | .refc _ _ _ _ _, h => by simp [D.noIds] at h
  | .ptr _ _, h => by simp [D.noIds] at h
  | .any, _ => rfl
  | .int _ _, _ => rfl
  | .bool _, _ => rfl
  | .str _, _ => rfl
  | .nil, _ => rfl
  | .nilp, _ => rfl
  | .nilf, _ => rfl
  | .niface, _ => rfl
  | .bit, _ => rfl
theorem D.renL_noIds (ρ : List Nat) : ∀ (l : List D), D.noIdsL l = true → D.renL ρ l = l
  | [], _ => rfl
  | d :: l, h => by
    simp only [D.noIdsL, Bool.and_eq_true] at h
    simp only [D.renL, D.ren_noIds ρ d h.1, D.renL_noIds ρ l h.2]
end

mutual
theorem D.bnd_noIds (n : Nat) : ∀ (d : D), d.noIds = true → d.bnd n = true
  | .agg cs, h => by simp only [D.noIds] at h; simp only [D.bnd, D.bndL_noIds n cs h]
  | .sl _ cs _, h => by simp only [D.noIds] at h; simp only [D.bnd, D.bndL_noIds n cs h]
  | .cp cs, h => by simp only [D.noIds] at h; simp only [D.bnd, D.bndL_noIds n cs h]
  | .fn _ cs, h => by simp only [D.noIds] at h; simp only [D.bnd, D.bndL_noIds n cs h]
  | .tup cs, h => by simp only [D.noIds] at h; simp only [D.bnd, D.bndL_noIds n cs h]
  | .iface _ d, h => by simp only [D.noIds] at h; simp only [D.bnd, D.bnd_noIds n d h]
  | .ref _ _ _ _, h => by simp [D.noIds] at h
  | .refc _ _ _ _ _, h => by simp [D.noIds] at h
  | .ptr _ _, h => by simp [D.noIds] at h
  | .any, _ => rfl
  | .int _ _, _ => rfl
  | .bool _, _ => rfl
  | .str _, _ => rfl
  | .nil, _ => rfl
  | .nilp, _ => rfl
  | .nilf, _ => rfl
  | .niface, _ => rfl
  | .bit, _ => rfl
theorem D.bndL_noIds (n : Nat) : ∀ (l : List D), D.noIdsL l = true → D.bndL n l = true
  | [], _ => rfl
  | d :: l, h => by
    simp only [D.noIdsL, Bool.and_eq_true] at h
    simp only [D.bndL, D.bnd_noIds n d h.1, D.bndL_noIds n l h.2, Bool.and_self]
end

theorem ni_any : D.any.noIds = false := rfl
theorem ni_int (k : IntKind) (n : Int) : (D.int k n).noIds = true := by simp only [D.noIds, D.noIdsL]
theorem ni_bool (b : Bool) : (D.bool b).noIds = true := by simp only [D.noIds, D.noIdsL]
theorem ni_str (s : List UInt8) : (D.str s).noIds = true := by simp only [D.noIds, D.noIdsL]
theorem ni_agg (l : List D) : (D.agg l).noIds = D.noIdsL l := by simp only [D.noIds, D.noIdsL]
theorem ni_nil : D.nil.noIds = true := by simp only [D.noIds, D.noIdsL]
theorem ni_sl (z : Nat) (l : List D) (t : Bool) : (D.sl z l t).noIds = D.noIdsL l := by simp only [D.noIds, D.noIdsL]
theorem ni_cp (l : List D) : (D.cp l).noIds = D.noIdsL l := by simp only [D.noIds, D.noIdsL]
theorem ni_nilp : D.nilp.noIds = true := by simp only [D.noIds, D.noIdsL]
theorem ni_fn (g : Fn) (l : List D) : (D.fn g l).noIds = D.noIdsL l := by simp only [D.noIds, D.noIdsL]
theorem ni_nilf : D.nilf.noIds = true := by simp only [D.noIds, D.noIdsL]
theorem ni_tup (l : List D) : (D.tup l).noIds = D.noIdsL l := by simp only [D.noIds, D.noIdsL]
theorem ni_niface : D.niface.noIds = true := by simp only [D.noIds, D.noIdsL]
theorem ni_iface (t : TypeId) (d : D) : (D.iface t d).noIds = d.noIds := by simp only [D.noIds, D.noIdsL]
theorem ni_nilL : D.noIdsL [] = true := by simp only [D.noIds, D.noIdsL]
theorem ni_consL (d : D) (l : List D) : D.noIdsL (d :: l) = (d.noIds && D.noIdsL l) := by simp only [D.noIds, D.noIdsL]

section
variable (ρ : List Nat) (env : Env) (t : Nat) (r : Env)
theorem fe_nil : fitsEnv ρ env [] = True := rfl
theorem fe_data (d : D) (h : d.noIds = true) : fitsEnv ρ env ((t, d) :: r) = (get env t = d ∧ fitsEnv ρ env r) := by
  simp [fitsEnv, D.bnd_noIds _ d h, D.ren_noIds _ d h]
theorem fe_ref (b o n z : Nat) : fitsEnv ρ env ((t, .ref b o n z) :: r) = ((b < ρ.length ∧ get env t = .ref (ρ.getD b 0) o n z) ∧ fitsEnv ρ env r) := by
  simp [fitsEnv, D.bnd, D.ren]
theorem fe_refc (b o n z c : Nat) : fitsEnv ρ env ((t, .refc b o n z c) :: r) = ((b < ρ.length ∧ get env t = .refc (ρ.getD b 0) o n z c) ∧ fitsEnv ρ env r) := by
  simp [fitsEnv, D.bnd, D.ren]
theorem fe_ptr (b o : Nat) : fitsEnv ρ env ((t, .ptr b o) :: r) = ((b < ρ.length ∧ get env t = .ptr (ρ.getD b 0) o) ∧ fitsEnv ρ env r) := by
  simp [fitsEnv, D.bnd, D.ren]
end

section
variable (ρ ρ' : List Nat) (H G : AHeap) (x : Nat)
theorem fh_nil : fitsHeap ρ H [] [] = True := rfl
theorem fh_dead : fitsHeap ρ H (x :: ρ') (.dead :: G) = fitsHeap ρ H ρ' G := by simp [fitsHeap]
theorem fh_live (cs : List D) (h : D.noIdsL cs = true) : fitsHeap ρ H (x :: ρ') (.live cs :: G) = (H[x]? = some (.live cs) ∧ fitsHeap ρ H ρ' G) := by
  have h1 : cs.all (D.bnd ρ.length) = true := by rw [← D.bndL_eq]; exact D.bndL_noIds _ _ h
  have h2 : cs.map (D.ren ρ) = cs := by rw [← D.renL_eq]; exact D.renL_noIds _ _ h
  simp [fitsHeap, bndBlk, renBlk, h2, -List.all_eq_true, h1]
theorem fh_froz (cs : List D) (h : D.noIdsL cs = true) : fitsHeap ρ H (x :: ρ') (.froz cs :: G) = (H[x]? = some (.froz cs) ∧ fitsHeap ρ H ρ' G) := by
  have h1 : cs.all (D.bnd ρ.length) = true := by rw [← D.bndL_eq]; exact D.bndL_noIds _ _ h
  have h2 : cs.map (D.ren ρ) = cs := by rw [← D.renL_eq]; exact D.renL_noIds _ _ h
  simp [fitsHeap, bndBlk, renBlk, h2, -List.all_eq_true, h1]
theorem fh_live' (cs : List D) : fitsHeap ρ H (x :: ρ') (.live cs :: G) = ((cs.all (D.bnd ρ.length) = true ∧ H[x]? = some (.live (cs.map (D.ren ρ)))) ∧ fitsHeap ρ H ρ' G) := rfl
end

/-- What is told at a round's head, by which of the blocks stand for which. -/
theorem fitsR {n0 : Nat} (ρ : List Nat) {env : Env} {H : AHeap} {E : Env} {G : AHeap} (h1 : fitsEnv ρ env E) (h2 : fitsHeap ρ H ρ G) (h3 : (liveIds ρ G).Nodup) (h4 : ρ.take n0 = List.range n0) : Fits n0 env H E G :=
  .ren ρ env H E G h1 h2 h3 h4

/-- Cell by cell. -/
def Subs (H : AHeap) : List D → List D → Prop
  | [], [] => True
  | x :: xs, y :: ys => Sub H x y ∧ Subs H xs ys
  | _, _ => False

theorem Subs.refl {H : AHeap} : ∀ {l : List D}, D.noIdsL l = true → Subs H l l
  | [], _ => trivial
  | d :: l, h => by
    simp only [D.noIdsL, Bool.and_eq_true] at h
    exact ⟨Sub.refl h.1, Subs.refl h.2⟩

theorem Subs.get {H : AHeap} : ∀ {xs ys : List D}, Subs H xs ys → xs.length = ys.length ∧ ∀ (i : Nat) (x y : D), xs[i]? = some x → ys[i]? = some y → Sub H x y
  | [], [], _ => ⟨rfl, fun i x y h => by simp at h⟩
  | x :: xs, y :: ys, h => by
    obtain ⟨h1, h2⟩ := Subs.get h.2
    refine ⟨by simp [h1], fun i a b ha hb => ?_⟩
    cases i with
    | zero => simp at ha hb; subst ha; subst hb; exact h.1
    | succ i => exact h2 i a b (by simpa using ha) (by simpa using hb)
  | [], _ :: _, h => h.elim
  | _ :: _, [], h => h.elim

theorem noIds_of_mem {l : List D} (h : ∀ d, d ∈ l → d.noIds = true) : D.noIdsL l = true := by
  rw [D.noIdsL_eq, List.all_eq_true]; exact h

/-- A slice of a block for good is data. -/
theorem Sub.sl {H : AHeap} {b o len sz : Nat} {cs es : List D} (hb : H[b]? = some (.froz cs)) (h1 : es.length = len) (h2 : ∀ e, e ∈ es → e.cells.length = sz) (h3 : o + len * sz ≤ cs.length)
    (h4 : Subs H ((cs.drop o).take (len * sz)) (es.flatMap D.cells)) : Sub H (.ref b o len sz) (.sl sz es false) := by
  subst h1
  obtain ⟨h5, h6⟩ := h4.get
  have cell : ∀ (i j : Nat) (e d : D), es[i]? = some e → e.cells[j]? = some d → i * sz + j < es.length * sz ∧ ∃ c, cs[o + (i * sz + j)]? = some c ∧ Sub H c d := fun i j e d he hd => by
    have h7 := flat_of sz es h2 i j e d he hd
    have h8 : i * sz + j < es.length * sz := by
      have := (List.getElem?_eq_some_iff.1 h7).1
      rwa [flat_length sz es h2] at this
    have h9 : o + (i * sz + j) < cs.length := by omega
    refine ⟨h8, cs[o + (i * sz + j)], List.getElem?_eq_getElem h9, h6 (i * sz + j) _ d ?_ h7⟩
    rw [List.getElem?_take_of_lt h8, List.getElem?_drop]
    exact List.getElem?_eq_getElem h9
  constructor
  · simp only [D.noIds]
    refine noIds_of_mem fun e he => ?_
    obtain ⟨i, hi⟩ := List.getElem?_of_mem he
    have hall : ∀ d, d ∈ e.cells → d.noIds = true := fun d hd => by
      obtain ⟨j, hj⟩ := List.getElem?_of_mem hd
      obtain ⟨_, c, _, hs⟩ := cell i j e d hi hj
      exact hs.1
    cases e <;> first | rfl | (simp only [D.noIds]; exact noIds_of_mem hall) | exact hall _ (List.mem_singleton.2 rfl)
  · intro w S β v hI hr
    generalize hL : es.length = L at hr
    cases hr with
    | refEmpty b o sz a =>
      have : es = [] := List.eq_nil_of_length_eq_zero hL
      subst this
      cases a with
      | none => exact .slNone _ _
      | some ad => exact .sl sz [] false ad 0 (fun _ => default) (Nat.le_refl _) (Nat.zero_le _) (fun h => by cases h) (fun e h => by simp at h) (fun i h => by simp at h) (fun i e j d h => by simp at h)
    | ref b o len sz blk off cap k1 k2 k3 T n k4 k5 =>
      subst hL
      rcases hI.froz b cs hb with ⟨_, k6⟩ | ⟨blk', off', vs, T', fr, k6, k7, k8⟩
      · unfold Bk at k1; rw [k6] at k1; cases k1
      · unfold Bk at k1 k6; rw [k6] at k1; cases k1
        have hcell : ∀ i, w.cell? (Addr.add ⟨blk, off + o, none⟩ i) = vs[off + o + i]? := fun i => by
          by_cases e : i = 0
          · subst e; simp [World.cell?, Addr.add, k8.heap]
          · simp [World.cell?, Addr.add, e, k8.heap]
        have hget : ∀ i, i < es.length * sz → ∃ v, vs[off + (o + i)]? = some v := fun i hi => by
          have : o + i < cs.length := by omega
          obtain ⟨v, h7, _⟩ := k8.cell (o + i) _ (List.getElem?_eq_getElem this)
          exact ⟨v, h7⟩
        refine .sl sz es false ⟨blk, off + o, none⟩ cap (fun i => vs.getD (off + (o + i)) undef) k2 k3 (fun h => by cases h) h2 (fun i hi => ?_) (fun i e j d he hd => ?_)
        · obtain ⟨v, hv⟩ := hget i hi
          refine ⟨k7, ?_, ?_⟩
          · rw [hcell, Nat.add_assoc, hv]; simp [Array.getD_eq_getD_getElem?, hv]
          · simp only [Array.getD_eq_getD_getElem?, hv, Option.getD_some]
            exact k8.one (o + i) v (by omega) hv
        · obtain ⟨h8, c, hc, hs⟩ := cell i j e d he hd
          obtain ⟨v, hv, hrel⟩ := k8.cell _ c hc
          simp only [Array.getD_eq_getD_getElem?, hv, Option.getD_some]
          exact hs.2 w S β v hI hrel

/-- A slice of bytes, of integers, of what stands in one cell. -/
theorem Sub.sl1 {H : AHeap} {b o len : Nat} {cs es : List D} (hb : H[b]? = some (.froz cs)) (h1 : es.length = len) (h2 : ∀ e, e ∈ es → e.cells = [e]) (h3 : o + len ≤ cs.length)
    (h4 : (cs.drop o).take len = es) (h5 : D.noIdsL es = true) : Sub H (.ref b o len 1) (.sl 1 es false) := by
  have hf : es.flatMap D.cells = es := by
    clear h1 h4 h5
    induction es with
    | nil => rfl
    | cons e es ih => simp [h2 e (by simp), ih (fun e he => h2 e (by simp [he]))]
  refine Sub.sl hb h1 (fun e he => by rw [h2 e he]; rfl) (by omega) ?_
  rw [hf, Nat.mul_one, h4]
  exact Subs.refl h5

theorem Sub.agg {H : AHeap} {xs ys : List D} (h : Subs H xs ys) : Sub H (.agg xs) (.agg ys) := by
  obtain ⟨h1, h2⟩ := h.get
  constructor
  · simp only [D.noIds]
    refine noIds_of_mem fun y hy => ?_
    obtain ⟨i, hi⟩ := List.getElem?_of_mem hy
    have hlt : i < xs.length := by rw [h1]; exact (List.getElem?_eq_some_iff.1 hi).1
    exact (h2 i _ y (List.getElem?_eq_getElem hlt) hi).1
  · intro w S β v hI hr
    cases hr with
    | agg _ vs k1 k0 k2 =>
      refine .agg ys vs (by rw [k1, h1]) k0 fun i d v hd hv => ?_
      have hlt : i < xs.length := by rw [h1]; exact (List.getElem?_eq_some_iff.1 hd).1
      exact (h2 i _ d (List.getElem?_eq_getElem hlt) hd).2 w S β v hI (k2 i _ v (List.getElem?_eq_getElem hlt) hv)

theorem Sub.tup {H : AHeap} {xs ys : List D} (h : Subs H xs ys) : Sub H (.tup xs) (.tup ys) := by
  obtain ⟨h1, h2⟩ := h.get
  constructor
  · simp only [D.noIds]
    refine noIds_of_mem fun y hy => ?_
    obtain ⟨i, hi⟩ := List.getElem?_of_mem hy
    have hlt : i < xs.length := by rw [h1]; exact (List.getElem?_eq_some_iff.1 hi).1
    exact (h2 i _ y (List.getElem?_eq_getElem hlt) hi).1
  · intro w S β v hI hr
    cases hr with
    | tup _ vs k1 k2 =>
      refine .tup ys vs (by rw [k1, h1]) fun i d v hd hv => ?_
      have hlt : i < xs.length := by rw [h1]; exact (List.getElem?_eq_some_iff.1 hd).1
      exact (h2 i _ d (List.getElem?_eq_getElem hlt) hd).2 w S β v hI (k2 i _ v (List.getElem?_eq_getElem hlt) hv)

/-- The nil slice is an empty one. -/
theorem Sub.nil {H : AHeap} (sz : Nat) (t : Bool) : Sub H .nil (.sl sz [] t) := by
  refine ⟨rfl, fun w S β v hI hr => ?_⟩
  cases hr
  exact .slNone _ _

/-- What is told of room is no more than needed. -/
theorem Sub.loose {H : AHeap} {sz : Nat} {es : List D} {t : Bool} (h : D.noIdsL es = true) : Sub H (.sl sz es t) (.sl sz es false) := by
  refine ⟨h, fun w S β v hI hr => ?_⟩
  cases hr with
  | slNone => exact .slNone _ _
  | sl sz es t ad cap vf h1 h2 h3 h4 h5 h6 => exact .sl sz es false ad cap vf h1 h2 (fun h => by cases h) h4 h5 h6

theorem Sub.of_eq {H : AHeap} {r d : D} (h : r = d) (hn : d.noIds = true) : Sub H r d := by subst h; exact Sub.refl hn
theorem Sub.bool {H : AHeap} {a b : Bool} (h : a = b) : Sub H (.bool a) (.bool b) := h ▸ Sub.refl (ni_bool _)
theorem Sub.int {H : AHeap} {k : IntKind} {a b : Int} (h : a = b) : Sub H (.int k a) (.int k b) := h ▸ Sub.refl (ni_int _ _)
theorem Sub.str {H : AHeap} {a b : List UInt8} (h : a = b) : Sub H (.str a) (.str b) := h ▸ Sub.refl (ni_str _)

theorem fz_live (cs : List D) : Blk.fz (.live cs) = .froz cs := rfl
theorem fz_froz (cs : List D) : Blk.fz (.froz cs) = .froz cs := rfl

theorem min_i8 : IntKind.i8.min = -128 := rfl
theorem max_i8 : IntKind.i8.max = 127 := rfl
theorem bits_i8 : IntKind.i8.bits = 8 := rfl
theorem min_i16 : IntKind.i16.min = -32768 := rfl
theorem max_i16 : IntKind.i16.max = 32767 := rfl
theorem bits_i16 : IntKind.i16.bits = 16 := rfl
theorem min_i32 : IntKind.i32.min = -2147483648 := rfl
theorem max_i32 : IntKind.i32.max = 2147483647 := rfl
theorem bits_i32 : IntKind.i32.bits = 32 := rfl
theorem min_i64 : IntKind.i64.min = -9223372036854775808 := rfl
theorem max_i64 : IntKind.i64.max = 9223372036854775807 := rfl
theorem bits_i64 : IntKind.i64.bits = 64 := rfl
theorem min_u8 : IntKind.u8.min = 0 := rfl
theorem max_u8 : IntKind.u8.max = 255 := rfl
theorem bits_u8 : IntKind.u8.bits = 8 := rfl
theorem min_u16 : IntKind.u16.min = 0 := rfl
theorem max_u16 : IntKind.u16.max = 65535 := rfl
theorem bits_u16 : IntKind.u16.bits = 16 := rfl
theorem min_u32 : IntKind.u32.min = 0 := rfl
theorem max_u32 : IntKind.u32.max = 4294967295 := rfl
theorem bits_u32 : IntKind.u32.bits = 32 := rfl
theorem min_u64 : IntKind.u64.min = 0 := rfl
theorem max_u64 : IntKind.u64.max = 18446744073709551615 := rfl
theorem bits_u64 : IntKind.u64.bits = 64 := rfl

/-- The operations on known values, one lemma each: nothing is unfolded ahead of its operands. -/
theorem aBin_ii (τ : Ty) (op : BinOp) (t : TypeId) (k k' : IntKind) (a b : Int) (c : Bool) (H : AHeap) : aBinC τ op t (.int k a) (.int k' b) c H = aInt op k a k' b H := rfl
theorem aBin_ss (τ : Ty) (op : BinOp) (t : TypeId) (a b : List UInt8) (c : Bool) (H : AHeap) : aBinC τ op t (.str a) (.str b) c H = aStr op a b H := rfl
theorem aBin_be (τ : Ty) (t : TypeId) (a b : Bool) (c : Bool) (H : AHeap) : aBinC τ .eql t (.bool a) (.bool b) c H = ⟨(τ t).td = .bool, .bool (a == b), H⟩ := rfl
theorem aBin_bn (τ : Ty) (t : TypeId) (a b : Bool) (c : Bool) (H : AHeap) : aBinC τ .neq t (.bool a) (.bool b) c H = ⟨(τ t).td = .bool, .bool (!(a == b)), H⟩ := rfl
theorem aBin_ae (τ : Ty) (t : TypeId) (xs ys : List D) (c : Bool) (H : AHeap) : aBinC τ .eql t (.agg xs) (.agg ys) c H = ⟨∃ fs, (τ t).td = .struct fs ∧ (τ t).eq = true ∧ flatTD τ fs 0 xs = true ∧ flatTD τ fs 0 ys = true, .bool (eqCells xs ys), H⟩ := rfl
theorem aBin_an (τ : Ty) (t : TypeId) (xs ys : List D) (c : Bool) (H : AHeap) : aBinC τ .neq t (.agg xs) (.agg ys) c H = ⟨∃ fs, (τ t).td = .struct fs ∧ (τ t).eq = true ∧ flatTD τ fs 0 xs = true ∧ flatTD τ fs 0 ys = true, .bool (!eqCells xs ys), H⟩ := rfl
theorem aBin_sn (τ : Ty) (op : BinOp) (t : TypeId) (z : Nat) (es : List D) (u : Bool) (c : Bool) (H : AHeap) : aBinC τ op t (.sl z es u) .nil c H = aNilB τ op t (.sl z es u) .nil H := rfl
theorem aBin_rn (τ : Ty) (op : BinOp) (t : TypeId) (b o n z : Nat) (c : Bool) (H : AHeap) : aBinC τ op t (.ref b o n z) .nil c H = aNilB τ op t (.ref b o n z) .nil H := rfl
theorem aBin_nn (τ : Ty) (op : BinOp) (t : TypeId) (c : Bool) (H : AHeap) : aBinC τ op t .nil .nil c H = aNilB τ op t .nil .nil H := rfl
theorem aBin_ife (τ : Ty) (t tx : TypeId) (dx : D) (c : Bool) (H : AHeap) : aBinC τ .eql t (.iface tx dx) .niface c H = ⟨(τ t).td = .iface, .bool false, H⟩ := rfl
theorem aBin_ifn (τ : Ty) (t tx : TypeId) (dx : D) (c : Bool) (H : AHeap) : aBinC τ .neq t (.iface tx dx) .niface c H = ⟨(τ t).td = .iface, .bool true, H⟩ := rfl
theorem aBin_inn (τ : Ty) (t : TypeId) (c : Bool) (H : AHeap) : aBinC τ .neq t .niface .niface c H = ⟨(τ t).td = .iface ∧ c = true, .bool false, H⟩ := rfl
theorem aBin_ine (τ : Ty) (t : TypeId) (c : Bool) (H : AHeap) : aBinC τ .eql t .niface .niface c H = ⟨(τ t).td = .iface ∧ c = true, .bool true, H⟩ := rfl
theorem aBin_ifi (τ : Ty) (t tx ty : TypeId) (k k' : IntKind) (a b : Int) (c : Bool) (H : AHeap) : aBinC τ .eql t (.iface tx (.int k a)) (.iface ty (.int k' b)) c H = ⟨(τ t).td = .iface ∧ tx = ty ∧ k = k' ∧ (τ tx).td = .int k ∧ (τ tx).eq = true, .bool (a == b), H⟩ := rfl
theorem aUn_not (b : Bool) (H : AHeap) : aUn .not (.bool b) H = ⟨True, .bool (!b), H⟩ := rfl
theorem aUn_i64 (n : Int) (H : AHeap) : aUn .neg (.int .i64 n) H = ⟨True, .int .i64 (IntKind.i64.wrap (0 - n)), H⟩ := rfl

end Go.Proofs.YtlkffgmejcgdbaaDoor

/- What an abstract operation reads and writes of the blocks. Of no program. -/
namespace Go.Proofs.YtlkffgmejcgdbaaDoor
set_option linter.all false

def ids1 : D → List Nat
  | .ref b _ _ _ => [b]
  | .refc b _ _ _ _ => [b]
  | .ptr b _ => [b]
  | _ => []

def aReads (ev : Operand → D) : Op → List Nat
  | .load _ a => ids1 (ev a)
  | .slice _ x _ _ _ => ids1 (ev x)
  | .convert _ _ x => ids1 (ev x)
  | .call { callee := .builtin .append, args, .. } => args.toList.flatMap fun x => ids1 (ev x)
  | .call { callee := .builtin .copy, args, .. } => args.toList.flatMap fun x => ids1 (ev x)
  | _ => []

/-- Of the first operand. -/
def headIds (ev : Operand → D) : List Operand → List Nat
  | [] => []
  | x :: _ => ids1 (ev x)
theorem headIds_cons (ev : Operand → D) (x : Operand) (l : List Operand) : headIds ev (x :: l) = ids1 (ev x) := rfl

def aWrites (τ : Ty) (ev : Operand → D) (slot : Nat) : Op → List Nat
  | .store _ a _ => ids1 (ev a)
  | .alloc _ | .box _ _ | .buildSlice _ _ _ | .makeSlice _ _ _ => [slot]
  | .convert _ dst _ => bif (τ dst).td.isSlice then [slot] else []
  | .call { callee := .builtin .append, args, .. } => slot :: headIds ev args.toList
  | .call { callee := .builtin .copy, args, .. } => args.toList.flatMap fun x => ids1 (ev x)
  | .call { callee := .builtin .clear, args, .. } => args.toList.flatMap fun x => ids1 (ev x)
  | _ => []

/-- Nothing of the blocks is read or written. -/
def Quiet (f : AHeap → R) : Prop := ∀ H H', (f H).ob → f H' = ⟨(f H).ob, (f H).d, H'⟩ ∧ (f H).H = H

/-- Only 'Rs' and 'Ws' are read, only 'Ws' are written. -/
def Local (Rs Ws : List Nat) (f : AHeap → R) : Prop :=
  ∀ H H', H'.length = H.length → (∀ b, b ∈ Rs ∨ b ∈ Ws → H'[b]? = H[b]?) → (f H).ob →
    (f H').ob ∧ (f H').d = (f H).d ∧ (f H').H.length = H'.length ∧ (∀ b, b ∈ Ws → (f H').H[b]? = (f H).H[b]?) ∧ ∀ b, b ∉ Ws → (f H').H[b]? = H'[b]?

theorem Quiet.loc {f : AHeap → R} (h : Quiet f) (Rs Ws : List Nat) : Local Rs Ws f := fun H H' _ he ho => by
  obtain ⟨h1, h2⟩ := h H H' ho
  rw [h1]
  exact ⟨ho, by trivial, by trivial, fun b hb => by rw [h2]; exact he b (.inr hb), fun b _ => rfl⟩

theorem quiet_bad : Quiet fun _ => bad := fun _ _ h => h.elim

theorem q_int (op : BinOp) (k : IntKind) (a : Int) (k' : IntKind) (b : Int) : Quiet (aInt op k a k' b) := fun H H' _ => by
  cases op <;> exact ⟨by trivial, by trivial⟩
theorem q_str (op : BinOp) (a b : List UInt8) : Quiet (aStr op a b) := fun H H' h => by
  cases op <;> first | exact h.elim | exact ⟨by trivial, by trivial⟩
theorem q_nilB (τ : Ty) (op : BinOp) (t : TypeId) (x y : D) : Quiet (aNilB τ op t x y) := fun H H' h => by
  unfold aNilB at *
  cases y <;> try exact h.elim
  cases hx : isNilD x <;> simp only [hx] at h ⊢
  · exact h.elim
  · cases op <;> first | exact h.elim | exact ⟨by trivial, by trivial⟩
theorem q_if (τ : Ty) (op : BinOp) (t : TypeId) (x y : D) : Quiet (aIf τ op t x y) := fun H H' h => by
  unfold aIf at *
  cases x <;> try exact h.elim
  rename_i tx dx
  cases y <;> try exact h.elim
  · cases op <;> first | exact h.elim | exact ⟨by trivial, by trivial⟩
  · rename_i ty dy
    cases dx <;> try exact h.elim
    cases dy <;> try exact h.elim
    cases op <;> first | exact h.elim | exact ⟨by trivial, by trivial⟩
theorem q_nilX (τ : Ty) (op : BinOp) (t : TypeId) (x y : D) : Quiet (aNilX τ op t x y) := by
  cases y
  case niface => exact q_if τ op t x _
  case iface => exact q_if τ op t x _
  all_goals exact q_nilB τ op t x _
theorem q_bin (τ : Ty) (op : BinOp) (t : TypeId) (x y : D) : Quiet (aBin τ op t x y) := by
  cases x
  case int => intro H H' h; cases y <;> first | exact h.elim | exact q_int _ _ _ _ _ H H' h
  case bool => intro H H' h; cases y <;> first | exact h.elim | (cases op <;> first | exact h.elim | exact ⟨by trivial, by trivial⟩)
  case str => intro H H' h; cases y <;> first | exact h.elim | exact q_str _ _ _ H H' h
  case agg => intro H H' h; cases y <;> first | exact h.elim | (cases op <;> first | exact h.elim | exact ⟨by trivial, by trivial⟩)
  all_goals exact q_nilX τ op t _ y
theorem q_binC (τ : Ty) (op : BinOp) (t : TypeId) (x y : D) (c : Bool) : Quiet (aBinC τ op t x y c) := by
  cases x
  case niface => intro H H' h; cases y <;> first | exact h.elim | (cases op <;> first | exact h.elim | exact ⟨by trivial, by trivial⟩)
  all_goals exact q_bin τ op t _ y
theorem q_un (op : UnOp) (x : D) : Quiet (aUn op x) := fun H H' h => by
  cases op <;> cases x <;> first | exact h.elim | exact ⟨by trivial, by trivial⟩
theorem q_indexAddr (τ : Ty) (t : TypeId) (x ix : D) : Quiet (aIndexAddr τ t x ix) := fun H H' h => by
  cases ix <;> try exact h.elim
  unfold aIndexAddr at *
  cases ht : (τ t).td <;> simp only [ht] at h ⊢ <;> try exact h.elim
  · cases x <;> first | exact h.elim | exact ⟨by trivial, by trivial⟩
  · cases x <;> first | exact h.elim | exact ⟨by trivial, by trivial⟩
theorem q_fieldAddr (τ : Ty) (t : TypeId) (x : D) (f : Nat) : Quiet (aFieldAddr τ t x f) := fun H H' h => by
  unfold aFieldAddr at *
  cases ht : (τ t).td <;> simp only [ht] at h ⊢ <;> try exact h.elim
  rename_i fs
  cases hf : fs[f]? <;> simp only [hf] at h ⊢ <;> try exact h.elim
  cases x <;> first | exact h.elim | exact ⟨by trivial, by trivial⟩
theorem q_field (τ : Ty) (t : TypeId) (x : D) (f : Nat) : Quiet (aField τ t x f) := fun H H' h => by
  unfold aField at *
  cases ht : (τ t).td <;> simp only [ht] at h ⊢ <;> try exact h.elim
  rename_i fs
  cases hf : fs[f]? <;> simp only [hf] at h ⊢ <;> try exact h.elim
  cases x <;> first | exact h.elim | exact ⟨by trivial, by trivial⟩
theorem q_index (τ : Ty) (t : TypeId) (x ix : D) : Quiet (aIndex τ t x ix) := fun H H' h => by
  cases ix <;> try exact h.elim
  cases x <;> try exact h.elim
  · exact ⟨by trivial, by trivial⟩
  · unfold aIndex at *
    cases ht : (τ t).td <;> simp only [ht] at h ⊢ <;> first | exact h.elim | exact ⟨by trivial, by trivial⟩
theorem q_build (τ : Ty) (t : TypeId) (ps : List (Nat × D)) : Quiet (aBuild τ t ps) := fun H H' h => by
  unfold aBuild at *
  cases ht : (τ t).td <;> simp only [ht] at h ⊢ <;> try exact h.elim
  · split at h
    · rename_i hs; simp only [hs]; exact ⟨trivial, trivial⟩
    · exact h.elim
  · split at h
    · rename_i hs; simp only [hs]; exact ⟨trivial, trivial⟩
    · exact h.elim
theorem q_len (τ : Ty) (t : TypeId) (x : D) : Quiet (aLen τ t x) := fun H H' h => by
  unfold aLen at *
  cases ht : (τ t).td <;> simp only [ht] at h ⊢ <;> first | exact h.elim | exact ⟨by trivial, by trivial⟩ | (cases x <;> first | exact h.elim | exact ⟨by trivial, by trivial⟩)

theorem q_cap (τ : Ty) (t : TypeId) (x : D) : Quiet (aCap τ t x) := fun H H' h => by
  unfold aCap at *
  cases ht : (τ t).td <;> simp only [ht] at h ⊢ <;> first | exact h.elim | exact ⟨by trivial, by trivial⟩ | (cases x <;> first | exact h.elim | exact ⟨by trivial, by trivial⟩)

theorem l_set {Rs Ws : List Nat} {f : AHeap → R} {b : Nat} (hb : b ∈ Ws) (h : ∀ H H', H'.length = H.length → (∀ b, b ∈ Rs ∨ b ∈ Ws → H'[b]? = H[b]?) → (f H).ob → (f H').ob ∧ (f H').d = (f H).d ∧ ∃ x, (f H).H = H.set b x ∧ (f H').H = H'.set b x) : Local Rs Ws f := fun H H' hl he ho => by
  obtain ⟨h1, h2, x, h3, h4⟩ := h H H' hl he ho
  refine ⟨h1, h2, by rw [h4]; simp, fun c hc => ?_, fun c hc => ?_⟩
  · rw [h3, h4]
    by_cases e : b = c
    · subst e
      by_cases hlt : b < H.length
      · rw [List.getElem?_set_self hlt, List.getElem?_set_self (by omega)]
      · rw [List.getElem?_eq_none (by simp; omega), List.getElem?_eq_none (by simp; omega)]
    · rw [List.getElem?_set_ne e, List.getElem?_set_ne e]; exact he c (.inr hc)
  · rw [h4, List.getElem?_set_ne (fun (e : b = c) => hc (e ▸ hb))]

theorem cellsAt_congr {H H' : AHeap} {b : Nat} (h : H'[b]? = H[b]?) : cellsAt H' b = cellsAt H b := by
  unfold cellsAt; rw [h]

theorem l_load (τ : Ty) (t : TypeId) (x : D) : Local (ids1 x) [] (aLoad τ t x) := fun H H' hl he ho => by
  cases x <;> try exact ho.elim
  · exact ⟨ho, by trivial, by trivial, fun b hb => absurd hb (by simp), fun b _ => by trivial⟩
  · rename_i b o
    have := cellsAt_congr (he b (.inl (by simp [ids1])))
    unfold aLoad at *
    simp only [this] at ho ⊢
    cases hc : cellsAt H b <;> simp only [hc] at ho ⊢
    · exact ho.elim
    · exact ⟨ho, by trivial, by trivial, fun b hb => absurd hb (by simp), fun b _ => by trivial⟩

theorem l_store (τ : Ty) (t : TypeId) (x v : D) : Local [] (ids1 x) (aStore τ t x v) := by
  cases x
  case ptr b o =>
    refine l_set (b := b) (by simp [ids1]) fun H H' hl he ho => ?_
    have := he b (.inr (by simp [ids1]))
    unfold aStore at *
    simp only [this] at ho ⊢
    split at ho
    · rename_i cs hs
      simp only [hs]
      exact ⟨ho, by trivial, _, rfl, rfl⟩
    · exact ho.elim
  all_goals exact Quiet.loc quiet_bad _ _

theorem l_alloc (τ : Ty) (t : TypeId) (s : Nat) : Local [] [s] (aAlloc τ t s) :=
  l_set (b := s) (by simp) fun H H' _ _ ho => ⟨ho, rfl, _, rfl, rfl⟩
theorem l_box (v : D) (s : Nat) : Local [] [s] (aBox v s) :=
  l_set (b := s) (by simp) fun H H' _ _ ho => ⟨ho, rfl, _, rfl, rfl⟩
theorem l_buildSlice (τ : Ty) (t : TypeId) (n : Nat) (ps : List (Nat × D)) (s : Nat) : Local [] [s] (aBuildSlice τ t n ps s) :=
  l_set (b := s) (by simp) fun H H' _ _ ho => by
    unfold aBuildSlice at *
    cases ht : (τ t).td <;> simp only [ht] at ho ⊢ <;> try exact ho.elim
    split at ho
    · rename_i hs; simp only [hs]; exact ⟨ho, by trivial, _, rfl, rfl⟩
    · exact ho.elim
theorem l_makeSlice (τ : Ty) (t : TypeId) (x y : D) (s : Nat) : Local [] [s] (aMakeSlice τ t x y s) :=
  l_set (b := s) (by simp) fun H H' _ _ ho => by
    unfold aMakeSlice at *
    cases ht : (τ t).td <;> simp only [ht] at ho ⊢ <;> try exact ho.elim
    cases x <;> try exact ho.elim
    cases y <;> try exact ho.elim
    exact ⟨ho, by trivial, _, rfl, rfl⟩

theorem l_conv (τ : Ty) (src dst : TypeId) (x : D) (s : Nat) : Local (ids1 x) (bif (τ dst).td.isSlice then [s] else []) (aConv τ src dst x s) := by
  unfold aConv
  cases ht : (τ dst).td
  case int k => cases x <;> first | exact Quiet.loc quiet_bad _ _ | exact Quiet.loc (fun H H' h => ⟨rfl, rfl⟩) _ _
  case str =>
    cases x
    case ref b o len sz =>
      intro H H' hl he ho
      have := cellsAt_congr (he b (.inl (by simp [ids1])))
      simp only [this] at ho ⊢
      cases hc : cellsAt H b <;> simp only [hc] at ho ⊢
      · exact ho.elim
      · exact ⟨ho, by trivial, by trivial, fun b hb => absurd hb (by simp [TD.isSlice]), fun b _ => by trivial⟩
    all_goals first | exact Quiet.loc quiet_bad _ _ | exact Quiet.loc (fun H H' h => ⟨rfl, rfl⟩) _ _
  case slice e =>
    cases x
    case str => exact l_set (b := s) (by simp [TD.isSlice]) fun H H' _ _ ho => ⟨ho, rfl, _, rfl, rfl⟩
    all_goals exact Quiet.loc quiet_bad _ _
  all_goals exact Quiet.loc quiet_bad _ _

theorem l_slice (τ : Ty) (t : TypeId) (x : D) (lo hi mx : Option D) : Local (ids1 x) [] (aSlice τ t x lo hi mx) := by
  unfold aSlice
  cases asNat? lo <;> try exact Quiet.loc quiet_bad _ _
  cases asNat? hi <;> try exact Quiet.loc quiet_bad _ _
  cases asNat? mx <;> try exact Quiet.loc quiet_bad _ _
  cases x
  case ptr b o =>
    intro H H' hl he ho
    have := cellsAt_congr (he b (.inl (by simp [ids1])))
    cases ht : (τ t).td <;> simp only [ht] at ho ⊢ <;> try exact ho.elim
    simp only [this]
    exact ⟨ho, by trivial, by trivial, fun b hb => absurd hb (by simp), fun b _ => by trivial⟩
  all_goals first | exact Quiet.loc quiet_bad _ _ | exact Quiet.loc (fun H H' h => ⟨rfl, rfl⟩) _ _

theorem elemCells_congr {H H' : AHeap} {x : D} (h : ∀ b, b ∈ ids1 x → H'[b]? = H[b]?) : elemCells H' x = elemCells H x := by
  cases x <;> try rfl
  all_goals simp only [elemCells, cellsAt_congr (h _ (List.mem_singleton.2 rfl))]

theorem l_appendZ (τ : Ty) (t t' : TypeId) (s : D) (kk : Int) (slot : Nat) {Rs Ws : List Nat} (h2 : ∀ b, b ∈ ids1 s → b ∈ Ws) (h3 : slot ∈ Ws) : Local Rs Ws (aAppendZ τ t t' s kk slot) := by
  refine l_set h3 fun H H' hl he ho => ?_
  unfold aAppendZ at *
  cases ht : (τ t).td <;> simp only [ht] at ho ⊢ <;> try exact ho.elim
  cases s <;> try exact ho.elim
  rename_i b o len sz c
  have hb := he b (.inr (h2 b (by simp [ids1])))
  simp only [hb] at ho ⊢
  split at ho
  · rename_i cs hs
    simp only [hs]
    exact ⟨ho, trivial, _, rfl, rfl⟩
  · exact ho.elim

theorem l_append (τ : Ty) (ts : List TypeId) (s x : D) (slot : Nat) {Rs Ws : List Nat} (h1 : ∀ b, b ∈ ids1 x → b ∈ Rs ∨ b ∈ Ws) (h2 : ∀ b, b ∈ ids1 s → b ∈ Ws) (h3 : slot ∈ Ws) : Local Rs Ws (aAppend τ ts s x slot) := by
  intro H H' hl he ho
  have hx := elemCells_congr (H := H) (H' := H') (x := x) fun b hb => he b (h1 b hb)
  unfold aAppend at *
  split at ho
  · split at ho
    · rename_i kk
      exact l_appendZ τ _ _ s kk slot h2 h3 H H' hl he ho
    split at ho
    · rename_i e ht
      simp only [ht, hx] at ho ⊢
      cases hc : elemCells H x <;> simp only [hc] at ho ⊢
      · exact ho.elim
      · rename_i xs
        obtain ⟨xs, n⟩ := xs
        simp only at ho ⊢
        cases s
        case nil =>
          refine l_set (Rs := Rs) (Ws := Ws) (b := slot) (f := fun H => ⟨_, .ref slot 0 n (τ e).size, H.set slot (.live xs)⟩) h3 (fun H H' _ _ ho => ⟨ho, rfl, _, rfl, rfl⟩) H H' hl he ho
        case ref b o len sz =>
          have hb := he b (.inr (h2 b (by simp [ids1])))
          simp only [hb] at ho ⊢
          split at ho
          · rename_i cs hs
            simp only [hs]
            refine ⟨ho, by trivial, by simp, fun c hc => ?_, fun c hc => ?_⟩
            · have hlt : b < H.length := (List.getElem?_eq_some_iff.1 hs).1
              have hc' := he c (.inr hc)
              by_cases e1 : slot = c
              · subst e1
                by_cases hlt : slot < H.length
                · rw [List.getElem?_set_self (by simp; omega), List.getElem?_set_self (by simpa using hlt)]
                · rw [List.getElem?_eq_none (by simp; omega), List.getElem?_eq_none (by simp; omega)]
              · rw [List.getElem?_set_ne e1, List.getElem?_set_ne e1]
                by_cases e2 : b = c
                · subst e2
                  rw [List.getElem?_set_self hlt, List.getElem?_set_self (by omega)]
                · rw [List.getElem?_set_ne e2, List.getElem?_set_ne e2]; exact hc'
            · rw [List.getElem?_set_ne (fun (e : slot = c) => hc (e ▸ h3)), List.getElem?_set_ne (fun (e : b = c) => hc (e ▸ h2 b (by simp [ids1])))]
          · exact ho.elim
        case sl sz es t =>
          cases t
          · exact ho.elim
          · cases hemp : es.isEmpty <;> simp only [hemp, cond_true, cond_false] at ho ⊢
            · exact ⟨ho, by trivial, by trivial, fun b hb => he b (.inr hb), fun b _ => by trivial⟩
            · have k := l_set (Rs := Rs) (Ws := Ws) (b := slot) (f := fun H => ⟨_, .ref slot 0 n (τ e).size, H.set slot (.live xs)⟩) h3 (fun H H' _ _ ho => ⟨ho, rfl, _, rfl, rfl⟩) H H' hl he ho
              exact ⟨ho, by trivial, k.2.2.1, k.2.2.2.1, k.2.2.2.2⟩
        case refc b o len sz c =>
          have hb := he b (.inr (h2 b (by simp [ids1])))
          simp only [hb] at ho ⊢
          split at ho
          · rename_i cs hs
            rcases Bool.eq_false_or_eq_true (decide (len + n ≤ c)) with hrm | hrm
            rotate_left
            · simp only [hrm, cond_false] at ho ⊢
              have k := l_set (Rs := Rs) (Ws := Ws) (b := slot) (f := fun H => ⟨True, .any, H.set slot (.live ((cs.drop o).take (len * sz) ++ xs))⟩) h3 (fun H H' _ _ ho => ⟨trivial, rfl, _, rfl, rfl⟩) H H' hl he trivial
              exact ⟨ho, by trivial, k.2.2.1, k.2.2.2.1, k.2.2.2.2⟩
            · simp only [hrm, cond_true] at ho ⊢
              have k := l_set (Rs := Rs) (Ws := Ws) (b := b) (f := fun H => ⟨True, .any, H.set b (.live (splice cs (o + len * sz) xs))⟩) (h2 b (by simp [ids1])) (fun H H' _ _ ho => ⟨trivial, rfl, _, rfl, rfl⟩) H H' hl he trivial
              exact ⟨ho, by trivial, k.2.2.1, k.2.2.2.1, k.2.2.2.2⟩
          · exact ho.elim
        all_goals exact ho.elim
    · exact ho.elim
  · exact ho.elim

theorem l_copy (τ : Ty) (ts : List TypeId) (dst src : D) {Rs Ws : List Nat} (h1 : ∀ b, b ∈ ids1 src → b ∈ Rs ∨ b ∈ Ws) (h2 : ∀ b, b ∈ ids1 dst → b ∈ Ws) : Local Rs Ws (aCopy τ ts dst src) := by
  intro H H' hl he ho
  have hx := elemCells_congr (H := H) (H' := H') (x := src) fun b hb => he b (h1 b hb)
  cases ts with
  | nil => exact ho.elim
  | cons t r =>
    simp only [aCopy] at ho ⊢
    cases ht : (τ t).td <;> simp only [ht] at ho ⊢ <;> try exact ho.elim
    rename_i e
    cases dst <;> try exact ho.elim
    case ref b o len sz =>
      have hb := he b (.inr (h2 b (by simp [ids1])))
      simp only [hb, hx] at ho ⊢
      split at ho
      · rename_i cs xs n hs hxs
        simp only [hs, hxs]
        obtain ⟨k1, _, k3, k4, k5⟩ := l_set (Rs := Rs) (Ws := Ws) (b := b) (f := fun H => ⟨_, .int .i64 (min n len : Nat), H.set b _⟩) (h2 b (by simp [ids1])) (fun H H' _ _ ho => ⟨ho, by trivial, _, rfl, rfl⟩) H H' hl he ho
        exact ⟨k1, trivial, k3, k4, k5⟩
      · exact ho.elim
    case refc b o len sz c =>
      have hb := he b (.inr (h2 b (by simp [ids1])))
      simp only [hb, hx] at ho ⊢
      split at ho
      · rename_i cs xs n hs hxs
        simp only [hs, hxs]
        obtain ⟨k1, _, k3, k4, k5⟩ := l_set (Rs := Rs) (Ws := Ws) (b := b) (f := fun H => ⟨_, .int .i64 (min n len : Nat), H.set b _⟩) (h2 b (by simp [ids1])) (fun H H' _ _ ho => ⟨ho, by trivial, _, rfl, rfl⟩) H H' hl he ho
        exact ⟨k1, trivial, k3, k4, k5⟩
      · exact ho.elim

theorem l_clear (τ : Ty) (t : TypeId) (x : D) {Rs Ws : List Nat} (h2 : ∀ b, b ∈ ids1 x → b ∈ Ws) : Local Rs Ws (aClear τ t x) := by
  intro H H' hl he ho
  unfold aClear at *
  cases ht : (τ t).td <;> simp only [ht] at ho ⊢ <;> try exact ho.elim
  rename_i e
  cases x <;> try exact ho.elim
  rename_i b o len sz c
  have hb := he b (.inr (h2 b (by simp [ids1])))
  simp only [hb] at ho ⊢
  split at ho
  · rename_i cs hs
    simp only [hs]
    have k := l_set (Rs := Rs) (Ws := Ws) (b := b) (f := fun H => ⟨True, .any, H.set b (.live (splice cs o (List.replicate len (ofVal (τ e).zero).cells).flatten))⟩) (h2 b (by simp [ids1])) (fun H H' _ _ ho => ⟨trivial, rfl, _, rfl, rfl⟩) H H' hl he trivial
    exact ⟨ho, by trivial, k.2.2.1, k.2.2.2.1, k.2.2.2.2⟩
  · exact ho.elim

theorem aop_local (τ : Ty) (ev : Operand → D) (slot : Nat) (op : Op) : Local (aReads ev op) (aWrites τ ev slot op) fun H => aop τ ev slot H op := by
  cases op
  case move x => exact Quiet.loc (fun H H' h => ⟨rfl, rfl⟩) _ _
  case assign x => exact Quiet.loc (fun H H' h => ⟨rfl, rfl⟩) _ _
  case pick c a b => exact Quiet.loc (fun H H' h => by simp only [aop] at *; split at h <;> first | exact h.elim | exact ⟨by trivial, by trivial⟩) _ _
  case alloc t => exact l_alloc τ t slot
  case box t v => exact l_box _ slot
  case build t ps => exact Quiet.loc (q_build _ _ _) _ _
  case buildSlice t n ps => exact l_buildSlice _ _ _ _ _
  case load t a => exact l_load _ _ _
  case store t a v => exact l_store _ _ _ _
  case nilCheck x => exact Quiet.loc (fun H H' h => by simp only [aop] at *; split at h <;> first | exact h.elim | exact ⟨by trivial, by trivial⟩) _ _
  case binOp op t x y t' => exact Quiet.loc (q_binC _ _ _ _ _ _) _ _
  case makeInterface t x => exact Quiet.loc (fun H H' h => ⟨rfl, rfl⟩) _ _
  case unOp op t x => exact Quiet.loc (q_un _ _) _ _
  case convert src dst x => exact l_conv _ _ _ _ _
  case makeFunc fn first cap => cases fn <;> first | exact Quiet.loc quiet_bad _ _ | exact Quiet.loc (fun H H' h => ⟨rfl, rfl⟩) _ _
  case makeSlice t l c => exact l_makeSlice _ _ _ _ _
  case slice t x lo hi mx => exact l_slice _ _ _ _ _ _
  case fieldAddr t x f => exact Quiet.loc (q_fieldAddr _ _ _ _) _ _
  case field t x f => exact Quiet.loc (q_field _ _ _ _) _ _
  case indexAddr t x i => exact Quiet.loc (q_indexAddr _ _ _ _) _ _
  case index t x i => exact Quiet.loc (q_index _ _ _ _) _ _
  case extract x i => exact Quiet.loc (fun H H' h => by simp only [aop] at *; split at h <;> first | exact h.elim | exact ⟨by trivial, by trivial⟩) _ _
  case call c =>
    obtain ⟨callee, args, ts⟩ := c
    cases callee <;> try exact Quiet.loc quiet_bad _ _
    rename_i b
    cases b <;> try exact Quiet.loc quiet_bad _ _
    case append =>
      have mem : ∀ (x : Operand), x ∈ args.toList → ∀ b, b ∈ ids1 (ev x) → b ∈ args.toList.flatMap fun x => ids1 (ev x) := fun x hx b hb => List.mem_flatMap.2 ⟨x, hx, hb⟩
      simp only [aop, aBuiltin, aReads, aWrites]
      generalize args.toList = l at mem
      match l with
      | [] => exact Quiet.loc quiet_bad _ _
      | [_] => exact Quiet.loc quiet_bad _ _
      | _ :: _ :: _ :: _ => exact Quiet.loc quiet_bad _ _
      | [s, x] => exact l_append _ _ _ _ _ (fun b hb => .inl (mem x (by simp) b hb)) (fun b hb => List.mem_cons_of_mem _ hb) (by simp)
    case copy =>
      have mem : ∀ (x : Operand), x ∈ args.toList → ∀ b, b ∈ ids1 (ev x) → b ∈ args.toList.flatMap fun x => ids1 (ev x) := fun x hx b hb => List.mem_flatMap.2 ⟨x, hx, hb⟩
      simp only [aop, aBuiltin, aReads, aWrites]
      generalize args.toList = l at mem
      match l with
      | [] => exact Quiet.loc quiet_bad _ _
      | [_] => exact Quiet.loc quiet_bad _ _
      | _ :: _ :: _ :: _ => exact Quiet.loc quiet_bad _ _
      | [s, x] => exact l_copy _ _ _ _ (fun b hb => .inl (mem x (by simp) b hb)) (fun b hb => mem s (by simp) b hb)
    case clear =>
      have mem : ∀ (x : Operand), x ∈ args.toList → ∀ b, b ∈ ids1 (ev x) → b ∈ args.toList.flatMap fun x => ids1 (ev x) := fun x hx b hb => List.mem_flatMap.2 ⟨x, hx, hb⟩
      simp only [aop, aBuiltin, aReads, aWrites]
      generalize args.toList = l at mem
      generalize ts.toList = tl
      match tl, l with
      | [], _ => exact Quiet.loc quiet_bad _ _
      | _ :: _ :: _, _ => exact Quiet.loc quiet_bad _ _
      | [t], [] => exact Quiet.loc quiet_bad _ _
      | [t], _ :: _ :: _ => exact Quiet.loc quiet_bad _ _
      | [t], [x] => exact l_clear _ _ _ (fun b hb => mem x (by simp) b hb)
    case cap =>
      simp only [aop, aBuiltin]
      generalize args.toList.map ev = l
      generalize ts.toList = tl
      rcases tl with _ | ⟨t, _ | ⟨_, _⟩⟩
      · exact Quiet.loc quiet_bad _ _
      · rcases l with _ | ⟨x, _ | ⟨_, _⟩⟩
        · exact Quiet.loc quiet_bad _ _
        · exact Quiet.loc (q_cap _ _ _) _ _
        · exact Quiet.loc quiet_bad _ _
      · exact Quiet.loc quiet_bad _ _
    case len =>
      simp only [aop, aBuiltin]
      generalize args.toList.map ev = l
      generalize ts.toList = tl
      rcases tl with _ | ⟨t, _ | ⟨_, _⟩⟩
      · exact Quiet.loc quiet_bad _ _
      · rcases l with _ | ⟨x, _ | ⟨_, _⟩⟩
        · exact Quiet.loc quiet_bad _ _
        · exact Quiet.loc (q_len _ _ _) _ _
        · exact Quiet.loc quiet_bad _ _
      · exact Quiet.loc quiet_bad _ _
    case max =>
      simp only [aop, aBuiltin]
      generalize args.toList.map ev = l
      rcases l with _ | ⟨x, r⟩
      · exact Quiet.loc quiet_bad _ _
      · refine Quiet.loc (fun H H' h => ?_) _ _
        simp only at h ⊢
        cases hm : aMax x r
        · rw [hm] at h; exact h.elim
        · exact ⟨by trivial, by trivial⟩
    case min =>
      simp only [aop, aBuiltin]
      generalize args.toList.map ev = l
      rcases l with _ | ⟨x, r⟩
      · exact Quiet.loc quiet_bad _ _
      · refine Quiet.loc (fun H H' h => ?_) _ _
        simp only at h ⊢
        cases hm : aMin x r
        · rw [hm] at h; exact h.elim
        · exact ⟨by trivial, by trivial⟩
  all_goals exact Quiet.loc quiet_bad _ _

end Go.Proofs.YtlkffgmejcgdbaaDoor

/- Operations whose order is open: a run in the order of the text stands for every order, where what is not ordered is apart. Of no program. -/
namespace Go.Proofs.YtlkffgmejcgdbaaDoor
set_option linter.all false

/-- What is ahead of an operation, by its edges, as bits. -/
def maskF (acc : List Nat) (s : Nat) (e : Edge) : Nat := if Region.binds .any e then s ||| 2 ^ e.on ||| acc.getD e.on 0 else s
def mask (acc : List Nat) (o : Oper) : Nat := o.after.toList.foldl (maskF acc) 0

def befores : List Oper → List Nat → List Nat
  | [], acc => acc
  | o :: r, acc => befores r (acc ++ [mask acc o])

def edgesOk : List Oper → Nat → Bool
  | [], _ => true
  | o :: r, j => o.after.toList.all (fun e => !Region.binds .any e || decide (e.on < j)) && edgesOk r (j + 1)

def tmpsOk (ops : List Oper) : Bool :=
  let B := befores ops []
  edgesOk ops 0 && (List.range ops.length).all fun j => (List.range j).all fun i => (B.getD j 0).testBit i ||
    (match ops[i]?, ops[j]? with | some x, some y => Oper.apart ops.toArray x y | _, _ => true)

abbrev WR := List Nat × List Nat

def offEach (l m : List Nat) : Bool := l.all fun x => !m.contains x

def heapOk (ops : List Oper) (tr : List WR) : Bool :=
  let B := befores ops []
  (List.range ops.length).all fun j => (List.range j).all fun i => (B.getD j 0).testBit i ||
    (match tr[i]?, tr[j]? with | some x, some y => offEach x.2 y.1 && offEach x.2 y.2 && offEach y.2 x.1 | _, _ => true)

theorem befores_spec : ∀ (ops : List Oper) (acc : List Nat), (befores ops acc).length = acc.length + ops.length ∧ (∀ i, i < acc.length → (befores ops acc)[i]? = acc[i]?) ∧
    ∀ j o, ops[j]? = some o → (befores ops acc).getD (acc.length + j) 0 = mask ((befores ops acc).take (acc.length + j)) o
  | [], acc => ⟨by simp [befores], fun i h => rfl, fun j o h => by simp at h⟩
  | o :: r, acc => by
    obtain ⟨h1, h2, h3⟩ := befores_spec r (acc ++ [mask acc o])
    simp only [befores]
    refine ⟨by rw [h1]; simp; omega, fun i hi => ?_, fun j o' hj => ?_⟩
    · rw [h2 i (by simp; omega), List.getElem?_append_left hi]
    · cases j with
      | zero =>
        simp only [List.getElem?_cons_zero, Option.some.injEq] at hj
        subst hj
        have h4 := h2 acc.length (by simp)
        rw [List.getElem?_append_right (Nat.le_refl _)] at h4
        simp only [Nat.sub_self, List.getElem?_cons_zero] at h4
        have h5 : (befores r (acc ++ [mask acc o])).take acc.length = acc := by
          apply List.ext_getElem?
          intro i
          by_cases hi : i < acc.length
          · rw [List.getElem?_take_of_lt hi, h2 i (by simp; omega), List.getElem?_append_left hi]
          · rw [List.getElem?_eq_none (by simp; omega), List.getElem?_eq_none (by omega)]
        rw [Nat.add_zero, h5, List.getD_eq_getElem?_getD, h4]; rfl
      | succ j =>
        have := h3 j o' (by simpa using hj)
        simpa [Nat.add_assoc, Nat.add_comm 1 j] using this

theorem mask_bit {acc : List Nat} {o : Oper} {i : Nat} (h : (mask acc o).testBit i = true) : ∃ e, e ∈ o.after.toList ∧ Region.binds .any e = true ∧ (e.on = i ∨ (acc.getD e.on 0).testBit i = true) := by
  have gen : ∀ (l : List Edge) (s : Nat), (l.foldl (maskF acc) s).testBit i = true → s.testBit i = true ∨ ∃ e, e ∈ l ∧ Region.binds .any e = true ∧ (e.on = i ∨ (acc.getD e.on 0).testBit i = true) := by
    intro l
    induction l with
    | nil => intro s hs; exact .inl hs
    | cons e l ih =>
      intro s hs
      rcases ih _ hs with h | ⟨e', h1, h2⟩
      · by_cases hb : Region.binds .any e = true
        · unfold maskF at h
          rw [if_pos hb] at h
          simp only [Nat.testBit_or, Bool.or_eq_true] at h
          rcases h with (h | h) | h
          · exact .inl h
          · refine .inr ⟨e, by simp, hb, .inl ?_⟩
            rw [Nat.testBit_two_pow] at h; simpa using h
          · exact .inr ⟨e, by simp, hb, .inr h⟩
        · unfold maskF at h; rw [if_neg hb] at h; exact .inl h
      · exact .inr ⟨e', by simp [h1], h2⟩
  rcases gen _ _ h with h | h
  · simp at h
  · exact h

theorem edgesOk_spec : ∀ (ops : List Oper) (k : Nat), edgesOk ops k = true → ∀ (j : Nat) (o : Oper), ops[j]? = some o → ∀ e, e ∈ o.after.toList → Region.binds .any e = true → e.on < k + j
  | [], _, _, j, o, hj, _, _, _ => by simp at hj
  | o :: r, k, h, j, o', hj, e, he, hb => by
    simp only [edgesOk, Bool.and_eq_true, List.all_eq_true, Bool.or_eq_true, Bool.not_eq_true', decide_eq_true_eq] at h
    cases j with
    | zero =>
      simp only [List.getElem?_cons_zero, Option.some.injEq] at hj
      subst hj
      rcases h.1 e he with h1 | h1
      · rw [hb] at h1; cases h1
      · omega
    | succ j =>
      have := edgesOk_spec r (k + 1) h.2 j o' (by simpa using hj) e he hb
      omega

section order
variable {ops : List Oper} (hE : edgesOk ops 0 = true) {L : Nat → Prop}

/-- With an operation all that is ahead of it. -/
def Down (ops : List Oper) (L : Nat → Prop) : Prop := ∀ j o, ops[j]? = some o → L j → ∀ e, e ∈ o.after.toList → Region.binds .any e = true → L e.on

def Bit (ops : List Oper) (j i : Nat) : Prop := ((befores ops []).getD j 0).testBit i = true

include hE in
theorem bit_step {j : Nat} {o : Oper} {i : Nat} (hj : ops[j]? = some o) (h : Bit ops j i) : ∃ e, e ∈ o.after.toList ∧ Region.binds .any e = true ∧ e.on < j ∧ (e.on = i ∨ Bit ops e.on i) := by
  have h1 := (befores_spec ops []).2.2 j o hj
  unfold Bit at h
  simp only [List.length_nil, Nat.zero_add] at h1
  rw [h1] at h
  obtain ⟨e, h2, h3, h4⟩ := mask_bit h
  have h5 := edgesOk_spec ops 0 hE j o hj e h2 h3
  refine ⟨e, h2, h3, by omega, h4.imp id fun h => ?_⟩
  unfold Bit
  rw [List.getD_eq_getElem?_getD] at h ⊢
  rwa [List.getElem?_take_of_lt (by omega)] at h

include hE in
theorem bit_down (hD : Down ops L) : ∀ (j i : Nat), L j → Bit ops j i → L i := by
  intro j
  induction j using Nat.strongRecOn with
  | ind j ih =>
    intro i hj hb
    cases ho : ops[j]? with
    | none =>
      have h1 := (befores_spec ops []).1
      have : ops.length ≤ j := by simpa using ho
      unfold Bit at hb
      rw [List.getD_eq_getElem?_getD, List.getElem?_eq_none (by rw [h1]; simpa using this)] at hb
      simp at hb
    | some o =>
      obtain ⟨e, h1, h2, h3, h4⟩ := bit_step hE ho hb
      have h5 := hD j o ho hj e h1 h2
      rcases h4 with rfl | h4
      · exact h5
      · exact ih _ h3 i h5 h4

include hE in
theorem bit_ready (hD : Down ops L) {i k : Nat} {o : Oper} (ho : ops[i]? = some o) (he : ∀ e, e ∈ o.after.toList → Region.binds .any e = true → L e.on) (hb : Bit ops i k) : L k := by
  obtain ⟨e, h1, h2, h3, h4⟩ := bit_step hE ho hb
  rcases h4 with rfl | h4
  · exact he e h1 h2
  · exact bit_down hE hD _ _ (he e h1 h2) h4

end order

section cur
open Classical
variable {X V : Type} (wr : Nat → X → Prop) (v : Nat → X → V)

/-- What stands at 'x' where just the operations of 'L' among the first 'k' have run. -/
noncomputable def cur (L : Nat → Prop) (x : X) : Nat → V
  | 0 => v 0 x
  | k + 1 => if L k ∧ wr k x then v (k + 1) x else cur L x k

variable {wr v} {L : Nat → Prop} {x : X} {n : Nat} (hv : ∀ k x, k < n → ¬ wr k x → v (k + 1) x = v k x)

include hv in
theorem cur_all : ∀ k, k ≤ n → (∀ j, j < k → L j ∨ ¬ wr j x) → cur wr v L x k = v k x
  | 0, _, _ => rfl
  | k + 1, hk, h => by
    have ih := cur_all k (by omega) (fun j hj => h j (by omega))
    by_cases hc : L k ∧ wr k x
    · simp [cur, hc]
    · simp only [cur, hc, if_false]
      rw [ih, hv k x (by omega)]
      intro hw
      rcases h k (by omega) with h1 | h1
      · exact hc ⟨h1, hw⟩
      · exact h1 hw

theorem cur_stop (i : Nat) : ∀ k, i ≤ k → (∀ j, i ≤ j → j < k → ¬(L j ∧ wr j x)) → cur wr v L x k = cur wr v L x i
  | 0, h, _ => by rw [Nat.le_zero.1 h]
  | k + 1, h, hn => by
    by_cases e : i = k + 1
    · rw [e]
    · have hc := hn k (by omega) (by omega)
      simp only [cur, hc, if_false]
      exact cur_stop i k (by omega) fun j h1 h2 => hn j h1 (by omega)

theorem cur_congr {L' : Nat → Prop} (h : ∀ k, wr k x → (L' k ↔ L k)) : ∀ k, cur wr v L' x k = cur wr v L x k
  | 0 => rfl
  | k + 1 => by
    have : (L' k ∧ wr k x) ↔ (L k ∧ wr k x) := ⟨fun ⟨a, b⟩ => ⟨(h k b).1 a, b⟩, fun ⟨a, b⟩ => ⟨(h k b).2 a, b⟩⟩
    simp only [cur, this, cur_congr h k]

include hv in
/-- What an operation that is next sees is what it sees in the text's order. -/
theorem cur_read {i : Nat} (hi : i ≤ n) (h1 : ∀ j, j < i → L j ∨ ¬ wr j x) (h2 : ∀ j, i ≤ j → ¬(L j ∧ wr j x)) : cur wr v L x n = v i x := by
  rw [cur_stop i n hi (fun j h _ => h2 j h), cur_all hv i hi h1]

theorem cur_write {i : Nat} (hi : i < n) {L' : Nat → Prop} (hL : L' i) (hw : wr i x) (h2 : ∀ j, i < j → ¬(L' j ∧ wr j x)) : cur wr v L' x n = v (i + 1) x := by
  rw [cur_stop (i + 1) n hi (fun j h _ => h2 j h)]
  simp [cur, hL, hw]

end cur

/-- A call whose reach is known: what it reads, what it writes, what comes of it, whatever stands elsewhere. -/
structure DC (P : Program) (g : FuncId) (args : List D) (Rs Ws : List Nat) (H : AHeap) (d : D) (H1 : AHeap) : Prop where
  run : ∀ H', H'.length = H.length → (∀ b, b ∈ Rs ∨ b ∈ Ws → H'[b]? = H[b]?) → ACalls P g args H' fun r H'' => r = d ∧ H''.length = H'.length ∧ (∀ b, b ∈ Ws → H''[b]? = H1[b]?) ∧ ∀ b, b ∉ Ws → H''[b]? = H'[b]?
  len : H1.length = H.length
  keep : ∀ b, b ∉ Ws → H1[b]? = H[b]?

theorem DC.pure {P : Program} {g : FuncId} {args : List D} {d : D} {H : AHeap} (hF : PureF P g args d) (hn : args.all D.noIds = true) : DC P g args [] [] H d H :=
  ⟨fun H' _ _ => pcall hF hn ⟨rfl, rfl, fun b hb => absurd hb (by simp), fun b _ => rfl⟩, rfl, fun b _ => rfl⟩

def tcall (P : Program) (f : D) (args : List D) (H : AHeap) (k : D → AHeap → List Nat → List Nat → Prop) : Prop :=
  match f with
  | .fn (.func g) cap => ∃ Rs Ws d H1, DC P g (args ++ cap) Rs Ws H d H1 ∧ k d H1 Rs Ws
  | _ => False

def tstep (P : Program) (τ : Ty) (o : Oper) (s : Nat) (env : Env) (H : AHeap) (k : D → AHeap → List Nat → List Nat → Prop) : Prop :=
  match o.op with
  | .call { callee := .value f, args, .. } => tcall P (aeval env f) (args.toList.map (aeval env)) H k
  | op => (allocs τ op = true → isVoid H s = true) ∧ (aop τ (aeval env) s H op).ob ∧ k (aop τ (aeval env) s H op).d (aop τ (aeval env) s H op).H (aReads (aeval env) op) (aWrites τ (aeval env) s op)

def trun (P : Program) (τ : Ty) (all : List Oper) (K : Env → AHeap → Prop) : List Oper → Nat → Env → AHeap → List WR → Prop
  | [], _, env, H, tr => heapOk all tr.reverse = true ∧ K env H
  | o :: rest, s, env, H, tr =>
    agd (gsel all env o.guard) (tstep P τ o s env H fun d H' Rs Ws => trun P τ all K rest (nexts τ o s) (put env o.dst d) H' ((Rs, Ws) :: tr)) (trun P τ all K rest (nexts τ o s) (put env o.dst (.tup [])) H (([], []) :: tr))

/-- A region whose order is open: the run in the text's order, and that what is not ordered is apart. -/
def adraw (P : Program) (τ : Ty) : Drw := fun _ ops K env H =>
  tmpsOk ops = true ∧ ∃ x, trun P τ ops K ops H.length env (pad H (countAllocs τ ops + x)) []

/-- What an operation did in the text's order. -/
inductive Rec (P : Program) (τ : Ty) (all : List Oper) (o : Oper) (s : Nat) (env : Env) (H : AHeap) : D → List Nat → List Nat → AHeap → Prop
  | op (hs : gsel all env o.guard = some true) (hc : ∀ f as ts, o.op ≠ .call { callee := .value f, args := as, argTypes := ts }) (hv : allocs τ o.op = true → isVoid H s = true) (ho : (aop τ (aeval env) s H o.op).ob) :
      Rec P τ all o s env H (aop τ (aeval env) s H o.op).d (aReads (aeval env) o.op) (aWrites τ (aeval env) s o.op) (aop τ (aeval env) s H o.op).H
  | call (hs : gsel all env o.guard = some true) (f : Operand) (as : Array Operand) (ts : Array TypeId) (hop : o.op = .call { callee := .value f, args := as, argTypes := ts }) (g : FuncId) (cap : List D) (hf : aeval env f = .fn (.func g) cap)
      (d : D) (Rs Ws : List Nat) (H1 : AHeap) (hdc : DC P g (as.toList.map (aeval env) ++ cap) Rs Ws H d H1) : Rec P τ all o s env H d Rs Ws H1
  | off (hs : gsel all env o.guard = some false) : Rec P τ all o s env H (.tup []) [] [] H

def slotAt (τ : Ty) : List Oper → Nat → Nat → Nat
  | o :: r, s, i + 1 => slotAt τ r (nexts τ o s) i
  | _, s, _ => s

theorem trun_trace {P : Program} {τ : Ty} {all : List Oper} {K : Env → AHeap → Prop} : ∀ (rest : List Oper) (s : Nat) (env : Env) (H : AHeap) (tr : List WR), trun P τ all K rest s env H tr →
    ∃ (E : Nat → Env) (G : Nat → AHeap) (V : Nat → D) (T : Nat → WR), E 0 = env ∧ G 0 = H ∧
      (∀ i o, rest[i]? = some o → E (i + 1) = put (E i) o.dst (V i) ∧ Rec P τ all o (slotAt τ rest s i) (E i) (G i) (V i) (T i).1 (T i).2 (G (i + 1))) ∧
      heapOk all (tr.reverse ++ (List.range rest.length).map T) = true ∧ K (E rest.length) (G rest.length)
  | [], s, env, H, tr, h => ⟨fun _ => env, fun _ => H, fun _ => .any, fun _ => ([], []), rfl, rfl, fun i o hi => by simp at hi, by simpa using h.1, h.2⟩
  | o :: rest, s, env, H, tr, h => by
    have step : ∀ (d : D) (Rs Ws : List Nat) (H1 : AHeap), Rec P τ all o s env H d Rs Ws H1 → trun P τ all K rest (nexts τ o s) (put env o.dst d) H1 ((Rs, Ws) :: tr) →
        ∃ (E : Nat → Env) (G : Nat → AHeap) (V : Nat → D) (T : Nat → WR), E 0 = env ∧ G 0 = H ∧
          (∀ i o', (o :: rest)[i]? = some o' → E (i + 1) = put (E i) o'.dst (V i) ∧ Rec P τ all o' (slotAt τ (o :: rest) s i) (E i) (G i) (V i) (T i).1 (T i).2 (G (i + 1))) ∧
          heapOk all (tr.reverse ++ (List.range (o :: rest).length).map T) = true ∧ K (E (o :: rest).length) (G (o :: rest).length) := by
      intro d Rs Ws H1 hr ht
      obtain ⟨E, G, V, T, h1, h2, h3, h4, h5⟩ := trun_trace rest _ _ _ _ ht
      refine ⟨fun | 0 => env | i + 1 => E i, fun | 0 => H | i + 1 => G i, fun | 0 => d | i + 1 => V i, fun | 0 => (Rs, Ws) | i + 1 => T i, rfl, rfl, fun i o' hi => ?_, ?_, h5⟩
      · cases i with
        | zero =>
          simp only [List.getElem?_cons_zero, Option.some.injEq] at hi
          subst hi
          exact ⟨h1, by simp only [slotAt]; rw [h2]; exact hr⟩
        | succ i => exact h3 i o' (by simpa using hi)
      · rw [List.length_cons, List.range_succ_eq_map, List.map_cons, List.map_map]
        simpa [Function.comp_def] using h4
    unfold trun at h
    cases hg : gsel all env o.guard with
    | none => rw [hg] at h; exact h.elim
    | some b =>
      rw [hg] at h
      cases b with
      | false => exact step _ _ _ _ (.off hg) h
      | true =>
        simp only [agd] at h
        by_cases hc : ∃ f as ts, o.op = .call { callee := .value f, args := as, argTypes := ts }
        · obtain ⟨f, as, ts, hop⟩ := hc
          unfold tstep at h
          rw [hop] at h
          simp only at h
          unfold tcall at h
          cases hd : aeval env f <;> rw [hd] at h <;> try exact h.elim
          rename_i fn cap
          cases fn <;> try exact h.elim
          rename_i g
          obtain ⟨Rs, Ws, d, H1, hdc, hk⟩ := h
          exact step _ _ _ _ (.call hg f as ts hop g cap hd d Rs Ws H1 hdc) hk
        · have h' : (allocs τ o.op = true → isVoid H s = true) ∧ (aop τ (aeval env) s H o.op).ob ∧ trun P τ all K rest (nexts τ o s) (put env o.dst (aop τ (aeval env) s H o.op).d) (aop τ (aeval env) s H o.op).H ((aReads (aeval env) o.op, aWrites τ (aeval env) s o.op) :: tr) := by
            unfold tstep at h
            split at h
            · rename_i f as ts heq; exact absurd ⟨f, as, ts, heq⟩ hc
            · exact h
          exact step _ _ _ _ (.op hg (fun f as ts e => hc ⟨f, as, ts, e⟩) h'.1 h'.2.1) h'.2.2

theorem aop_congr (τ : Ty) {ev ev' : Operand → D} (s : Nat) (H : AHeap) (op : Op) (h : ∀ x, x ∈ op.operands.toList → ev' x = ev x) : aop τ ev' s H op = aop τ ev s H op := by
  have pairs : ∀ ps : Array (Nat × Operand), (∀ x, x ∈ ps.toList.map (fun x => x.2) → ev' x = ev x) → (ps.toList.map fun p => (p.1, ev' p.2)) = (ps.toList.map fun p => (p.1, ev p.2)) := fun ps hp =>
    List.map_congr_left fun p hm => by rw [hp p.2 (List.mem_map.2 ⟨p, hm, rfl⟩)]
  cases op <;> simp only [Op.operands] at h
  case build t ps => simp only [aop, pairs ps (by simpa using h)]
  case buildSlice t n ps => simp only [aop, pairs ps (by simpa using h)]
  case makeFunc fn first cap =>
    cases fn <;> try rfl
    simp only [aop]
    rw [List.map_congr_left (l := cap.toList) fun x hx => h x (by simp; exact .inr (by simpa using hx))]
  case call c =>
    obtain ⟨callee, args, ts⟩ := c
    cases callee <;> try rfl
    rename_i b
    simp only [aop]
    rw [List.map_congr_left (l := args.toList) fun x hx => h x (by simp [Call.operands]; exact by simpa using hx)]
  case slice t x lo hi mx => cases lo <;> cases hi <;> cases mx <;> simp_all [aop]
  all_goals (first | rfl | (simp_all [aop]; done))

theorem slot_written {τ : Ty} {ev : Operand → D} {s : Nat} {op : Op} (h : allocs τ op = true) : s ∈ aWrites τ ev s op := by
  cases op <;> try (cases h; done)
  case alloc => simp [aWrites]
  case box => simp [aWrites]
  case buildSlice => simp [aWrites]
  case makeSlice => simp [aWrites]
  case convert => simp only [allocs] at h; simp [aWrites, h]
  case call c =>
    obtain ⟨callee, args, ts⟩ := c
    cases callee <;> try (cases h; done)
    rename_i b
    cases b <;> try (cases h; done)
    simp [aWrites]

section
variable {P : Program} {τ : Ty} {all : List Oper} {o : Oper} {s : Nat} {env : Env} {H : AHeap} {d : D} {Rs Ws : List Nat} {H1 : AHeap}

theorem Rec.frame (hr : Rec P τ all o s env H d Rs Ws H1) : H1.length = H.length ∧ ∀ b, b ∉ Ws → H1[b]? = H[b]? := by
  cases hr with
  | op hs hc hv ho =>
    obtain ⟨_, _, h3, _, h5⟩ := aop_local τ (aeval env) s o.op H H rfl (fun _ _ => rfl) ho
    exact ⟨h3, h5⟩
  | call hs f as ts hop g cap hf _ _ _ _ hdc => exact ⟨hdc.len, hdc.keep⟩
  | off hs => exact ⟨rfl, fun _ _ => rfl⟩

theorem Rec.go (hr : Rec P τ all o s env H d Rs Ws H1) {env' : Env} {H' : AHeap} (he : ∀ t, t ∈ Oper.looksAt all.toArray o → get env' t = get env t) (hl : H'.length = H.length) (hb : ∀ b, b ∈ Rs ∨ b ∈ Ws → H'[b]? = H[b]?) :
    agd (gsel all env' o.guard) (astep P τ o s env' H' fun d' H'' => d' = d ∧ H''.length = H'.length ∧ (∀ b, b ∈ Ws → H''[b]? = H1[b]?) ∧ ∀ b, b ∉ Ws → H''[b]? = H'[b]?) (D.tup [] = d ∧ (∀ b, b ∈ Ws → H'[b]? = H1[b]?) ∧ ∀ b, b ∉ Ws → H'[b]? = H'[b]?) := by
  have hx : ∀ x, x ∈ o.op.operands.toList → aeval env' x = aeval env x := fun x hx => by
    cases x with
    | tmp t => exact he t (List.mem_append_left _ (List.mem_filterMap.2 ⟨.tmp t, hx, rfl⟩))
    | _ => rfl
  have hg : gsel all env' o.guard = gsel all env o.guard := by
    unfold gsel
    cases hgu : o.guard with
    | none => rfl
    | some gw =>
      obtain ⟨j, want⟩ := gw
      have : ayield all env' j = ayield all env j := by
        unfold ayield
        cases hj : all[j]? with
        | none => rfl
        | some oj =>
          simp only
          cases hd : oj.dst with
          | none => rfl
          | some t => exact he t (List.mem_append_right _ (by simp [hgu, hj, hd]))
      simp only [this]
  rw [hg]
  cases hr with
  | op hs hc hv ho =>
    rw [hs]
    simp only [agd]
    have hav := aop_congr τ s H' o.op hx
    obtain ⟨h1, h2, h3, h4, h5⟩ := aop_local τ (aeval env) s o.op H H' hl hb ho
    unfold astep
    split
    · rename_i f as ts heq; exact absurd heq (hc _ _ _)
    · refine ⟨fun ha => ?_, ?_, ?_⟩
      · have := hv ha
        unfold isVoid at *
        rw [hb s (.inr (slot_written ha))]; exact this
      · rw [hav]; exact h1
      · simp only [hav]; exact ⟨h2, h3, h4, h5⟩
  | call hs f as ts hop g cap hf _ _ _ _ hdc =>
    rw [hs]
    simp only [agd]
    unfold astep
    rw [hop]
    simp only
    have h1 : aeval env' f = .fn (.func g) cap := by rw [← hf]; exact hx f (by rw [hop]; simp [Op.operands, Call.operands])
    have h2 : as.toList.map (aeval env') = as.toList.map (aeval env) := List.map_congr_left fun x hm => hx x (by rw [hop]; simp [Op.operands, Call.operands]; right; simpa using hm)
    rw [h1, h2]
    exact .inl (hdc.run H' hl hb)
  | off hs => rw [hs]; exact ⟨rfl, fun b h => absurd h (by simp), fun _ _ => rfl⟩

end

theorem unl_set : ∀ (l : List Bool) (i : Nat), l[i]? = some false → (l.set i true).count false + 1 = l.count false
  | [], i, h => by simp at h
  | b :: l, 0, h => by
    simp only [List.getElem?_cons_zero, Option.some.injEq] at h
    subst h
    simp
  | b :: l, i + 1, h => by
    have := unl_set l i (by simpa using h)
    simp only [List.set_cons_succ, List.count_cons]
    omega

theorem tmpsOk_spec {ops : List Oper} (h : tmpsOk ops = true) : edgesOk ops 0 = true ∧ ∀ (i j : Nat) (x y : Oper), i < j → ops[i]? = some x → ops[j]? = some y → ¬ Bit ops j i → Oper.apart ops.toArray x y = true := by
  simp only [tmpsOk, Bool.and_eq_true, List.all_eq_true, List.mem_range, Bool.or_eq_true] at h
  refine ⟨h.1, fun i j x y hij hx hy hb => ?_⟩
  rcases h.2 j (List.getElem?_eq_some_iff.1 hy).1 i hij with h1 | h1
  · exact absurd h1 hb
  · rw [hx, hy] at h1; exact h1

theorem offEach_spec {l m : List Nat} (h : offEach l m = true) : ∀ b, b ∈ l → b ∉ m := fun b hb hm => by
  simp only [offEach, List.all_eq_true, Bool.not_eq_true', List.contains_eq_mem, decide_eq_false_iff_not] at h
  exact h b hb hm

theorem heapOk_spec {ops : List Oper} {T : Nat → WR} (h : heapOk ops ((List.range ops.length).map T) = true) : ∀ (i j : Nat), i < j → j < ops.length → ¬ Bit ops j i →
    (∀ b, b ∈ (T i).2 → b ∉ (T j).1 ∧ b ∉ (T j).2) ∧ ∀ b, b ∈ (T j).2 → b ∉ (T i).1 := by
  simp only [heapOk, List.all_eq_true, List.mem_range, Bool.or_eq_true] at h
  intro i j hij hj hb
  rcases h j hj i hij with h1 | h1
  · exact absurd h1 hb
  · simp only [List.getElem?_map, List.getElem?_range hj, List.getElem?_range (Nat.lt_trans hij hj), Option.map_some, Bool.and_eq_true] at h1
    exact ⟨fun b hb => ⟨offEach_spec h1.1.1 b hb, offEach_spec h1.1.2 b hb⟩, fun b hb => offEach_spec h1.2 b hb⟩

section
variable {P : Program} {τ : Ty} {n : Nat} {w0 : World} {S0 : Nat → Prop} {β0 : Bmap} {H0 : AHeap}

theorem Stt.same {env env' : Env} {H : AHeap} {a : Act} {w : World} {S : Nat → Prop} {β : Bmap} (h : Stt n w0 S0 β0 H0 env H a w S β) (he : ∀ t, get env' t = get env t) : Stt n w0 S0 β0 H0 env' H a w S β :=
  ⟨h.defers, h.size, fun t => by rw [he t]; exact h.env t, h.inv, h.evo⟩

theorem any_sound (hT : TyOk P τ) {ops : Array Oper} {Q : Exit → Act → World → Prop} (hok : ops.toList.all (okOper n) = true) (ht : tmpsOk ops.toList = true) {s0 : Nat} {E : Nat → Env} {G : Nat → AHeap} {V : Nat → D} {T : Nat → WR}
    (hrec : ∀ i o, ops.toList[i]? = some o → E (i + 1) = put (E i) o.dst (V i) ∧ Rec P τ ops.toList o (slotAt τ ops.toList s0 i) (E i) (G i) (V i) (T i).1 (T i).2 (G (i + 1)))
    (hh : heapOk ops.toList ((List.range ops.toList.length).map T) = true) (hQ : ∀ a w, Lift n w0 S0 β0 H0 (fun env H => env = E ops.size ∧ H = G ops.size) a w → Q .normal a w) :
    ∀ (fuel : Nat) (listed : Array Bool) (a : Act) (w : World) (env : Env) (H : AHeap) (S : Nat → Prop) (β : Bmap), listed.size = ops.size → listed.toList.count false = fuel → Down ops.toList (fun i => listed.getD i false = true) →
      Stt n w0 S0 β0 H0 env H a w S β → (∀ t, get env t = cur (fun i t => ∃ o, ops.toList[i]? = some o ∧ o.dst = some t) (fun k t => get (E k) t) (fun i => listed.getD i false = true) t ops.size) →
      H.length = (G 0).length → (∀ b, H[b]? = cur (fun i b => i < ops.size ∧ b ∈ (T i).2) (fun k (b : Nat) => (G k)[b]?) (fun i => listed.getD i false = true) b ops.size) →
      wpAny P .any ops Q fuel listed a w := by
  obtain ⟨hE, hap⟩ := tmpsOk_spec ht
  have hhp := heapOk_spec hh
  have hvT : ∀ k t, k < ops.size → ¬ (∃ o, ops.toList[k]? = some o ∧ o.dst = some t) → get (E (k + 1)) t = get (E k) t := fun k t hk hn => by
    have hko : ops.toList[k]? = some ops[k] := by simp [hk]
    rw [(hrec k _ hko).1]
    cases hd : ops[k].dst with
    | none => rfl
    | some u =>
      simp only [put, get]
      have : u ≠ t := fun e => hn ⟨_, hko, by rw [hd, e]⟩
      have : (u == t) = false := by simp [this]
      rw [this]; rfl
  have hvH : ∀ k (b : Nat), k < ops.size → ¬ (k < ops.size ∧ b ∈ (T k).2) → (G (k + 1))[b]? = (G k)[b]? := fun k b hk hn => by
    have hko : ops.toList[k]? = some ops[k] := by simp [hk]
    exact (hrec k _ hko).2.frame.2 b fun hb => hn ⟨hk, hb⟩
  have hlen : ∀ k, k ≤ ops.size → (G k).length = (G 0).length := by
    intro k
    induction k with
    | zero => intro _; rfl
    | succ k ih =>
      intro hk
      have hko : ops.toList[k]? = some ops[k] := by simp [show k < ops.size by omega]
      rw [(hrec k _ hko).2.frame.1]; exact ih (by omega)
  have readyNil : ∀ (listed : Array Bool), listed.size = ops.size → Region.ready .any ops listed = [] → ∀ i, i < ops.size → listed.getD i false = true := by
    intro listed hs hr i
    induction i using Nat.strongRecOn with
    | ind i ih =>
      intro hi
      have hio : ops[i]? = some ops[i] := by simp [hi]
      have hil : listed.getD i true = listed.getD i false := by simp [hs, hi]
      by_cases hc : listed.getD i false = true
      · exact hc
      · exfalso
        have : i ∈ Region.ready .any ops listed := by
          unfold Region.ready
          rw [List.mem_filter]
          refine ⟨List.mem_range.2 hi, ?_⟩
          rw [hil, hio]
          simp only [Bool.not_eq_true] at hc
          simp only [hc, Bool.not_false, Bool.true_and, Option.map_some, Option.getD_some, Array.all_eq_true_iff_forall_mem, Bool.or_eq_true, Bool.not_eq_true']
          intro e he
          by_cases hb : Region.binds .any e = true
          · right
            have := edgesOk_spec _ 0 hE i ops[i] (by simpa using hio) e (by simpa using he) hb
            exact ih e.on (by omega) (by omega)
          · left; simpa using hb
        rw [hr] at this; cases this
  have done : ∀ (listed : Array Bool) (a : Act) (w : World) (env : Env) (H : AHeap) (S : Nat → Prop) (β : Bmap), listed.size = ops.size → Stt n w0 S0 β0 H0 env H a w S β →
      (∀ t, get env t = cur (fun i t => ∃ o, ops.toList[i]? = some o ∧ o.dst = some t) (fun k t => get (E k) t) (fun i => listed.getD i false = true) t ops.size) →
      (∀ b, H[b]? = cur (fun i b => i < ops.size ∧ b ∈ (T i).2) (fun k (b : Nat) => (G k)[b]?) (fun i => listed.getD i false = true) b ops.size) → Region.ready .any ops listed = [] → Q .normal a w := by
    intro listed a w env H S β hs hst hgt hgh hr
    have hall := readyNil listed hs hr
    have hH : H = G ops.size := List.ext_getElem? fun b => by
      rw [hgh b, cur_all (fun k x hk hn => hvH k x hk hn) ops.size (Nat.le_refl _) fun j hj => .inl (hall j hj)]
    refine hQ a w ⟨E ops.size, G ops.size, S, β, ?_, rfl, rfl⟩
    rw [← hH]
    exact hst.same fun t => by rw [hgt t, cur_all (fun k x hk hn => hvT k x hk hn) ops.size (Nat.le_refl _) fun j hj => .inl (hall j hj)]
  intro fuel
  induction fuel with
  | zero =>
    intro listed a w env H S β hs hcount _ hst hgt _ hgh
    have hr : Region.ready .any ops listed = [] := by
      unfold Region.ready
      rw [List.filter_eq_nil_iff]
      intro i hi
      have hlt : i < listed.size := by rw [hs]; exact List.mem_range.1 hi
      have : listed[i] = true := by
        cases hb : listed[i] with
        | true => rfl
        | false =>
          have : false ∈ listed.toList := by rw [← hb]; simp
          exact absurd (List.count_pos_iff.2 this) (by omega)
      simp [hlt, this]
    exact ⟨hr, done listed a w env H S β hs hst hgt hgh hr⟩
  | succ fuel ih =>
    intro listed a w env H S β hs hcount hdown hst hgt hlH hgh
    refine ⟨done listed a w env H S β hs hst hgt hgh, fun i hi => ?_⟩
    unfold Region.ready at hi
    rw [List.mem_filter] at hi
    obtain ⟨hi1, hi2⟩ := hi
    have hin : i < ops.size := List.mem_range.1 hi1
    have hio : ops[i]? = some ops[i] := by simp [hin]
    have hioL : ops.toList[i]? = some ops[i] := by simp [hin]
    rw [hio] at hi2
    simp only [Option.map_some, Option.getD_some, Bool.and_eq_true, Bool.not_eq_true', Array.all_eq_true_iff_forall_mem, Bool.or_eq_true] at hi2
    obtain ⟨hni, hedge⟩ := hi2
    have hil : listed.getD i true = listed.getD i false := by simp [hs, hin]
    rw [hil] at hni
    generalize ho : ops[i] = o at *
    have hedges : ∀ e, e ∈ o.after.toList → Region.binds .any e = true → listed.getD e.on false = true := fun e he hb => by
      rcases hedge e (by simpa using he) with h | h
      · rw [hb] at h; cases h
      · exact h
    obtain ⟨hput, hr⟩ := hrec i o hioL
    have hLi : ¬ (listed.getD i false = true) := by rw [hni]; simp
    -- what is ahead of i and is not listed does not touch what i touches
    have aheadT : ∀ j, j < i → ¬ (listed.getD j false = true) → ∀ oj, ops.toList[j]? = some oj → Oper.apart ops.toList.toArray oj o = true := fun j hj hl oj hoj =>
      hap j i oj o hj hoj hioL fun hb => hl (bit_ready hE hdown hioL hedges hb)
    have behindT : ∀ j, i < j → listed.getD j false = true → ∀ oj, ops.toList[j]? = some oj → Oper.apart ops.toList.toArray o oj = true := fun j hj hl oj hoj =>
      hap i j o oj hj hioL hoj fun hb => hLi (bit_down hE hdown j i hl hb)
    have aheadH : ∀ j, j < i → ¬ (listed.getD j false = true) → ∀ b, b ∈ (T j).2 → b ∉ (T i).1 ∧ b ∉ (T i).2 := fun j hj hl =>
      (hhp j i hj (by simpa using hin) fun hb => hl (bit_ready hE hdown hioL hedges hb)).1
    have behindH : ∀ j, i < j → j < ops.size → listed.getD j false = true → (∀ b, b ∈ (T i).2 → b ∉ (T j).2) ∧ ∀ b, b ∈ (T j).2 → b ∉ (T i).1 := fun j hj hjn hl => by
      have := hhp i j hj (by simpa using hjn) fun hb => hLi (bit_down hE hdown j i hl hb)
      exact ⟨fun b hb => (this.1 b hb).2, this.2⟩
    have seeT : ∀ t, t ∈ Oper.looksAt ops.toList.toArray o → get env t = get (E i) t := fun t htl => by
      rw [hgt t]
      refine cur_read (fun k x hk hn => hvT k x hk hn) (Nat.le_of_lt hin) (fun j hj => ?_) (fun j hj => ?_)
      · by_cases hl : listed.getD j false = true
        · exact .inl hl
        · refine .inr ?_
          rintro ⟨oj, hoj, hd⟩
          exact (Oper.apart_spec (aheadT j hj hl oj hoj)).1 t hd htl
      · rintro ⟨hl, oj, hoj, hd⟩
        rcases Nat.lt_or_eq_of_le hj with hj | rfl
        · exact (Oper.apart_spec (behindT j hj hl oj hoj)).2.2 t hd htl
        · exact hLi hl
    have seeH : ∀ b, b ∈ (T i).1 ∨ b ∈ (T i).2 → H[b]? = (G i)[b]? := fun b hb => by
      rw [hgh b]
      refine cur_read (v := fun k (b : Nat) => (G k)[b]?) (fun k x hk hn => hvH k x hk hn) (Nat.le_of_lt hin) (fun j hj => ?_) (fun j hj => ?_)
      · by_cases hl : listed.getD j false = true
        · exact .inl hl
        · refine .inr ?_
          rintro ⟨_, hw⟩
          have := aheadH j hj hl b hw
          rcases hb with hb | hb
          · exact this.1 hb
          · exact this.2 hb
      · rintro ⟨hl, hjn, hw⟩
        rcases Nat.lt_or_eq_of_le hj with hj | rfl
        · have := behindH j hj hjn hl
          rcases hb with hb | hb
          · exact this.2 b hw hb
          · exact this.1 b hb hw
        · exact hLi hl
    have hgo := hr.go seeT (hlH.trans (hlen i (Nat.le_of_lt hin)).symm) seeH
    -- the listed ones, with i
    have hget : ∀ j, (listed.setIfInBounds i true).getD j false = true ↔ (listed.getD j false = true ∨ j = i) := fun j => by
      by_cases e : j = i
      · subst e; simp [hs, hin]
      · have e' : i ≠ j := fun h => e h.symm
        simp only [Array.getD_eq_getD_getElem?, Array.getElem?_setIfInBounds_ne e', e, or_false]
    have hcount' : (listed.setIfInBounds i true).toList.count false = fuel := by
      have h1 : listed.toList[i]? = some false := by
        have : listed.getD i false = false := by simpa using hLi
        simp only [Array.getElem?_toList]
        rw [Array.getD_eq_getD_getElem?] at this
        rw [Array.getElem?_eq_getElem (by omega)] at this ⊢
        simpa using this
      have := unl_set listed.toList i h1
      simp only [Array.toList_setIfInBounds]
      omega
    have hdown' : Down ops.toList (fun j => (listed.setIfInBounds i true).getD j false = true) := fun j oj hoj hl e he hb => by
      simp only [hget] at hl ⊢
      rcases hl with hl | rfl
      · exact .inl (hdown j oj hoj hl e he hb)
      · rw [hioL] at hoj; cases hoj
        exact .inl (hedges e he hb)
    have next : ∀ (d : D) (H' : AHeap) (a' : Act) (w' : World) (S' : Nat → Prop) (β' : Bmap), Stt n w0 S0 β0 H0 (put env o.dst d) H' a' w' S' β' → d = V i → H'.length = H.length → (∀ b, b ∈ (T i).2 → H'[b]? = (G (i + 1))[b]?) → (∀ b, b ∉ (T i).2 → H'[b]? = H[b]?) →
        wpAny P .any ops Q fuel (listed.setIfInBounds i true) a' w' := by
      intro d H' a' w' S' β' hst' hd hl' hw' hk'
      subst hd
      refine ih (listed.setIfInBounds i true) a' w' _ H' S' β' (by simp [hs]) hcount' hdown' hst' (fun t => ?_) (hl'.trans hlH) (fun b => ?_)
      · by_cases hdt : o.dst = some t
        · rw [cur_write hin ((hget i).2 (.inr rfl)) ⟨o, hioL, hdt⟩ fun j hj => ?_]
          · rw [hput, hdt]; simp [put, get]
          · rintro ⟨hl, oj, hoj, hd⟩
            have hl : listed.getD j false = true := ((hget j).1 hl).resolve_right (by omega)
            exact (Oper.apart_spec (behindT j hj hl oj hoj)).2.1 t hdt hd
        · rw [cur_congr (fun k hk => ?_), ← hgt t]
          · cases hd : o.dst with
            | none => rfl
            | some u =>
              have : (u == t) = false := beq_false_of_ne fun e => hdt (by rw [hd, e])
              simp only [put, get, this, cond_false]
          · rw [hget]
            refine ⟨fun h => h.resolve_right ?_, .inl⟩
            rintro rfl
            obtain ⟨ok, hok, hd⟩ := hk
            rw [hioL] at hok; cases hok
            exact hdt hd
      · by_cases hb : b ∈ (T i).2
        · rw [hw' b hb, cur_write (v := fun k (b : Nat) => (G k)[b]?) hin ((hget i).2 (.inr rfl)) ⟨hin, hb⟩ fun j hj => ?_]
          rintro ⟨hl, hjn, hw⟩
          have hl : listed.getD j false = true := ((hget j).1 hl).resolve_right (by omega)
          exact (behindH j hj hjn hl).1 b hb hw
        · rw [hk' b hb, cur_congr (fun k hk => ?_), ← hgh b]
          rw [hget]
          refine ⟨fun h => h.resolve_right ?_, .inl⟩
          rintro rfl
          exact hb hk.2
    have hoj : okOper n o = true := List.all_eq_true.1 hok o (by have := Array.mem_of_getElem? hio; simpa using this)
    refine op_sound hT hio hoj hst hgo (fun d' H'' a' w' S' β' h' hg => next d' H'' a' w' S' β' h' hg.1 hg.2.1 hg.2.2.1 hg.2.2.2) (fun a' h' hg => next (.tup []) H a' w S β h' hg.1 rfl hg.2.1 hg.2.2)

theorem adraw_sound (hT : TyOk P τ) (hm : P.follows .mixedOrders = true) {env : Env} {H : AHeap} {a : Act} {w : World} {S : Nat → Prop} {β : Bmap} {K : Env → AHeap → Prop} {id : Nat} {ops : Array Oper} {Q : Exit → Act → World → Prop}
    (hok : ops.toList.all (okOper n) = true) (hst : Stt n w0 S0 β0 H0 env H a w S β) (h : adraw P τ id ops.toList K env H) (hQ : ∀ a w, Lift n w0 S0 β0 H0 K a w → Q .normal a w) : (Code.region id ops true).wp P Q a w := by
  obtain ⟨ht, x, hrun⟩ := h
  obtain ⟨E, G, V, T, h1, h2, h3, h4, h5⟩ := trun_trace _ _ _ _ _ hrun
  obtain ⟨k1, k2⟩ := hst.inv.pad (countAllocs τ ops.toList + x)
  have hst' := (hst.step k1 k2).drew
  have hge : ∀ i, (Array.replicate ops.size false).getD i false = false := fun i => by
    simp only [Array.getD_eq_getD_getElem?, Array.getElem?_replicate]
    split <;> rfl
  refine wp_region_any hm ?_
  refine any_sound hT hok ht (s0 := H.length) (E := E) (G := G) (V := V) (T := T) h3 (by simp only [List.reverse_nil, List.nil_append] at h4; exact h4) (fun a w hl => hQ a w ?_) ops.size (Array.replicate ops.size false) a _ env (pad H (countAllocs τ ops.toList + x)) S _ (by simp) (by simp) ?_ hst' (fun t => ?_) (by rw [h2]) (fun b => ?_)
  · obtain ⟨env', H', S', β', hs', he, hH⟩ := hl
    subst he; subst hH
    exact ⟨_, _, S', β', hs', by simpa using h5⟩
  · intro j o hj hl
    rw [hge] at hl; cases hl
  · rw [cur_stop 0 ops.size (Nat.zero_le _) fun j _ _ => by rw [hge]; simp]
    simp only [cur, h1]
  · rw [cur_stop 0 ops.size (Nat.zero_le _) fun j _ _ => by rw [hge]; simp]
    simp only [cur, h2]

theorem wokD (hT : TyOk P τ) (hm : P.follows .mixedOrders = true) {H : AHeap} : WOk P τ n H (Fits H.length) (adraw P τ) :=
  ⟨fun hI hs hf => fits_sound hf hs hI, fun hok hs hd hQ => adraw_sound hT hm hok hs hd hQ⟩

end
end Go.Proofs.YtlkffgmejcgdbaaDoor

/- Regions whose order is open, operation by operation. PRINTED by tools/gen22.py. Of no program. -/
namespace Go.Proofs.YtlkffgmejcgdbaaDoor
set_option linter.all false

section
variable (P : Program) (τ : Ty) (f : Fit) (d : Drw) (k : List It) (Q : AQ) (env : Env) (H : AHeap) (all : List Oper) (s : Nat) (rest : List Oper) (z : List WR)
variable (dst : Option Tmp) (t : TypeId) (pos : String) (aft : Array Edge) (gu : Option (Nat × Bool))

def tr (all : List Oper) (k : List It) (Q : AQ) (l : List Oper) (s : Nat) (env : Env) (H : AHeap) (z : List WR) : Prop := trun P τ all (goN P τ f d k Q) l s env H z

/-- The region's end. -/
def tend (all : List Oper) (k : List It) (Q : AQ) (env : Env) (H : AHeap) (z : List WR) : Prop := heapOk all z.reverse = true ∧ goN P τ f d k Q env H

theorem tr_nil : tr P τ f d all k Q [] s env H z = tend P τ f d all k Q env H z := Eq.trans rfl rfl

def to (all : List Oper) (k : List It) (Q : AQ) (o : Oper) (rest : List Oper) (s : Nat) (env : Env) (H : AHeap) (z : List WR) : Prop :=
  tstep P τ o s env H fun r H' Rs Ws => tr P τ f d all k Q rest (nexts τ o s) (put env o.dst r) H' ((Rs, Ws) :: z)

def tg (all : List Oper) (k : List It) (Q : AQ) (o : Oper) (rest : List Oper) (s : Nat) (env : Env) (H : AHeap) (z : List WR) (y : D) (want : Bool) : Prop :=
  agd (match y with | .bool b => some (b == want) | .tup _ => some false | _ => none) (to P τ f d all k Q o rest s env H z) (tr P τ f d all k Q rest (nexts τ o s) (put env o.dst (.tup [])) H (([], []) :: z))

theorem tr_none (op : Op) : tr P τ f d all k Q (⟨dst, op, t, pos, aft, none⟩ :: rest) s env H z = to P τ f d all k Q ⟨dst, op, t, pos, aft, none⟩ rest s env H z := Eq.trans rfl rfl
theorem tr_some (op : Op) (j : Nat) (want : Bool) :
    tr P τ f d all k Q (⟨dst, op, t, pos, aft, some (j, want)⟩ :: rest) s env H z = tg P τ f d all k Q ⟨dst, op, t, pos, aft, some (j, want)⟩ rest s env H z (ayield all env j) want := Eq.trans rfl rfl
theorem tg_tt (o : Oper) : tg P τ f d all k Q o rest s env H z (.bool true) true = to P τ f d all k Q o rest s env H z := Eq.trans rfl rfl
theorem tg_ff (o : Oper) : tg P τ f d all k Q o rest s env H z (.bool false) false = to P τ f d all k Q o rest s env H z := Eq.trans rfl rfl
theorem tg_tf (o : Oper) : tg P τ f d all k Q o rest s env H z (.bool true) false = tr P τ f d all k Q rest (nexts τ o s) (put env o.dst (.tup [])) H (([], []) :: z) := Eq.trans rfl rfl
theorem tg_u (o : Oper) (l : List D) (want : Bool) : tg P τ f d all k Q o rest s env H z (.tup l) want = tr P τ f d all k Q rest (nexts τ o s) (put env o.dst (.tup [])) H (([], []) :: z) := Eq.trans rfl rfl
theorem tg_ft (o : Oper) : tg P τ f d all k Q o rest s env H z (.bool false) true = tr P τ f d all k Q rest (nexts τ o s) (put env o.dst (.tup [])) H (([], []) :: z) := Eq.trans rfl rfl

/-- What an operation comes to, and its reach, handed on. -/
def tn (all : List Oper) (k : List It) (Q : AQ) (rest : List Oper) (s : Nat) (env : Env) (dst : Option Tmp) (r : R) (y : WR) (z : List WR) : Prop :=
  r.ob ∧ tr P τ f d all k Q rest s (put env dst r.d) r.H (y :: z)

theorem tn_true (x : D) (H' : AHeap) (y : WR) : tn P τ f d all k Q rest s env dst ⟨True, x, H'⟩ y z = tr P τ f d all k Q rest s (put env dst x) H' (y :: z) := by simp [tn]

/-- A call. -/
def tc (all : List Oper) (k : List It) (Q : AQ) (rest : List Oper) (s : Nat) (env : Env) (dst : Option Tmp) (fn : D) (args : List D) (H : AHeap) (z : List WR) : Prop :=
  tcall P fn args H fun r H' Rs Ws => tr P τ f d all k Q rest s (put env dst r) H' ((Rs, Ws) :: z)
def tcS (all : List Oper) (k : List It) (Q : AQ) (rest : List Oper) (s : Nat) (env : Env) (dst : Option Tmp) (g : FuncId) (args : List D) (H : AHeap) (z : List WR) : Prop :=
  ∃ Rs Ws r H1, DC P g args Rs Ws H r H1 ∧ tr P τ f d all k Q rest s (put env dst r) H1 ((Rs, Ws) :: z)
theorem tc_fn (g : FuncId) (cap as : List D) : tc P τ f d all k Q rest s env dst (.fn (.func g) cap) as H z = tcS P τ f d all k Q rest s env dst g (as ++ cap) H z := Eq.trans rfl rfl
theorem to_call (fn : Operand) (as : List Operand) (ts : Array TypeId) :
    to P τ f d all k Q ⟨dst, .call ⟨.value fn, as.toArray, ts⟩, t, pos, aft, gu⟩ rest s env H z = tc P τ f d all k Q rest s env dst (aeval env fn) (as.map (aeval env)) H z := Eq.trans rfl rfl

theorem to_noalloc (o : Oper) (hc : opIsCall o.op = false) (ha : allocs τ o.op = false) :
    to P τ f d all k Q o rest s env H z = tn P τ f d all k Q rest s env o.dst (aop τ (aeval env) s H o.op) (aReads (aeval env) o.op, aWrites τ (aeval env) s o.op) z := by
  unfold to tstep
  split
  · rename_i heq; rw [heq] at hc; simp [opIsCall] at hc
  · simp [tn, ha, nexts]

theorem to_doalloc (o : Oper) (hc : opIsCall o.op = false) (ha : allocs τ o.op = true) :
    to P τ f d all k Q o rest s env H z = (isVoid H s = true ∧ tn P τ f d all k Q rest (s + 1) env o.dst (aop τ (aeval env) s H o.op) (aReads (aeval env) o.op, aWrites τ (aeval env) s o.op) z) := by
  unfold to tstep
  split
  · rename_i heq; rw [heq] at hc; simp [opIsCall] at hc
  · simp [tn, ha, nexts]

theorem to_move (x : Operand) : to P τ f d all k Q ⟨dst, .move x, t, pos, aft, gu⟩ rest s env H z = tr P τ f d all k Q rest s (put env dst (aeval env x)) H (([], []) :: z) := by
  rw [to_noalloc _ _ _ _ _ _ _ _ _ _ _ _ _ rfl rfl]; simp [tn, aop, aReads, aWrites]
theorem to_assign (x : Operand) : to P τ f d all k Q ⟨dst, .assign x, t, pos, aft, gu⟩ rest s env H z = tr P τ f d all k Q rest s (put env dst (aeval env x)) H (([], []) :: z) := by
  rw [to_noalloc _ _ _ _ _ _ _ _ _ _ _ _ _ rfl rfl]; simp [tn, aop, aReads, aWrites]
theorem to_pick (c x y : Operand) : to P τ f d all k Q ⟨dst, .pick c x y, t, pos, aft, gu⟩ rest s env H z = tn P τ f d all k Q rest s env dst (aPick (aeval env c) (aeval env x) (aeval env y) H) ([], []) z := 
  to_noalloc _ _ _ _ _ _ _ _ _ _ _ _ _ rfl rfl
theorem to_alloc (ty : TypeId) : to P τ f d all k Q ⟨dst, .alloc ty, t, pos, aft, gu⟩ rest s env H z = (isVoid H s = true ∧ tn P τ f d all k Q rest (s + 1) env dst (aAlloc τ ty s H) ([], [s]) z) := 
  to_doalloc _ _ _ _ _ _ _ _ _ _ _ _ _ rfl rfl
theorem to_box (ty : TypeId) (x : Operand) : to P τ f d all k Q ⟨dst, .box ty x, t, pos, aft, gu⟩ rest s env H z = (isVoid H s = true ∧ tn P τ f d all k Q rest (s + 1) env dst (aBox (aeval env x) s H) ([], [s]) z) := 
  to_doalloc _ _ _ _ _ _ _ _ _ _ _ _ _ rfl rfl
theorem to_build (ty : TypeId) (ps : List (Nat × Operand)) : to P τ f d all k Q ⟨dst, .build ty ps.toArray, t, pos, aft, gu⟩ rest s env H z = tn P τ f d all k Q rest s env dst (aBuild τ ty (ps.map fun p => (p.1, aeval env p.2)) H) ([], []) z := 
  to_noalloc _ _ _ _ _ _ _ _ _ _ _ _ _ rfl rfl
theorem to_buildSlice (ty : TypeId) (n : Nat) (ps : List (Nat × Operand)) : to P τ f d all k Q ⟨dst, .buildSlice ty n ps.toArray, t, pos, aft, gu⟩ rest s env H z = (isVoid H s = true ∧ tn P τ f d all k Q rest (s + 1) env dst (aBuildSlice τ ty n (ps.map fun p => (p.1, aeval env p.2)) s H) ([], [s]) z) := 
  to_doalloc _ _ _ _ _ _ _ _ _ _ _ _ _ rfl rfl
theorem to_load (ty : TypeId) (x : Operand) : to P τ f d all k Q ⟨dst, .load ty x, t, pos, aft, gu⟩ rest s env H z = tn P τ f d all k Q rest s env dst (aLoad τ ty (aeval env x) H) (ids1 (aeval env x), []) z := 
  to_noalloc _ _ _ _ _ _ _ _ _ _ _ _ _ rfl rfl
theorem to_store (ty : TypeId) (x y : Operand) : to P τ f d all k Q ⟨dst, .store ty x y, t, pos, aft, gu⟩ rest s env H z = tn P τ f d all k Q rest s env dst (aStore τ ty (aeval env x) (aeval env y) H) ([], ids1 (aeval env x)) z := 
  to_noalloc _ _ _ _ _ _ _ _ _ _ _ _ _ rfl rfl
theorem to_nilCheck (x : Operand) : to P τ f d all k Q ⟨dst, .nilCheck x, t, pos, aft, gu⟩ rest s env H z = tn P τ f d all k Q rest s env dst (aNilCheck (aeval env x) H) ([], []) z := 
  to_noalloc _ _ _ _ _ _ _ _ _ _ _ _ _ rfl rfl
theorem to_binOp (op : BinOp) (ty : TypeId) (x y : Operand) (ty' : TypeId) : to P τ f d all k Q ⟨dst, .binOp op ty x y ty', t, pos, aft, gu⟩ rest s env H z = tn P τ f d all k Q rest s env dst (aBinC τ op ty (aeval env x) (aeval env y) (constOp x || constOp y) H) ([], []) z := 
  to_noalloc _ _ _ _ _ _ _ _ _ _ _ _ _ rfl rfl
theorem to_unOp (op : UnOp) (ty : TypeId) (x : Operand) : to P τ f d all k Q ⟨dst, .unOp op ty x, t, pos, aft, gu⟩ rest s env H z = tn P τ f d all k Q rest s env dst (aUn op (aeval env x) H) ([], []) z := 
  to_noalloc _ _ _ _ _ _ _ _ _ _ _ _ _ rfl rfl
theorem to_makeInterface (ty : TypeId) (x : Operand) : to P τ f d all k Q ⟨dst, .makeInterface ty x, t, pos, aft, gu⟩ rest s env H z = tn P τ f d all k Q rest s env dst ⟨(τ ty).td.conc = true, .iface ty (aeval env x), H⟩ ([], []) z := 
  to_noalloc _ _ _ _ _ _ _ _ _ _ _ _ _ rfl rfl
theorem to_makeFunc (g : FuncId) (cap : List Operand) : to P τ f d all k Q ⟨dst, .makeFunc (.func g) #[] cap.toArray, t, pos, aft, gu⟩ rest s env H z = tr P τ f d all k Q rest s (put env dst (.fn (.func g) (cap.map (aeval env)))) H (([], []) :: z) := by
  rw [to_noalloc _ _ _ _ _ _ _ _ _ _ _ _ _ rfl rfl]; simp [tn, aop, aReads, aWrites]
theorem to_makeSlice (ty : TypeId) (x y : Operand) : to P τ f d all k Q ⟨dst, .makeSlice ty x y, t, pos, aft, gu⟩ rest s env H z = (isVoid H s = true ∧ tn P τ f d all k Q rest (s + 1) env dst (aMakeSlice τ ty (aeval env x) (aeval env y) s H) ([], [s]) z) := 
  to_doalloc _ _ _ _ _ _ _ _ _ _ _ _ _ rfl rfl
theorem to_slice (ty : TypeId) (x : Operand) (lo hi mx : Option Operand) : to P τ f d all k Q ⟨dst, .slice ty x lo hi mx, t, pos, aft, gu⟩ rest s env H z = tn P τ f d all k Q rest s env dst (aSlice τ ty (aeval env x) (lo.map (aeval env)) (hi.map (aeval env)) (mx.map (aeval env)) H) (ids1 (aeval env x), []) z := 
  to_noalloc _ _ _ _ _ _ _ _ _ _ _ _ _ rfl rfl
theorem to_fieldAddr (ty : TypeId) (x : Operand) (i : Nat) : to P τ f d all k Q ⟨dst, .fieldAddr ty x i, t, pos, aft, gu⟩ rest s env H z = tn P τ f d all k Q rest s env dst (aFieldAddr τ ty (aeval env x) i H) ([], []) z := 
  to_noalloc _ _ _ _ _ _ _ _ _ _ _ _ _ rfl rfl
theorem to_field (ty : TypeId) (x : Operand) (i : Nat) : to P τ f d all k Q ⟨dst, .field ty x i, t, pos, aft, gu⟩ rest s env H z = tn P τ f d all k Q rest s env dst (aField τ ty (aeval env x) i H) ([], []) z := 
  to_noalloc _ _ _ _ _ _ _ _ _ _ _ _ _ rfl rfl
theorem to_indexAddr (ty : TypeId) (x y : Operand) : to P τ f d all k Q ⟨dst, .indexAddr ty x y, t, pos, aft, gu⟩ rest s env H z = tn P τ f d all k Q rest s env dst (aIndexAddr τ ty (aeval env x) (aeval env y) H) ([], []) z := 
  to_noalloc _ _ _ _ _ _ _ _ _ _ _ _ _ rfl rfl
theorem to_index (ty : TypeId) (x y : Operand) : to P τ f d all k Q ⟨dst, .index ty x y, t, pos, aft, gu⟩ rest s env H z = tn P τ f d all k Q rest s env dst (aIndex τ ty (aeval env x) (aeval env y) H) ([], []) z := 
  to_noalloc _ _ _ _ _ _ _ _ _ _ _ _ _ rfl rfl
theorem to_extract (x : Operand) (i : Nat) : to P τ f d all k Q ⟨dst, .extract x i, t, pos, aft, gu⟩ rest s env H z = tn P τ f d all k Q rest s env dst (aExtract (aeval env x) i H) ([], []) z := 
  to_noalloc _ _ _ _ _ _ _ _ _ _ _ _ _ rfl rfl
theorem to_append (as : List Operand) (ts : List TypeId) : to P τ f d all k Q ⟨dst, .call ⟨.builtin .append, as.toArray, ts.toArray⟩, t, pos, aft, gu⟩ rest s env H z = (isVoid H s = true ∧ tn P τ f d all k Q rest (s + 1) env dst (aBuiltin τ .append ts (as.map (aeval env)) s H) ((as.flatMap fun x => ids1 (aeval env x)), (s :: headIds (aeval env) as)) z) := 
  to_doalloc _ _ _ _ _ _ _ _ _ _ _ _ _ rfl rfl
theorem to_len (as : List Operand) (ts : List TypeId) : to P τ f d all k Q ⟨dst, .call ⟨.builtin .len, as.toArray, ts.toArray⟩, t, pos, aft, gu⟩ rest s env H z = tn P τ f d all k Q rest s env dst (aBuiltin τ .len ts (as.map (aeval env)) s H) ([], []) z := 
  to_noalloc _ _ _ _ _ _ _ _ _ _ _ _ _ rfl rfl
theorem to_cap (as : List Operand) (ts : List TypeId) : to P τ f d all k Q ⟨dst, .call ⟨.builtin .cap, as.toArray, ts.toArray⟩, t, pos, aft, gu⟩ rest s env H z = tn P τ f d all k Q rest s env dst (aBuiltin τ .cap ts (as.map (aeval env)) s H) ([], []) z := 
  to_noalloc _ _ _ _ _ _ _ _ _ _ _ _ _ rfl rfl
theorem to_clear (as : List Operand) (ts : List TypeId) : to P τ f d all k Q ⟨dst, .call ⟨.builtin .clear, as.toArray, ts.toArray⟩, t, pos, aft, gu⟩ rest s env H z = tn P τ f d all k Q rest s env dst (aBuiltin τ .clear ts (as.map (aeval env)) s H) ([], (as.flatMap fun x => ids1 (aeval env x))) z := 
  to_noalloc _ _ _ _ _ _ _ _ _ _ _ _ _ rfl rfl
theorem to_max (as : List Operand) (ts : List TypeId) : to P τ f d all k Q ⟨dst, .call ⟨.builtin .max, as.toArray, ts.toArray⟩, t, pos, aft, gu⟩ rest s env H z = tn P τ f d all k Q rest s env dst (aBuiltin τ .max ts (as.map (aeval env)) s H) ([], []) z := 
  to_noalloc _ _ _ _ _ _ _ _ _ _ _ _ _ rfl rfl
theorem to_min (as : List Operand) (ts : List TypeId) : to P τ f d all k Q ⟨dst, .call ⟨.builtin .min, as.toArray, ts.toArray⟩, t, pos, aft, gu⟩ rest s env H z = tn P τ f d all k Q rest s env dst (aBuiltin τ .min ts (as.map (aeval env)) s H) ([], []) z := 
  to_noalloc _ _ _ _ _ _ _ _ _ _ _ _ _ rfl rfl
theorem to_copy (as : List Operand) (ts : List TypeId) : to P τ f d all k Q ⟨dst, .call ⟨.builtin .copy, as.toArray, ts.toArray⟩, t, pos, aft, gu⟩ rest s env H z = tn P τ f d all k Q rest s env dst (aBuiltin τ .copy ts (as.map (aeval env)) s H) ((as.flatMap fun x => ids1 (aeval env x)), (as.flatMap fun x => ids1 (aeval env x))) z := 
  to_noalloc _ _ _ _ _ _ _ _ _ _ _ _ _ rfl rfl

def tk (P : Program) (τ : Ty) (f : Fit) (d : Drw) (all : List Oper) (k : List It) (Q : AQ) (rest : List Oper) (s : Nat) (env : Env) (dst : Option Tmp) (src ty : TypeId) (x : D) (H : AHeap) (z : List WR) (m : Bool) : Prop :=
  (m = true → isVoid H s = true) ∧ tn P τ f d all k Q rest (bif m then s + 1 else s) env dst (aConv τ src ty x s H) (ids1 x, bif m then [s] else []) z
theorem to_convert (src ty : TypeId) (x : Operand) : to P τ f d all k Q ⟨dst, .convert src ty x, t, pos, aft, gu⟩ rest s env H z = tk P τ f d all k Q rest s env dst src ty (aeval env x) H z (τ ty).td.isSlice := by
  unfold tk
  cases hm : (τ ty).td.isSlice
  · rw [to_noalloc _ _ _ _ _ _ _ _ _ _ _ _ ⟨dst, .convert src ty x, t, pos, aft, gu⟩ rfl hm]; simp [aop, aReads, aWrites, hm]
  · rw [to_doalloc _ _ _ _ _ _ _ _ _ _ _ _ ⟨dst, .convert src ty x, t, pos, aft, gu⟩ rfl hm]; simp [aop, aReads, aWrites, hm]
theorem tk_t (src ty : TypeId) (x : D) : tk P τ f d all k Q rest s env dst src ty x H z true = (isVoid H s = true ∧ tn P τ f d all k Q rest (s + 1) env dst (aConv τ src ty x s H) (ids1 x, [s]) z) := by simp [tk]
theorem tk_f (src ty : TypeId) (x : D) : tk P τ f d all k Q rest s env dst src ty x H z false = tn P τ f d all k Q rest s env dst (aConv τ src ty x s H) (ids1 x, []) z := by simp [tk]

theorem id_ref (b o n y : Nat) : ids1 (.ref b o n y) = [b] := Eq.trans rfl rfl
theorem id_refc (b o n y c : Nat) : ids1 (.refc b o n y c) = [b] := Eq.trans rfl rfl
theorem id_ptr (b o : Nat) : ids1 (.ptr b o) = [b] := Eq.trans rfl rfl
theorem id_cp (cs : List D) : ids1 (.cp cs) = [] := Eq.trans rfl rfl
theorem id_sl (y : Nat) (cs : List D) (t : Bool) : ids1 (.sl y cs t) = [] := Eq.trans rfl rfl
theorem id_nil : ids1 .nil = [] := Eq.trans rfl rfl
theorem id_str (x : List UInt8) : ids1 (.str x) = [] := Eq.trans rfl rfl
theorem id_int (x : IntKind) (y : Int) : ids1 (.int x y) = [] := Eq.trans rfl rfl
end

section
variable {P : Program} {τ : Ty} {f : Fit} {d : Drw} {k : List It} {Q : AQ} {env : Env} {H : AHeap} {all : List Oper} {s : Nat} {rest : List Oper} {o : Oper} {z : List WR}

theorem tg_split {b want : Bool} (h1 : b = true → tg P τ f d all k Q o rest s env H z (.bool true) want) (h2 : b = false → tg P τ f d all k Q o rest s env H z (.bool false) want) : tg P τ f d all k Q o rest s env H z (.bool b) want := by
  cases b
  · exact h2 rfl
  · exact h1 rfl

theorem tn_ob {dst : Option Tmp} {ob : Prop} {v : D} {H' : AHeap} {y : WR} (h1 : ob) (h2 : tr P τ f d all k Q rest s (put env dst v) H' (y :: z)) : tn P τ f d all k Q rest s env dst ⟨ob, v, H'⟩ y z := ⟨h1, h2⟩

theorem tend_ok (h1 : heapOk all z.reverse = true) (h2 : goN P τ f d k Q env H) : tend P τ f d all k Q env H z := ⟨h1, h2⟩

/-- A call of a function of data. -/
theorem tcP {g : FuncId} {args : List D} {x : D} {dst : Option Tmp} (hF : PureF P g args x) (hn : args.all D.noIds = true) (h : tr P τ f d all k Q rest s (put env dst x) H (([], []) :: z)) : tcS P τ f d all k Q rest s env dst g args H z :=
  ⟨[], [], x, H, DC.pure hF hn, h⟩

theorem draw_start {id : Nat} {ops : List Oper} (x : Nat) (h1 : tmpsOk ops = true) (h2 : tr P τ f (adraw P τ) ops k Q ops H.length env (pad H (countAllocs τ ops + x)) []) : adrawS P τ f (adraw P τ) id ops k Q env H :=
  ⟨h1, x, h2⟩

/-- A function of data, by its walk. -/
theorem pureD {g : FuncId} {fn : Func} {c : Code} {args : List D} {x : D} {rs : List ResultVar} (hT : TyOk P τ) (hm : P.follows .mixedOrders = true)
    (hf : P.funcs[g]? = some fn) (hnm : (fn.name == "runtime.NumGoroutine") = false) (hb : fn.body = some c) (hr : fn.results.toList = rs) (hn : args.length ≤ fn.ntmps) (hok : okCode fn.ntmps c = true)
    (h : aw P τ (Fits 0) (adraw P τ) c [] (retQ τ rs fun r H' => Sub (H'.map Blk.fz) r x) (argEnv args 0) []) : PureF P g args x := by
  subst hr
  exact acalls_of_awp hT hf hnm hb hn hok (wokD hT hm) h

theorem callsD {g : FuncId} {fn : Func} {c : Code} {args : List D} {rs : List ResultVar} {H : AHeap} {K : D → AHeap → Prop} (hT : TyOk P τ) (hm : P.follows .mixedOrders = true)
    (hf : P.funcs[g]? = some fn) (hnm : (fn.name == "runtime.NumGoroutine") = false) (hb : fn.body = some c) (hr : fn.results.toList = rs) (hn : args.length ≤ fn.ntmps) (hok : okCode fn.ntmps c = true)
    (h : aw P τ (Fits H.length) (adraw P τ) c [] (retQ τ rs K) (argEnv args 0) H) : ACalls P g args H K := by
  subst hr
  exact acalls_of_awp hT hf hnm hb hn hok (wokD hT hm) h

end
end Go.Proofs.YtlkffgmejcgdbaaDoor
