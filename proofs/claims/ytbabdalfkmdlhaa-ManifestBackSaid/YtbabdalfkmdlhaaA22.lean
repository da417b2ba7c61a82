/- Regions whose order is open, operation by operation. PRINTED by tools/gen22.py. Of no program. -/
import Derived.Test.YtbabdalfkmdlhaaA21
namespace Go.Proofs.Ytbabdalfkmdlhaa
set_option linter.all false

section
variable (P : Program) (τ : Ty) (f : Fit) (d : Drw) (k : List It) (Q : AQ) (env : Env) (H : AHeap) (all : List Oper) (s : Nat) (rest : List Oper) (z : List WR)
variable (dst : Option Tmp) (t : TypeId) (pos : String) (aft : Array Edge) (gu : Option (Nat × Bool))

def tr (all : List Oper) (k : List It) (Q : AQ) (l : List Oper) (s : Nat) (env : Env) (H : AHeap) (z : List WR) : Prop := trun P τ all (goN P τ f d k Q) l s env H z

/-- The region's end. -/
def tend (all : List Oper) (k : List It) (Q : AQ) (env : Env) (H : AHeap) (z : List WR) : Prop := heapOk all z.reverse = true ∧ goN P τ f d k Q env H

theorem tr_nil : tr P τ f d all k Q [] s env H z = tend P τ f d all k Q env H z := Eq.trans rfl rfl

def to (all : List Oper) (k : List It) (Q : AQ) (o : Oper) (rest : List Oper) (s : Nat) (env : Env) (H : AHeap) (z : List WR) : Prop :=
  tstep P τ o s env H fun r H' Rs Ws => tr P τ f d all k Q rest (nexts τ o s) (put env o.dst r) H' ((Rs, Ws) :: z)

def tg (all : List Oper) (k : List It) (Q : AQ) (o : Oper) (rest : List Oper) (s : Nat) (env : Env) (H : AHeap) (z : List WR) (y : D) (want : Bool) : Prop :=
  agd (match y with | .bool b => some (b == want) | .tup _ => some false | _ => none) (to P τ f d all k Q o rest s env H z) (tr P τ f d all k Q rest (nexts τ o s) (put env o.dst (.tup [])) H (([], []) :: z))

theorem tr_none (op : Op) : tr P τ f d all k Q (⟨dst, op, t, pos, aft, none⟩ :: rest) s env H z = to P τ f d all k Q ⟨dst, op, t, pos, aft, none⟩ rest s env H z := Eq.trans rfl rfl
theorem tr_some (op : Op) (j : Nat) (want : Bool) :
    tr P τ f d all k Q (⟨dst, op, t, pos, aft, some (j, want)⟩ :: rest) s env H z = tg P τ f d all k Q ⟨dst, op, t, pos, aft, some (j, want)⟩ rest s env H z (ayield all env j) want := Eq.trans rfl rfl
theorem tg_tt (o : Oper) : tg P τ f d all k Q o rest s env H z (.bool true) true = to P τ f d all k Q o rest s env H z := Eq.trans rfl rfl
theorem tg_ff (o : Oper) : tg P τ f d all k Q o rest s env H z (.bool false) false = to P τ f d all k Q o rest s env H z := Eq.trans rfl rfl
theorem tg_tf (o : Oper) : tg P τ f d all k Q o rest s env H z (.bool true) false = tr P τ f d all k Q rest (nexts τ o s) (put env o.dst (.tup [])) H (([], []) :: z) := Eq.trans rfl rfl
theorem tg_u (o : Oper) (l : List D) (want : Bool) : tg P τ f d all k Q o rest s env H z (.tup l) want = tr P τ f d all k Q rest (nexts τ o s) (put env o.dst (.tup [])) H (([], []) :: z) := Eq.trans rfl rfl
theorem tg_ft (o : Oper) : tg P τ f d all k Q o rest s env H z (.bool false) true = tr P τ f d all k Q rest (nexts τ o s) (put env o.dst (.tup [])) H (([], []) :: z) := Eq.trans rfl rfl

/-- What an operation comes to, and its reach, handed on. -/
def tn (all : List Oper) (k : List It) (Q : AQ) (rest : List Oper) (s : Nat) (env : Env) (dst : Option Tmp) (r : R) (y : WR) (z : List WR) : Prop :=
  r.ob ∧ tr P τ f d all k Q rest s (put env dst r.d) r.H (y :: z)

theorem tn_true (x : D) (H' : AHeap) (y : WR) : tn P τ f d all k Q rest s env dst ⟨True, x, H'⟩ y z = tr P τ f d all k Q rest s (put env dst x) H' (y :: z) := by simp [tn]

/-- A call. -/
def tc (all : List Oper) (k : List It) (Q : AQ) (rest : List Oper) (s : Nat) (env : Env) (dst : Option Tmp) (fn : D) (args : List D) (H : AHeap) (z : List WR) : Prop :=
  tcall P fn args H fun r H' Rs Ws => tr P τ f d all k Q rest s (put env dst r) H' ((Rs, Ws) :: z)
def tcS (all : List Oper) (k : List It) (Q : AQ) (rest : List Oper) (s : Nat) (env : Env) (dst : Option Tmp) (g : FuncId) (args : List D) (H : AHeap) (z : List WR) : Prop :=
  ∃ Rs Ws r H1, DC P g args Rs Ws H r H1 ∧ tr P τ f d all k Q rest s (put env dst r) H1 ((Rs, Ws) :: z)
theorem tc_fn (g : FuncId) (cap as : List D) : tc P τ f d all k Q rest s env dst (.fn (.func g) cap) as H z = tcS P τ f d all k Q rest s env dst g (as ++ cap) H z := Eq.trans rfl rfl
theorem to_call (fn : Operand) (as : List Operand) (ts : Array TypeId) :
    to P τ f d all k Q ⟨dst, .call ⟨.value fn, as.toArray, ts⟩, t, pos, aft, gu⟩ rest s env H z = tc P τ f d all k Q rest s env dst (aeval env fn) (as.map (aeval env)) H z := Eq.trans rfl rfl

theorem to_noalloc (o : Oper) (hc : opIsCall o.op = false) (ha : allocs τ o.op = false) :
    to P τ f d all k Q o rest s env H z = tn P τ f d all k Q rest s env o.dst (aop τ (aeval env) s H o.op) (aReads (aeval env) o.op, aWrites τ (aeval env) s o.op) z := by
  unfold to tstep
  split
  · rename_i heq; rw [heq] at hc; simp [opIsCall] at hc
  · simp [tn, ha, nexts]

theorem to_doalloc (o : Oper) (hc : opIsCall o.op = false) (ha : allocs τ o.op = true) :
    to P τ f d all k Q o rest s env H z = (isVoid H s = true ∧ tn P τ f d all k Q rest (s + 1) env o.dst (aop τ (aeval env) s H o.op) (aReads (aeval env) o.op, aWrites τ (aeval env) s o.op) z) := by
  unfold to tstep
  split
  · rename_i heq; rw [heq] at hc; simp [opIsCall] at hc
  · simp [tn, ha, nexts]

theorem to_move (x : Operand) : to P τ f d all k Q ⟨dst, .move x, t, pos, aft, gu⟩ rest s env H z = tr P τ f d all k Q rest s (put env dst (aeval env x)) H (([], []) :: z) := by
  rw [to_noalloc _ _ _ _ _ _ _ _ _ _ _ _ _ rfl rfl]; simp [tn, aop, aReads, aWrites]
theorem to_assign (x : Operand) : to P τ f d all k Q ⟨dst, .assign x, t, pos, aft, gu⟩ rest s env H z = tr P τ f d all k Q rest s (put env dst (aeval env x)) H (([], []) :: z) := by
  rw [to_noalloc _ _ _ _ _ _ _ _ _ _ _ _ _ rfl rfl]; simp [tn, aop, aReads, aWrites]
theorem to_pick (c x y : Operand) : to P τ f d all k Q ⟨dst, .pick c x y, t, pos, aft, gu⟩ rest s env H z = tn P τ f d all k Q rest s env dst (aPick (aeval env c) (aeval env x) (aeval env y) H) ([], []) z := 
  to_noalloc _ _ _ _ _ _ _ _ _ _ _ _ _ rfl rfl
theorem to_alloc (ty : TypeId) : to P τ f d all k Q ⟨dst, .alloc ty, t, pos, aft, gu⟩ rest s env H z = (isVoid H s = true ∧ tn P τ f d all k Q rest (s + 1) env dst (aAlloc τ ty s H) ([], [s]) z) := 
  to_doalloc _ _ _ _ _ _ _ _ _ _ _ _ _ rfl rfl
theorem to_box (ty : TypeId) (x : Operand) : to P τ f d all k Q ⟨dst, .box ty x, t, pos, aft, gu⟩ rest s env H z = (isVoid H s = true ∧ tn P τ f d all k Q rest (s + 1) env dst (aBox (aeval env x) s H) ([], [s]) z) := 
  to_doalloc _ _ _ _ _ _ _ _ _ _ _ _ _ rfl rfl
theorem to_build (ty : TypeId) (ps : List (Nat × Operand)) : to P τ f d all k Q ⟨dst, .build ty ps.toArray, t, pos, aft, gu⟩ rest s env H z = tn P τ f d all k Q rest s env dst (aBuild τ ty (ps.map fun p => (p.1, aeval env p.2)) H) ([], []) z := 
  to_noalloc _ _ _ _ _ _ _ _ _ _ _ _ _ rfl rfl
theorem to_buildSlice (ty : TypeId) (n : Nat) (ps : List (Nat × Operand)) : to P τ f d all k Q ⟨dst, .buildSlice ty n ps.toArray, t, pos, aft, gu⟩ rest s env H z = (isVoid H s = true ∧ tn P τ f d all k Q rest (s + 1) env dst (aBuildSlice τ ty n (ps.map fun p => (p.1, aeval env p.2)) s H) ([], [s]) z) := 
  to_doalloc _ _ _ _ _ _ _ _ _ _ _ _ _ rfl rfl
theorem to_load (ty : TypeId) (x : Operand) : to P τ f d all k Q ⟨dst, .load ty x, t, pos, aft, gu⟩ rest s env H z = tn P τ f d all k Q rest s env dst (aLoad τ ty (aeval env x) H) (ids1 (aeval env x), []) z := 
  to_noalloc _ _ _ _ _ _ _ _ _ _ _ _ _ rfl rfl
theorem to_store (ty : TypeId) (x y : Operand) : to P τ f d all k Q ⟨dst, .store ty x y, t, pos, aft, gu⟩ rest s env H z = tn P τ f d all k Q rest s env dst (aStore τ ty (aeval env x) (aeval env y) H) ([], ids1 (aeval env x)) z := 
  to_noalloc _ _ _ _ _ _ _ _ _ _ _ _ _ rfl rfl
theorem to_nilCheck (x : Operand) : to P τ f d all k Q ⟨dst, .nilCheck x, t, pos, aft, gu⟩ rest s env H z = tn P τ f d all k Q rest s env dst (aNilCheck (aeval env x) H) ([], []) z := 
  to_noalloc _ _ _ _ _ _ _ _ _ _ _ _ _ rfl rfl
theorem to_binOp (op : BinOp) (ty : TypeId) (x y : Operand) (ty' : TypeId) : to P τ f d all k Q ⟨dst, .binOp op ty x y ty', t, pos, aft, gu⟩ rest s env H z = tn P τ f d all k Q rest s env dst (aBin τ op ty (aeval env x) (aeval env y) H) ([], []) z := 
  to_noalloc _ _ _ _ _ _ _ _ _ _ _ _ _ rfl rfl
theorem to_unOp (op : UnOp) (ty : TypeId) (x : Operand) : to P τ f d all k Q ⟨dst, .unOp op ty x, t, pos, aft, gu⟩ rest s env H z = tn P τ f d all k Q rest s env dst (aUn op (aeval env x) H) ([], []) z := 
  to_noalloc _ _ _ _ _ _ _ _ _ _ _ _ _ rfl rfl
theorem to_makeFunc (g : FuncId) (cap : List Operand) : to P τ f d all k Q ⟨dst, .makeFunc (.func g) #[] cap.toArray, t, pos, aft, gu⟩ rest s env H z = tr P τ f d all k Q rest s (put env dst (.fn (.func g) (cap.map (aeval env)))) H (([], []) :: z) := by
  rw [to_noalloc _ _ _ _ _ _ _ _ _ _ _ _ _ rfl rfl]; simp [tn, aop, aReads, aWrites]
theorem to_makeSlice (ty : TypeId) (x y : Operand) : to P τ f d all k Q ⟨dst, .makeSlice ty x y, t, pos, aft, gu⟩ rest s env H z = (isVoid H s = true ∧ tn P τ f d all k Q rest (s + 1) env dst (aMakeSlice τ ty (aeval env x) (aeval env y) s H) ([], [s]) z) := 
  to_doalloc _ _ _ _ _ _ _ _ _ _ _ _ _ rfl rfl
theorem to_slice (ty : TypeId) (x : Operand) (lo hi mx : Option Operand) : to P τ f d all k Q ⟨dst, .slice ty x lo hi mx, t, pos, aft, gu⟩ rest s env H z = tn P τ f d all k Q rest s env dst (aSlice τ ty (aeval env x) (lo.map (aeval env)) (hi.map (aeval env)) (mx.map (aeval env)) H) (ids1 (aeval env x), []) z := 
  to_noalloc _ _ _ _ _ _ _ _ _ _ _ _ _ rfl rfl
theorem to_fieldAddr (ty : TypeId) (x : Operand) (i : Nat) : to P τ f d all k Q ⟨dst, .fieldAddr ty x i, t, pos, aft, gu⟩ rest s env H z = tn P τ f d all k Q rest s env dst (aFieldAddr τ ty (aeval env x) i H) ([], []) z := 
  to_noalloc _ _ _ _ _ _ _ _ _ _ _ _ _ rfl rfl
theorem to_field (ty : TypeId) (x : Operand) (i : Nat) : to P τ f d all k Q ⟨dst, .field ty x i, t, pos, aft, gu⟩ rest s env H z = tn P τ f d all k Q rest s env dst (aField τ ty (aeval env x) i H) ([], []) z := 
  to_noalloc _ _ _ _ _ _ _ _ _ _ _ _ _ rfl rfl
theorem to_indexAddr (ty : TypeId) (x y : Operand) : to P τ f d all k Q ⟨dst, .indexAddr ty x y, t, pos, aft, gu⟩ rest s env H z = tn P τ f d all k Q rest s env dst (aIndexAddr τ ty (aeval env x) (aeval env y) H) ([], []) z := 
  to_noalloc _ _ _ _ _ _ _ _ _ _ _ _ _ rfl rfl
theorem to_index (ty : TypeId) (x y : Operand) : to P τ f d all k Q ⟨dst, .index ty x y, t, pos, aft, gu⟩ rest s env H z = tn P τ f d all k Q rest s env dst (aIndex τ ty (aeval env x) (aeval env y) H) ([], []) z := 
  to_noalloc _ _ _ _ _ _ _ _ _ _ _ _ _ rfl rfl
theorem to_extract (x : Operand) (i : Nat) : to P τ f d all k Q ⟨dst, .extract x i, t, pos, aft, gu⟩ rest s env H z = tn P τ f d all k Q rest s env dst (aExtract (aeval env x) i H) ([], []) z := 
  to_noalloc _ _ _ _ _ _ _ _ _ _ _ _ _ rfl rfl
theorem to_append (as : List Operand) (ts : List TypeId) : to P τ f d all k Q ⟨dst, .call ⟨.builtin .append, as.toArray, ts.toArray⟩, t, pos, aft, gu⟩ rest s env H z = (isVoid H s = true ∧ tn P τ f d all k Q rest (s + 1) env dst (aBuiltin τ .append ts (as.map (aeval env)) s H) ((as.flatMap fun x => ids1 (aeval env x)), (s :: as.flatMap fun x => ids1 (aeval env x))) z) := 
  to_doalloc _ _ _ _ _ _ _ _ _ _ _ _ _ rfl rfl
theorem to_len (as : List Operand) (ts : List TypeId) : to P τ f d all k Q ⟨dst, .call ⟨.builtin .len, as.toArray, ts.toArray⟩, t, pos, aft, gu⟩ rest s env H z = tn P τ f d all k Q rest s env dst (aBuiltin τ .len ts (as.map (aeval env)) s H) ([], []) z := 
  to_noalloc _ _ _ _ _ _ _ _ _ _ _ _ _ rfl rfl
theorem to_max (as : List Operand) (ts : List TypeId) : to P τ f d all k Q ⟨dst, .call ⟨.builtin .max, as.toArray, ts.toArray⟩, t, pos, aft, gu⟩ rest s env H z = tn P τ f d all k Q rest s env dst (aBuiltin τ .max ts (as.map (aeval env)) s H) ([], []) z := 
  to_noalloc _ _ _ _ _ _ _ _ _ _ _ _ _ rfl rfl
theorem to_min (as : List Operand) (ts : List TypeId) : to P τ f d all k Q ⟨dst, .call ⟨.builtin .min, as.toArray, ts.toArray⟩, t, pos, aft, gu⟩ rest s env H z = tn P τ f d all k Q rest s env dst (aBuiltin τ .min ts (as.map (aeval env)) s H) ([], []) z := 
  to_noalloc _ _ _ _ _ _ _ _ _ _ _ _ _ rfl rfl
theorem to_copy (as : List Operand) (ts : List TypeId) : to P τ f d all k Q ⟨dst, .call ⟨.builtin .copy, as.toArray, ts.toArray⟩, t, pos, aft, gu⟩ rest s env H z = tn P τ f d all k Q rest s env dst (aBuiltin τ .copy ts (as.map (aeval env)) s H) ((as.flatMap fun x => ids1 (aeval env x)), (as.flatMap fun x => ids1 (aeval env x))) z := 
  to_noalloc _ _ _ _ _ _ _ _ _ _ _ _ _ rfl rfl

def tk (P : Program) (τ : Ty) (f : Fit) (d : Drw) (all : List Oper) (k : List It) (Q : AQ) (rest : List Oper) (s : Nat) (env : Env) (dst : Option Tmp) (src ty : TypeId) (x : D) (H : AHeap) (z : List WR) (m : Bool) : Prop :=
  (m = true → isVoid H s = true) ∧ tn P τ f d all k Q rest (bif m then s + 1 else s) env dst (aConv τ src ty x s H) (ids1 x, bif m then [s] else []) z
theorem to_convert (src ty : TypeId) (x : Operand) : to P τ f d all k Q ⟨dst, .convert src ty x, t, pos, aft, gu⟩ rest s env H z = tk P τ f d all k Q rest s env dst src ty (aeval env x) H z (τ ty).td.isSlice := by
  unfold tk
  cases hm : (τ ty).td.isSlice
  · rw [to_noalloc _ _ _ _ _ _ _ _ _ _ _ _ ⟨dst, .convert src ty x, t, pos, aft, gu⟩ rfl hm]; simp [aop, aReads, aWrites, hm]
  · rw [to_doalloc _ _ _ _ _ _ _ _ _ _ _ _ ⟨dst, .convert src ty x, t, pos, aft, gu⟩ rfl hm]; simp [aop, aReads, aWrites, hm]
theorem tk_t (src ty : TypeId) (x : D) : tk P τ f d all k Q rest s env dst src ty x H z true = (isVoid H s = true ∧ tn P τ f d all k Q rest (s + 1) env dst (aConv τ src ty x s H) (ids1 x, [s]) z) := by simp [tk]
theorem tk_f (src ty : TypeId) (x : D) : tk P τ f d all k Q rest s env dst src ty x H z false = tn P τ f d all k Q rest s env dst (aConv τ src ty x s H) (ids1 x, []) z := by simp [tk]

theorem id_ref (b o n y : Nat) : ids1 (.ref b o n y) = [b] := Eq.trans rfl rfl
theorem id_ptr (b o : Nat) : ids1 (.ptr b o) = [b] := Eq.trans rfl rfl
theorem id_cp (cs : List D) : ids1 (.cp cs) = [] := Eq.trans rfl rfl
theorem id_sl (y : Nat) (cs : List D) (t : Bool) : ids1 (.sl y cs t) = [] := Eq.trans rfl rfl
theorem id_nil : ids1 .nil = [] := Eq.trans rfl rfl
theorem id_str (x : List UInt8) : ids1 (.str x) = [] := Eq.trans rfl rfl
theorem id_int (x : IntKind) (y : Int) : ids1 (.int x y) = [] := Eq.trans rfl rfl
end

section
variable {P : Program} {τ : Ty} {f : Fit} {d : Drw} {k : List It} {Q : AQ} {env : Env} {H : AHeap} {all : List Oper} {s : Nat} {rest : List Oper} {o : Oper} {z : List WR}

theorem tg_split {b want : Bool} (h1 : b = true → tg P τ f d all k Q o rest s env H z (.bool true) want) (h2 : b = false → tg P τ f d all k Q o rest s env H z (.bool false) want) : tg P τ f d all k Q o rest s env H z (.bool b) want := by
  cases b
  · exact h2 rfl
  · exact h1 rfl

theorem tn_ob {dst : Option Tmp} {ob : Prop} {v : D} {H' : AHeap} {y : WR} (h1 : ob) (h2 : tr P τ f d all k Q rest s (put env dst v) H' (y :: z)) : tn P τ f d all k Q rest s env dst ⟨ob, v, H'⟩ y z := ⟨h1, h2⟩

theorem tend_ok (h1 : heapOk all z.reverse = true) (h2 : goN P τ f d k Q env H) : tend P τ f d all k Q env H z := ⟨h1, h2⟩

/-- A call of a function of data. -/
theorem tcP {g : FuncId} {args : List D} {x : D} {dst : Option Tmp} (hF : PureF P g args x) (hn : args.all D.noIds = true) (h : tr P τ f d all k Q rest s (put env dst x) H (([], []) :: z)) : tcS P τ f d all k Q rest s env dst g args H z :=
  ⟨[], [], x, H, DC.pure hF hn, h⟩

theorem draw_start {id : Nat} {ops : List Oper} (x : Nat) (h1 : tmpsOk ops = true) (h2 : tr P τ f (adraw P τ) ops k Q ops H.length env (pad H (countAllocs τ ops + x)) []) : adrawS P τ f (adraw P τ) id ops k Q env H :=
  ⟨h1, x, h2⟩

/-- A function of data, by its walk. -/
theorem pureD {g : FuncId} {fn : Func} {c : Code} {args : List D} {x : D} {rs : List ResultVar} (hT : TyOk P τ) (hm : P.follows .mixedOrders = true)
    (hf : P.funcs[g]? = some fn) (hnm : (fn.name == "runtime.NumGoroutine") = false) (hb : fn.body = some c) (hr : fn.results.toList = rs) (hn : args.length ≤ fn.ntmps) (hok : okCode fn.ntmps c = true)
    (h : aw P τ (Fits 0) (adraw P τ) c [] (retQ τ rs fun r H' => Sub (H'.map Blk.fz) r x) (argEnv args 0) []) : PureF P g args x := by
  subst hr
  exact acalls_of_awp hT hf hnm hb hn hok (wokD hT hm) h

theorem callsD {g : FuncId} {fn : Func} {c : Code} {args : List D} {rs : List ResultVar} {H : AHeap} {K : D → AHeap → Prop} (hT : TyOk P τ) (hm : P.follows .mixedOrders = true)
    (hf : P.funcs[g]? = some fn) (hnm : (fn.name == "runtime.NumGoroutine") = false) (hb : fn.body = some c) (hr : fn.results.toList = rs) (hn : args.length ≤ fn.ntmps) (hok : okCode fn.ntmps c = true)
    (h : aw P τ (Fits H.length) (adraw P τ) c [] (retQ τ rs K) (argEnv args 0) H) : ACalls P g args H K := by
  subst hr
  exact acalls_of_awp hT hf hnm hb hn hok (wokD hT hm) h

end
end Go.Proofs.Ytbabdalfkmdlhaa
