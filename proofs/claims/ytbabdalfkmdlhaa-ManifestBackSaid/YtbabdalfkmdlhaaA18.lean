/- One operation after the other, by its shape: what the walk by simp leans on. Of no program. -/
import Derived.Test.YtbabdalfkmdlhaaA17
namespace Go.Proofs.Ytbabdalfkmdlhaa
set_option linter.all false

section
variable (P : Program) (τ : Ty) (f : Fit) (d : Drw) (k : List It) (Q : AQ) (env : Env) (H : AHeap) (all : List Oper) (s : Nat) (rest : List Oper)
variable (dst : Option Tmp) (t : TypeId) (pos : String) (aft : Array Edge) (gu : Option (Nat × Bool))

theorem np {p q : Prop} : ((False → p) ∧ q) = q := by simp
theorem tp {p : Prop} : (True ∧ p) = p := by simp

theorem ao_noalloc (o : Oper) (hc : opIsCall o.op = false) (ha : allocs τ o.op = false) :
    ao P τ f d all k Q o rest s env H = an P τ f d all k Q rest s env o.dst (aop τ (aeval env) s H o.op) := by
  rw [ao_op P τ f d k Q env H all s rest o hc]
  simp [ha, nexts]

theorem ao_doalloc (o : Oper) (hc : opIsCall o.op = false) (ha : allocs τ o.op = true) :
    ao P τ f d all k Q o rest s env H = (isVoid H s = true ∧ an P τ f d all k Q rest (s + 1) env o.dst (aop τ (aeval env) s H o.op)) := by
  rw [ao_op P τ f d k Q env H all s rest o hc]
  simp [ha, nexts]

theorem ao_move (x : Operand) : ao P τ f d all k Q ⟨dst, .move x, t, pos, aft, gu⟩ rest s env H = ar P τ f d all k Q rest s (put env dst (aeval env x)) H := by
  rw [ao_noalloc _ _ _ _ _ _ _ _ _ _ _ _ rfl rfl]; exact tp
theorem ao_assign (x : Operand) : ao P τ f d all k Q ⟨dst, .assign x, t, pos, aft, gu⟩ rest s env H = ar P τ f d all k Q rest s (put env dst (aeval env x)) H := by
  rw [ao_noalloc _ _ _ _ _ _ _ _ _ _ _ _ rfl rfl]; exact tp

theorem cells_int (ik : IntKind) (n : Int) : (D.int ik n).cells = [D.int ik n] := Eq.trans rfl rfl
theorem cells_bool (b : Bool) : (D.bool b).cells = [D.bool b] := Eq.trans rfl rfl
theorem cells_str (x : List UInt8) : (D.str x).cells = [D.str x] := Eq.trans rfl rfl
theorem cells_agg (cs : List D) : (D.agg cs).cells = cs := Eq.trans rfl rfl
theorem cells_nil : D.nil.cells = [D.nil] := Eq.trans rfl rfl
theorem cells_sl (z : Nat) (es : List D) (t : Bool) : (D.sl z es t).cells = [D.sl z es t] := Eq.trans rfl rfl
theorem cells_ref (b o n z : Nat) : (D.ref b o n z).cells = [D.ref b o n z] := Eq.trans rfl rfl
theorem cells_cp (cs : List D) : (D.cp cs).cells = [D.cp cs] := Eq.trans rfl rfl
theorem cells_ptr (b o : Nat) : (D.ptr b o).cells = [D.ptr b o] := Eq.trans rfl rfl
theorem cells_nilp : D.nilp.cells = [D.nilp] := Eq.trans rfl rfl
theorem cells_nilf : D.nilf.cells = [D.nilf] := Eq.trans rfl rfl
theorem cells_fn (g : Fn) (cs : List D) : (D.fn g cs).cells = [D.fn g cs] := Eq.trans rfl rfl
theorem cells_niface : D.niface.cells = [D.niface] := Eq.trans rfl rfl
theorem cells_any : D.any.cells = [D.any] := Eq.trans rfl rfl
theorem cells_iface (t : TypeId) (x : D) : (D.iface t x).cells = [D.iface t x] := Eq.trans rfl rfl

theorem getD_map {α β : Type} (g : α → β) (l : List α) (i : Nat) (x : β) (h : i < l.length) : (l.map g).getD i x = g l[i] := by
  simp [List.getD, h]

/-- A choice by a bool. -/
def aPick (c a b : D) (H : AHeap) : R := match c with | .bool true => ⟨True, a, H⟩ | .bool false => ⟨True, b, H⟩ | _ => bad
theorem ao_pick (c x y : Operand) : ao P τ f d all k Q ⟨dst, .pick c x y, t, pos, aft, gu⟩ rest s env H = an P τ f d all k Q rest s env dst (aPick (aeval env c) (aeval env x) (aeval env y) H) :=
  ao_noalloc _ _ _ _ _ _ _ _ _ _ _ _ rfl rfl
theorem aPick_t (a b : D) : aPick (.bool true) a b H = ⟨True, a, H⟩ := Eq.trans rfl rfl
theorem aPick_f (a b : D) : aPick (.bool false) a b H = ⟨True, b, H⟩ := Eq.trans rfl rfl
theorem aPick_b (c x y : Bool) : aPick (.bool c) (.bool x) (.bool y) H = ⟨True, .bool (bif c then x else y), H⟩ := by cases c <;> rfl
theorem aPick_i (c : Bool) (k : IntKind) (x y : Int) : aPick (.bool c) (.int k x) (.int k y) H = ⟨True, .int k (bif c then x else y), H⟩ := by cases c <;> rfl

theorem ao_alloc (ty : TypeId) : ao P τ f d all k Q ⟨dst, .alloc ty, t, pos, aft, gu⟩ rest s env H = (isVoid H s = true ∧ an P τ f d all k Q rest (s + 1) env dst (aAlloc τ ty s H)) :=
  ao_doalloc _ _ _ _ _ _ _ _ _ _ _ _ rfl rfl
theorem ao_box (ty : TypeId) (x : Operand) : ao P τ f d all k Q ⟨dst, .box ty x, t, pos, aft, gu⟩ rest s env H = (isVoid H s = true ∧ an P τ f d all k Q rest (s + 1) env dst (aBox (aeval env x) s H)) :=
  ao_doalloc _ _ _ _ _ _ _ _ _ _ _ _ rfl rfl
theorem ao_build (ty : TypeId) (ps : List (Nat × Operand)) : ao P τ f d all k Q ⟨dst, .build ty ps.toArray, t, pos, aft, gu⟩ rest s env H = an P τ f d all k Q rest s env dst (aBuild τ ty (ps.map fun p => (p.1, aeval env p.2)) H) :=
  ao_noalloc _ _ _ _ _ _ _ _ _ _ _ _ rfl rfl
theorem ao_buildSlice (ty : TypeId) (n : Nat) (ps : List (Nat × Operand)) : ao P τ f d all k Q ⟨dst, .buildSlice ty n ps.toArray, t, pos, aft, gu⟩ rest s env H = (isVoid H s = true ∧ an P τ f d all k Q rest (s + 1) env dst (aBuildSlice τ ty n (ps.map fun p => (p.1, aeval env p.2)) s H)) :=
  ao_doalloc _ _ _ _ _ _ _ _ _ _ _ _ rfl rfl
theorem ao_load (ty : TypeId) (x : Operand) : ao P τ f d all k Q ⟨dst, .load ty x, t, pos, aft, gu⟩ rest s env H = an P τ f d all k Q rest s env dst (aLoad τ ty (aeval env x) H) :=
  ao_noalloc _ _ _ _ _ _ _ _ _ _ _ _ rfl rfl
theorem ao_store (ty : TypeId) (x y : Operand) : ao P τ f d all k Q ⟨dst, .store ty x y, t, pos, aft, gu⟩ rest s env H = an P τ f d all k Q rest s env dst (aStore τ ty (aeval env x) (aeval env y) H) :=
  ao_noalloc _ _ _ _ _ _ _ _ _ _ _ _ rfl rfl

def aNilCheck (x : D) (H : AHeap) : R := match x with | .ptr b o => ⟨True, .ptr b o, H⟩ | .cp cs => ⟨True, .cp cs, H⟩ | .fn (.func f) cap => ⟨True, .fn (.func f) cap, H⟩ | _ => bad
theorem ao_nilCheck (x : Operand) : ao P τ f d all k Q ⟨dst, .nilCheck x, t, pos, aft, gu⟩ rest s env H = an P τ f d all k Q rest s env dst (aNilCheck (aeval env x) H) :=
  ao_noalloc _ _ _ _ _ _ _ _ _ _ _ _ rfl rfl
theorem ao_binOp (op : BinOp) (ty : TypeId) (x y : Operand) (ty' : TypeId) : ao P τ f d all k Q ⟨dst, .binOp op ty x y ty', t, pos, aft, gu⟩ rest s env H = an P τ f d all k Q rest s env dst (aBin τ op ty (aeval env x) (aeval env y) H) :=
  ao_noalloc _ _ _ _ _ _ _ _ _ _ _ _ rfl rfl
theorem ao_unOp (op : UnOp) (ty : TypeId) (x : Operand) : ao P τ f d all k Q ⟨dst, .unOp op ty x, t, pos, aft, gu⟩ rest s env H = an P τ f d all k Q rest s env dst (aUn op (aeval env x) H) :=
  ao_noalloc _ _ _ _ _ _ _ _ _ _ _ _ rfl rfl

/-- A conversion: of a text to bytes it makes a block. -/
def ak (P : Program) (τ : Ty) (f : Fit) (d : Drw) (all : List Oper) (k : List It) (Q : AQ) (rest : List Oper) (s : Nat) (env : Env) (dst : Option Tmp) (src ty : TypeId) (x : D) (H : AHeap) (m : Bool) : Prop :=
  (m = true → isVoid H s = true) ∧ an P τ f d all k Q rest (bif m then s + 1 else s) env dst (aConv τ src ty x s H)
theorem ao_convert (src ty : TypeId) (x : Operand) : ao P τ f d all k Q ⟨dst, .convert src ty x, t, pos, aft, gu⟩ rest s env H = ak P τ f d all k Q rest s env dst src ty (aeval env x) H (τ ty).td.isSlice :=
  ao_op _ _ _ _ _ _ _ _ _ _ _ _ rfl
theorem ak_t (src ty : TypeId) (x : D) : ak P τ f d all k Q rest s env dst src ty x H true = (isVoid H s = true ∧ an P τ f d all k Q rest (s + 1) env dst (aConv τ src ty x s H)) := by simp [ak]
theorem ak_f (src ty : TypeId) (x : D) : ak P τ f d all k Q rest s env dst src ty x H false = an P τ f d all k Q rest s env dst (aConv τ src ty x s H) := by simp [ak]

theorem ao_makeFunc (g : FuncId) (cap : List Operand) : ao P τ f d all k Q ⟨dst, .makeFunc (.func g) #[] cap.toArray, t, pos, aft, gu⟩ rest s env H = ar P τ f d all k Q rest s (put env dst (.fn (.func g) (cap.map (aeval env)))) H := by
  rw [ao_noalloc _ _ _ _ _ _ _ _ _ _ _ _ rfl rfl]; simp [an, aop]
theorem ao_makeSlice (ty : TypeId) (x y : Operand) : ao P τ f d all k Q ⟨dst, .makeSlice ty x y, t, pos, aft, gu⟩ rest s env H = (isVoid H s = true ∧ an P τ f d all k Q rest (s + 1) env dst (aMakeSlice τ ty (aeval env x) (aeval env y) s H)) :=
  ao_doalloc _ _ _ _ _ _ _ _ _ _ _ _ rfl rfl
theorem ao_slice (ty : TypeId) (x : Operand) (lo hi mx : Option Operand) : ao P τ f d all k Q ⟨dst, .slice ty x lo hi mx, t, pos, aft, gu⟩ rest s env H = an P τ f d all k Q rest s env dst (aSlice τ ty (aeval env x) (lo.map (aeval env)) (hi.map (aeval env)) (mx.map (aeval env)) H) :=
  ao_noalloc _ _ _ _ _ _ _ _ _ _ _ _ rfl rfl
theorem ao_fieldAddr (ty : TypeId) (x : Operand) (i : Nat) : ao P τ f d all k Q ⟨dst, .fieldAddr ty x i, t, pos, aft, gu⟩ rest s env H = an P τ f d all k Q rest s env dst (aFieldAddr τ ty (aeval env x) i H) :=
  ao_noalloc _ _ _ _ _ _ _ _ _ _ _ _ rfl rfl
theorem ao_field (ty : TypeId) (x : Operand) (i : Nat) : ao P τ f d all k Q ⟨dst, .field ty x i, t, pos, aft, gu⟩ rest s env H = an P τ f d all k Q rest s env dst (aField τ ty (aeval env x) i H) :=
  ao_noalloc _ _ _ _ _ _ _ _ _ _ _ _ rfl rfl
theorem ao_indexAddr (ty : TypeId) (x y : Operand) : ao P τ f d all k Q ⟨dst, .indexAddr ty x y, t, pos, aft, gu⟩ rest s env H = an P τ f d all k Q rest s env dst (aIndexAddr τ ty (aeval env x) (aeval env y) H) :=
  ao_noalloc _ _ _ _ _ _ _ _ _ _ _ _ rfl rfl
theorem ao_index (ty : TypeId) (x y : Operand) : ao P τ f d all k Q ⟨dst, .index ty x y, t, pos, aft, gu⟩ rest s env H = an P τ f d all k Q rest s env dst (aIndex τ ty (aeval env x) (aeval env y) H) :=
  ao_noalloc _ _ _ _ _ _ _ _ _ _ _ _ rfl rfl

def aExtract (x : D) (i : Nat) (H : AHeap) : R := match x with | .tup ds => ⟨i < ds.length, ds.getD i .any, H⟩ | _ => bad
theorem ao_extract (x : Operand) (i : Nat) : ao P τ f d all k Q ⟨dst, .extract x i, t, pos, aft, gu⟩ rest s env H = an P τ f d all k Q rest s env dst (aExtract (aeval env x) i H) :=
  ao_noalloc _ _ _ _ _ _ _ _ _ _ _ _ rfl rfl
theorem ao_append (as : List Operand) (ts : List TypeId) : ao P τ f d all k Q ⟨dst, .call ⟨.builtin .append, as.toArray, ts.toArray⟩, t, pos, aft, gu⟩ rest s env H = (isVoid H s = true ∧ an P τ f d all k Q rest (s + 1) env dst (aBuiltin τ .append ts (as.map (aeval env)) s H)) :=
  ao_doalloc _ _ _ _ _ _ _ _ _ _ _ _ rfl rfl
theorem ao_len (as : List Operand) (ts : List TypeId) : ao P τ f d all k Q ⟨dst, .call ⟨.builtin .len, as.toArray, ts.toArray⟩, t, pos, aft, gu⟩ rest s env H = an P τ f d all k Q rest s env dst (aBuiltin τ .len ts (as.map (aeval env)) s H) :=
  ao_noalloc _ _ _ _ _ _ _ _ _ _ _ _ rfl rfl
theorem ao_max (as : List Operand) (ts : List TypeId) : ao P τ f d all k Q ⟨dst, .call ⟨.builtin .max, as.toArray, ts.toArray⟩, t, pos, aft, gu⟩ rest s env H = an P τ f d all k Q rest s env dst (aBuiltin τ .max ts (as.map (aeval env)) s H) :=
  ao_noalloc _ _ _ _ _ _ _ _ _ _ _ _ rfl rfl
theorem ao_min (as : List Operand) (ts : List TypeId) : ao P τ f d all k Q ⟨dst, .call ⟨.builtin .min, as.toArray, ts.toArray⟩, t, pos, aft, gu⟩ rest s env H = an P τ f d all k Q rest s env dst (aBuiltin τ .min ts (as.map (aeval env)) s H) :=
  ao_noalloc _ _ _ _ _ _ _ _ _ _ _ _ rfl rfl
theorem ao_copy (as : List Operand) (ts : List TypeId) : ao P τ f d all k Q ⟨dst, .call ⟨.builtin .copy, as.toArray, ts.toArray⟩, t, pos, aft, gu⟩ rest s env H = an P τ f d all k Q rest s env dst (aBuiltin τ .copy ts (as.map (aeval env)) s H) :=
  ao_noalloc _ _ _ _ _ _ _ _ _ _ _ _ rfl rfl

end

section
variable {P : Program} {τ : Ty} {f : Fit} {d : Drw} {k : List It} {Q : AQ} {env : Env} {H : AHeap} {all : List Oper} {s : Nat} {rest : List Oper} {o : Oper} {x : Code}

/-- A guard's two ways. -/
theorem ag_split {b want : Bool} (h1 : b = true → ag P τ f d all k Q o rest s env H (.bool true) want) (h2 : b = false → ag P τ f d all k Q o rest s env H (.bool false) want) : ag P τ f d all k Q o rest s env H (.bool b) want := by
  cases b
  · exact h2 rfl
  · exact h1 rfl

/-- A branch's two ways. -/
theorem acond_split {b : Bool} {x y : Code} (h1 : b = true → aw P τ f d x k Q env H) (h2 : b = false → aw P τ f d y k Q env H) : acondS P τ f d (.bool b) x y k Q env H := ⟨h1, h2⟩
theorem acond_t (P : Program) (τ : Ty) (f : Fit) (d : Drw) (x y : Code) (k : List It) (Q : AQ) (env : Env) (H : AHeap) : acondS P τ f d (.bool true) x y k Q env H = aw P τ f d x k Q env H := by simp [acondS, acond, aw]
theorem acond_f (P : Program) (τ : Ty) (f : Fit) (d : Drw) (x y : Code) (k : List It) (Q : AQ) (env : Env) (H : AHeap) : acondS P τ f d (.bool false) x y k Q env H = aw P τ f d y k Q env H := by simp [acondS, acond, aw]

/-- What an operation asks. -/
theorem an_ob {dst : Option Tmp} {ob : Prop} {v : D} {H' : AHeap} (h1 : ob) (h2 : ar P τ f d all k Q rest s (put env dst v) H') : an P τ f d all k Q rest s env dst ⟨ob, v, H'⟩ := ⟨h1, h2⟩

end

theorem wok0 {P : Program} {τ : Ty} {n : Nat} {H : AHeap} : WOk P τ n H (Fits H.length) (fun _ _ _ _ _ => False) :=
  ⟨fun hI hs hf => fits_sound hf hs hI, fun _ _ h _ => h.elim⟩

abbrev nodraw : Drw := fun _ _ _ _ _ => False

/-- A function of data, by its walk. -/
theorem pureF {P : Program} {τ : Ty} {g : FuncId} {fn : Func} {c : Code} {args : List D} {x : D} {rs : List ResultVar} (hT : TyOk P τ)
    (hf : P.funcs[g]? = some fn) (hnm : (fn.name == "runtime.NumGoroutine") = false) (hb : fn.body = some c) (hr : fn.results.toList = rs) (hn : args.length ≤ fn.ntmps) (hok : okCode fn.ntmps c = true)
    (h : aw P τ (Fits 0) nodraw c [] (retQ τ rs fun r H' => Sub (H'.map Blk.fz) r x) (argEnv args 0) []) : PureF P g args x := by
  subst hr
  exact acalls_of_awp hT hf hnm hb hn hok wok0 h

end Go.Proofs.Ytbabdalfkmdlhaa
