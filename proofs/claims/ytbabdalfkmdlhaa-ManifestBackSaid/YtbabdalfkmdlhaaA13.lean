/- The abstract walk of code: operations in a row, guards, calls by contract, branches, loops; and that it is sound. Of no program. -/
import Derived.Test.YtbabdalfkmdlhaaA12
import Derived.Scope
namespace Go.Proofs.Ytbabdalfkmdlhaa
set_option linter.all false

def isVoid (H : AHeap) (s : Nat) : Bool :=
  match H[s]? with
  | some .void => true
  | _ => false

def TD.isSlice : TD → Bool
  | .slice _ => true
  | _ => false

def allocs (τ : Ty) : Op → Bool
  | .alloc _ | .box _ _ | .buildSlice _ _ _ | .makeSlice _ _ _ => true
  | .convert _ dst _ => (τ dst).td.isSlice
  | .call { callee := .builtin .append, .. } => true
  | _ => false

def countAllocs (τ : Ty) : List Oper → Nat
  | [] => 0
  | o :: r => (bif allocs τ o.op then 1 else 0) + countAllocs τ r

def nexts (τ : Ty) (o : Oper) (s : Nat) : Nat := bif allocs τ o.op then s + 1 else s

def pad (H : AHeap) (k : Nat) : AHeap := H ++ List.replicate k .void

/-- What an operation asks, and what it gives, handed on. -/
def andR (r : R) (k : D → AHeap → Prop) : Prop := r.ob ∧ k r.d r.H

/-- A function, called on abstract arguments over an abstract heap, returns, and 'K' holds of what it returns and of the heap. -/
def ACalls (P : Program) (g : FuncId) (args : List D) (H : AHeap) (K : D → AHeap → Prop) : Prop :=
  (∃ fn, P.funcs[g]? = some fn ∧ (fn.name == "runtime.NumGoroutine") = false ∧ fn.body.isNone = false) ∧
  ∀ (w : World) (S : Nat → Prop) (β : Bmap) (vs : Array Value), AInv w S β H → vs.size = args.length → (∀ (i : Nat) (d : D) (v : Value), args[i]? = some d → vs[i]? = some v → Rel w S β d v) →
    Calls P g vs w fun e w' => ∃ v d H' S' β', e = .returned v ∧ AInv w' S' β' H' ∧ Evo w S β H w' S' β' H' ∧ Rel w' S' β' d v ∧ K d H'

theorem ACalls.mono {P : Program} {g : FuncId} {args : List D} {H : AHeap} {K K' : D → AHeap → Prop} (h : ACalls P g args H K) (hk : ∀ d H', K d H' → K' d H') : ACalls P g args H K' :=
  ⟨h.1, fun w S β vs hI hl hr => (h.2 w S β vs hI hl hr).mono fun _ _ ⟨v, d, H', S', β', h1, h2, h3, h4, h5⟩ => ⟨v, d, H', S', β', h1, h2, h3, h4, hk _ _ h5⟩⟩

def acall (P : Program) (f : D) (args : List D) (H : AHeap) (k : D → AHeap → Prop) : Prop :=
  match f with
  | .fn (.func g) cap => ACalls P g (args ++ cap) H k
  | _ => False

def astep (P : Program) (τ : Ty) (o : Oper) (s : Nat) (env : Env) (H : AHeap) (k : D → AHeap → Prop) : Prop :=
  match o.op with
  | .call { callee := .value f, args, .. } => acall P (aeval env f) (args.toList.map (aeval env)) H k
  | op => (allocs τ op = true → isVoid H s = true) ∧ andR (aop τ (aeval env) s H op) k

def ayield (all : List Oper) (env : Env) (j : Nat) : D :=
  match all[j]? with
  | some o => (match o.dst with | some t => get env t | none => .any)
  | none => .any

def gsel (all : List Oper) (env : Env) : Option (Nat × Bool) → Option Bool
  | none => some true
  | some (j, want) => match ayield all env j with | .bool b => some (b == want) | .tup _ => some false | _ => none

def agd (g : Option Bool) (yes no : Prop) : Prop :=
  match g with
  | some true => yes
  | some false => no
  | none => False

def arun (P : Program) (τ : Ty) (all : List Oper) (K : Env → AHeap → Prop) : List Oper → Nat → Env → AHeap → Prop
  | [], _, env, H => K env H
  | o :: rest, s, env, H =>
    agd (gsel all env o.guard) (astep P τ o s env H fun d H' => arun P τ all K rest (nexts τ o s) (put env o.dst d) H') (arun P τ all K rest (nexts τ o s) (put env o.dst (.tup [])) H)

def okOperand : Operand → Bool
  | .const v => okVal v
  | _ => true

def okOper (n : Nat) (o : Oper) : Bool :=
  (match o.dst with | some t => decide (t < n) | none => true) && o.op.operands.toList.all okOperand

section
variable {P : Program} {τ : Ty} {n : Nat} {w0 : World} {S0 : Nat → Prop} {β0 : Bmap} {H0 : AHeap}

/-- An activation and a world are told by an environment and an abstract heap. -/
structure Stt (n : Nat) (w0 : World) (S0 : Nat → Prop) (β0 : Bmap) (H0 : AHeap) (env : Env) (H : AHeap) (a : Act) (w : World) (S : Nat → Prop) (β : Bmap) : Prop where
  defers : a.defers = []
  size : a.tmps.size = n
  env : ∀ t, get env t = .any ∨ ∃ v, a.tmps[t]? = some v ∧ Rel w S β (get env t) v
  inv : AInv w S β H
  evo : Evo w0 S0 β0 H0 w S β H

variable {env : Env} {H : AHeap} {a : Act} {w : World} {S : Nat → Prop} {β : Bmap}

theorem Stt.eval (h : Stt n w0 S0 β0 H0 env H a w S β) {x : Operand} (hx : okOperand x = true) : Rel w S β (aeval env x) (a.eval x) := by
  cases x with
  | tmp t =>
    simp only [aeval, Act.eval]
    rcases h.env t with h1 | ⟨v, h1, h2⟩
    · rw [h1]; exact .any _
    · simp only [Array.getD_eq_getD_getElem?, h1, Option.getD_some]; exact h2
  | const v => exact ofVal_rel w S β hx
  | global g => exact .any _
  | func f => exact .fn _ [] #[] rfl (fun i d v hd _ => by simp at hd)

theorem Stt.put (h : Stt n w0 S0 β0 H0 env H a w S β) {dst : Option Tmp} (hd : (match dst with | some t => decide (t < n) | none => true) = true) {d : D} {v : Value} {w' : World} {S' : Nat → Prop} {β' : Bmap} {H' : AHeap}
    (hI : AInv w' S' β' H') (he : Evo w S β H w' S' β' H') (hr : Rel w' S' β' d v) : Stt n w0 S0 β0 H0 (put env dst d) H' (a.put dst v) w' S' β' := by
  have old : ∀ t, get env t = .any ∨ ∃ v, a.tmps[t]? = some v ∧ Rel w' S' β' (get env t) v := fun t => by
    rcases h.env t with h1 | ⟨v, h1, h2⟩
    · exact .inl h1
    · exact .inr ⟨v, h1, h2.evo h.inv he⟩
  cases dst with
  | none => exact ⟨h.defers, h.size, old, hI, h.evo.trans he⟩
  | some t =>
    simp only [decide_eq_true_eq] at hd
    refine ⟨h.defers, by simp [Act.put, h.size], fun t' => ?_, hI, h.evo.trans he⟩
    simp only [Go.Proofs.Ytbabdalfkmdlhaa.put, get, Act.put]
    by_cases e : t = t'
    · subst e
      right
      refine ⟨v, by simp [h.size, hd], by simpa using hr⟩
    · have e2 : (t == t') = false := by simp [e]
      simp only [e2, cond_false]
      rcases old t' with h1 | ⟨u, h1, h2⟩
      · exact .inl h1
      · exact .inr ⟨u, by rw [Array.getElem?_setIfInBounds_ne e]; exact h1, h2⟩

theorem Stt.opt (h : Stt n w0 S0 β0 H0 env H a w S β) {x : Option Operand} (hx : ∀ y, x = some y → okOperand y = true) : OptRel w S β (x.map (aeval env)) (x.map a.eval) := by
  cases x with
  | none => exact .none
  | some y => exact .some _ _ (h.eval (hx y rfl))

theorem isVoid_spec {H : AHeap} {s : Nat} (h : isVoid H s = true) : H[s]? = some Blk.void := by
  unfold isVoid at h
  split at h
  · assumption
  · cases h

theorem parts_rel (h : Stt n w0 S0 β0 H0 env H a w S β) (ps : Array (Nat × Operand)) (hp : (ps.toList.map (·.2)).all okOperand = true) :
    (ps.map fun (i, x) => (i, a.eval x)).size = (ps.toList.map fun p => (p.1, aeval env p.2)).length ∧
    ∀ (i : Nat) x u, (ps.toList.map fun p => (p.1, aeval env p.2))[i]? = some x → (ps.map fun (i, x) => (i, a.eval x))[i]? = some u → x.1 = u.1 ∧ Rel w S β x.2 u.2 := by
  refine ⟨by simp, fun i x u hx hu => ?_⟩
  simp only [List.getElem?_map, Array.getElem?_toList, Array.getElem?_map] at hx hu
  cases hpi : ps[i]? with
  | none => rw [hpi] at hx; cases hx
  | some p =>
    rw [hpi] at hx hu
    simp only [Option.map_some, Option.some.injEq] at hx hu
    subst hx; subst hu
    refine ⟨rfl, h.eval ?_⟩
    simp only [List.all_map, List.all_eq_true] at hp
    exact hp p (by have := Array.mem_of_getElem? hpi; simpa using this)

theorem args_rel (h : Stt n w0 S0 β0 H0 env H a w S β) (as : Array Operand) (hp : as.toList.all okOperand = true) :
    ∀ (i : Nat) (d : D) (v : Value), (as.toList.map (aeval env))[i]? = some d → (as.map a.eval)[i]? = some v → Rel w S β d v := by
  intro i d v hd hv
  simp only [List.getElem?_map, Array.getElem?_toList, Array.getElem?_map] at hd hv
  cases hpi : as[i]? with
  | none => rw [hpi] at hd; cases hd
  | some p =>
    rw [hpi] at hd hv
    simp only [Option.map_some, Option.some.injEq] at hd hv
    subst hd; subst hv
    exact h.eval (List.all_eq_true.1 hp p (by have := Array.mem_of_getElem? hpi; simpa using this))

/-- What an operation's run comes to. -/
def ExecOk (P : Program) (w : World) (S : Nat → Prop) (β : Bmap) (H : AHeap) (s : Sem Next) (r : R) : Prop :=
  r.ob → ∃ nx v w' S' β', s.run P w = .ok nx w' ∧ (nx = .value v ∨ (nx = .skip ∧ v = undef)) ∧ AInv w' S' β' r.H ∧ Evo w S β H w' S' β' r.H ∧ Rel w' S' β' r.d v

theorem ExecOk.of {s : Sem Value} {r : R} (h : OpOk P w S β H s r) : ExecOk P w S β H (do pure (.value (← s))) r := fun ho =>
  let ⟨v, w', S', β', h1, h2, h3, h4⟩ := h ho
  ⟨.value v, v, w', S', β', by simp [h1], .inl rfl, h2, h3, h4⟩

theorem ExecOk.bad {s : Sem Next} : ExecOk P w S β H s bad := fun h => h.elim

theorem ExecOk.pureOk (hI : AInv w S β H) {d : D} {v : Value} (hr : Rel w S β d v) : ExecOk P w S β H (Pure.pure (.value v)) ⟨True, d, H⟩ := fun _ =>
  ⟨.value v, v, w, S, β, rfl, .inl rfl, hI, Evo.refl _ _ _ _, hr⟩

theorem exec_ok (hT : TyOk P τ) (h : Stt n w0 S0 β0 H0 env H a w S β) (o : Oper) (s : Nat) (hok : o.op.operands.toList.all okOperand = true) (hs : allocs τ o.op = true → isVoid H s = true) (hnc : ∀ f as ts, o.op ≠ .call { callee := .value f, args := as, argTypes := ts }) :
    ExecOk P w S β H (execOp a.eval o) (aop τ (aeval env) s H o.op) := by
  have hI := h.inv
  obtain ⟨dst, op, type, pos, after, guard⟩ := o
  have ev1 : ∀ {x : Operand}, okOperand x = true → Rel w S β (aeval env x) (a.eval x) := fun hx => h.eval hx
  cases op <;> simp only [aop] <;> try exact ExecOk.bad
  case move x => exact ExecOk.pureOk hI (ev1 (by simpa [Op.operands] using hok))
  case assign x => exact ExecOk.pureOk hI (ev1 (by simpa [Op.operands] using hok))
  case pick c x y =>
    simp only [Op.operands, List.all_cons, List.all_nil, Bool.and_true, Bool.and_eq_true] at hok
    have hc := ev1 hok.1
    cases hd : aeval env c <;> (try simp only) <;> try exact ExecOk.bad
    rename_i b
    rw [hd] at hc
    cases hv : a.eval c <;> rw [hv] at hc <;> cases hc
    cases b
    · intro _
      exact ⟨_, _, w, S, β, by simp [execOp, hv, asBool], .inl rfl, hI, Evo.refl _ _ _ _, ev1 hok.2.2⟩
    · intro _
      exact ⟨_, _, w, S, β, by simp [execOp, hv, asBool], .inl rfl, hI, Evo.refl _ _ _ _, ev1 hok.2.1⟩
  case alloc t => exact ExecOk.of (alloc_ok hT hI (isVoid_spec (hs rfl)))
  case box t v => exact ExecOk.of (box_ok hI (isVoid_spec (hs rfl)) (ev1 (by simpa [Op.operands] using hok)))
  case build t ps =>
    obtain ⟨p1, p2⟩ := parts_rel h ps (by simpa [Op.operands] using hok)
    exact ExecOk.of (build_ok hT hI p1 p2)
  case buildSlice t k ps =>
    obtain ⟨p1, p2⟩ := parts_rel h ps (by simpa [Op.operands] using hok)
    exact ExecOk.of (buildSlice_ok hT hI (isVoid_spec (hs rfl)) p1 p2)
  case load t x => exact ExecOk.of (load_ok hT hI (ev1 (by simpa [Op.operands] using hok)))
  case store t x v =>
    simp only [Op.operands, List.all_cons, List.all_nil, Bool.and_true, Bool.and_eq_true] at hok
    intro ho
    obtain ⟨w', h1, h2, h3⟩ := store_ok (P := P) hT hI (ev1 hok.1) (ev1 hok.2) ho
    refine ⟨.skip, undef, w', S, β, by simp [execOp, h1], .inr ⟨rfl, rfl⟩, h2, h3, ?_⟩
    have : (aStore τ t (aeval env x) (aeval env v) H).d = .any := by
      unfold aStore
      split
      · split <;> rfl
      · rfl
    rw [this]
    exact .any _
  case nilCheck x =>
    have hx := ev1 (x := x) (by simpa [Op.operands] using hok)
    cases hd : aeval env x <;> (try simp only) <;> try exact ExecOk.bad
    · rw [hd] at hx
      cases hv : a.eval x <;> rw [hv] at hx <;> cases hx
      exact fun _ => ⟨.value (a.eval x), a.eval x, w, S, β, by simp [execOp, hv], .inl rfl, hI, Evo.refl _ _ _ _, by rw [hv]; constructor <;> assumption⟩
    · rw [hd] at hx
      cases hv : a.eval x <;> rw [hv] at hx <;> cases hx
      exact fun _ => ⟨.value (a.eval x), a.eval x, w, S, β, by simp [execOp, hv], .inl rfl, hI, Evo.refl _ _ _ _, by rw [hv]; constructor <;> assumption⟩
    · rename_i f cap
      cases f <;> simp only <;> try exact ExecOk.bad
      rw [hd] at hx
      cases hv : a.eval x <;> rw [hv] at hx <;> cases hx
      exact fun _ => ⟨.value (a.eval x), a.eval x, w, S, β, by simp [execOp, hv], .inl rfl, hI, Evo.refl _ _ _ _, by rw [hv]; constructor <;> assumption⟩
  case binOp op t x y yt =>
    simp only [Op.operands, List.all_cons, List.all_nil, Bool.and_true, Bool.and_eq_true] at hok
    exact ExecOk.of (bin_ok hT hI op t x y (ev1 hok.1) (ev1 hok.2))
  case unOp op t x => exact ExecOk.of (un_ok hI op (ev1 (by simpa [Op.operands] using hok)))
  case convert src dst x =>
    refine ExecOk.of (conv_ok hT hI ?_ (ev1 (by simpa [Op.operands] using hok)))
    by_cases hsl : ∃ e, (τ dst).td = .slice e
    · obtain ⟨e, he⟩ := hsl
      exact .inl (isVoid_spec (hs (by simp [allocs, he, TD.isSlice])))
    · exact .inr fun e he => hsl ⟨e, he⟩
  case makeFunc f first cap =>
    cases f <;> simp only <;> try exact ExecOk.bad
    rename_i f
    intro ho
    have ho' : first = #[] := ho
    subst ho'
    simp only [Op.operands, Array.toList_append, List.nil_append] at hok
    refine ⟨.value (.func (.func f) #[] (cap.map a.eval)), _, w, S, β, by simp [execOp, Instr.makeFunc], .inl rfl, hI, Evo.refl _ _ _ _, ?_⟩
    exact .fn _ _ _ (by simp) (args_rel h cap hok)
  case makeSlice t l c =>
    simp only [Op.operands, List.all_cons, List.all_nil, Bool.and_true, Bool.and_eq_true] at hok
    exact ExecOk.of (makeSlice_ok hT hI (isVoid_spec (hs rfl)) (ev1 hok.1) (ev1 hok.2))
  case slice t x lo hi mx =>
    simp only [Op.operands, Array.toList_append, List.all_append, Bool.and_eq_true, List.all_cons, List.all_nil, Bool.and_true] at hok
    have oo : ∀ (z : Option Operand), z.toArray.toList.all okOperand = true → ∀ y, z = some y → okOperand y = true := fun z hz y hy => by subst hy; simpa using hz
    exact ExecOk.of (slice_ok hT hI (ev1 hok.1.1.1) (h.opt (oo lo hok.1.1.2)) (h.opt (oo hi hok.1.2)) (h.opt (oo mx hok.2)))
  case fieldAddr t x f => exact ExecOk.of (fieldAddr_ok hT hI f (ev1 (by simpa [Op.operands] using hok)))
  case field t x f => exact ExecOk.of (field_ok hT hI f (ev1 (by simpa [Op.operands] using hok)))
  case indexAddr t x i =>
    simp only [Op.operands, List.all_cons, List.all_nil, Bool.and_true, Bool.and_eq_true] at hok
    exact ExecOk.of (indexAddr_ok hT hI (ev1 hok.1) (ev1 hok.2))
  case index t x i =>
    simp only [Op.operands, List.all_cons, List.all_nil, Bool.and_true, Bool.and_eq_true] at hok
    exact ExecOk.of (index_ok hT hI (ev1 hok.1) (ev1 hok.2))
  case extract x i =>
    have hx := ev1 (x := x) (by simpa [Op.operands] using hok)
    cases hd : aeval env x <;> (try simp only) <;> try exact ExecOk.bad
    rename_i ds
    rw [hd] at hx
    cases hv : a.eval x <;> rw [hv] at hx <;> cases hx
    rename_i vs l1 r1
    refine ExecOk.of (OpOk.same hI fun ho => ?_)
    have hlt : i < vs.size := by rw [l1]; exact ho
    refine ⟨vs[i], by show (Instr.extract (a.eval x) i).run P w = _; rw [hv]; simp [Instr.extract, hlt], r1 i _ _ ?_ (by simp [hlt])⟩
    simp [List.getD, List.getElem?_eq_getElem (show i < ds.length from ho)]
  case call c =>
    obtain ⟨callee, as, ts⟩ := c
    cases callee with
    | value f => exact absurd rfl (hnc f as ts)
    | invoke r m => exact ExecOk.bad
    | builtin b =>
      have ha : as.toList.all okOperand = true := by simpa [Op.operands, Call.operands] using hok
      have hargs := args_rel h as ha
      have key : ∀ (s' : Sem Value), (∀ (W : World), (execOp a.eval { dst := dst, op := .call { callee := .builtin b, args := as, argTypes := ts }, type := type, pos := pos, after := after, guard := guard }).run P W = (do pure (Next.value (← s')) : Sem Next).run P W) →
          OpOk P w S β H s' (aBuiltin τ b ts.toList (as.toList.map (aeval env)) s H) →
          ExecOk P w S β H (execOp a.eval { dst := dst, op := .call { callee := .builtin b, args := as, argTypes := ts }, type := type, pos := pos, after := after, guard := guard }) (aBuiltin τ b ts.toList (as.toList.map (aeval env)) s H) := fun s' e hs' ho => by
        obtain ⟨nx, v, w', S', β', h1, h2⟩ := ExecOk.of hs' ho
        exact ⟨nx, v, w', S', β', by rw [e w]; exact h1, h2⟩
      obtain ⟨as⟩ := as
      obtain ⟨ts⟩ := ts
      simp only [List.map_toArray] at hargs
      cases b <;> simp only [aBuiltin] at key ⊢ <;> try exact ExecOk.bad
      case len =>
        refine key (Builtin.len_ ts.toArray type (as.map a.eval).toArray) (fun W => by simp [execOp, resolve, invoke, builtin]) ?_
        split
        · rename_i t x he
          match as, he with
          | [y], he =>
            simp only [List.map_cons, List.map_nil, List.cons.injEq, and_true] at he
            have hx := hargs 0 x (a.eval y) (by simp [he]) rfl
            exact len_ok hT hI hx
        · exact OpOk.bad
      case max =>
        refine key (Builtin.max_ ts.toArray type (as.map a.eval).toArray) (fun W => by simp [execOp, resolve, invoke, builtin]) ?_
        match as, hargs with
        | [], _ => exact OpOk.bad
        | y :: ys, hargs =>
          simp only [List.map_cons]
          split
          · rename_i d hd
            refine OpOk.same hI fun _ => ?_
            obtain ⟨r, h1, h2⟩ := max_ok (P := P) (ys.map (aeval env)) (ys.map a.eval) (aeval env y) (a.eval y) (hargs 0 _ _ rfl rfl) (by simp) (fun i d v h3 h4 => hargs (i + 1) d v (by simpa using h3) (by simpa using h4)) d hd
            exact ⟨r, by simpa [Builtin.max_] using h1, h2⟩
          · exact OpOk.bad
      case min =>
        refine key (Builtin.min_ ts.toArray type (as.map a.eval).toArray) (fun W => by simp [execOp, resolve, invoke, builtin]) ?_
        match as, hargs with
        | [], _ => exact OpOk.bad
        | y :: ys, hargs =>
          simp only [List.map_cons]
          split
          · rename_i d hd
            refine OpOk.same hI fun _ => ?_
            obtain ⟨r, h1, h2⟩ := min_ok (P := P) (ys.map (aeval env)) (ys.map a.eval) (aeval env y) (a.eval y) (hargs 0 _ _ rfl rfl) (by simp) (fun i d v h3 h4 => hargs (i + 1) d v (by simpa using h3) (by simpa using h4)) d hd
            exact ⟨r, by simpa [Builtin.min_] using h1, h2⟩
          · exact OpOk.bad
      case append =>
        refine key (Builtin.append_ ts.toArray type (as.map a.eval).toArray) (fun W => by simp [execOp, resolve, invoke, builtin]) ?_
        match as, hargs with
        | [y, z], hargs => exact append_ok hT hI (isVoid_spec (hs rfl)) (hargs 0 _ _ rfl rfl) (hargs 1 _ _ rfl rfl)
        | [], _ => exact OpOk.bad
        | [_], _ => exact OpOk.bad
        | _ :: _ :: _ :: _, _ => exact OpOk.bad
      case copy =>
        refine key (Builtin.copy_ ts.toArray type (as.map a.eval).toArray) (fun W => by simp [execOp, resolve, invoke, builtin]) ?_
        match as, hargs with
        | [y, z], hargs => exact copy_ok hT hI (hargs 0 _ _ rfl rfl) (hargs 1 _ _ rfl rfl)
        | [], _ => exact OpOk.bad
        | [_], _ => exact OpOk.bad
        | _ :: _ :: _ :: _, _ => exact OpOk.bad

end
end Go.Proofs.Ytbabdalfkmdlhaa
