/- The abstract walk is sound: operations in a row, code, functions. Of no program. -/
import Derived.Test.YtbabdalfkmdlhaaA13
import Derived.Deep.LoopGhost
namespace Go.Proofs.Ytbabdalfkmdlhaa
set_option linter.all false

section
variable {P : Program} {τ : Ty} {n : Nat} {w0 : World} {S0 : Nat → Prop} {β0 : Bmap} {H0 : AHeap}
variable {env : Env} {H : AHeap} {a : Act} {w : World} {S : Nat → Prop} {β : Bmap}

theorem op_sound (hT : TyOk P τ) {ops : Array Oper} {i : Nat} {o : Oper} (hi : ops[i]? = some o) (hok : okOper n o = true) (h : Stt n w0 S0 β0 H0 env H a w S β) {s : Nat} {k : D → AHeap → Prop} {K : Act → World → Prop} {Q : Exit → Act → World → Prop} {no : Prop}
    (hr : agd (gsel ops.toList env o.guard) (astep P τ o s env H k) no)
    (hyes : ∀ d H' a' w' S' β', Stt n w0 S0 β0 H0 (put env o.dst d) H' a' w' S' β' → k d H' → K a' w')
    (hno : ∀ a', Stt n w0 S0 β0 H0 (put env o.dst (.tup [])) H a' w S β → no → K a' w) : wpOp P ops Q i K a w := by
  simp only [okOper, Bool.and_eq_true] at hok
  have hput : ∀ {d : D} {v : Value} {w' : World} {S' : Nat → Prop} {β' : Bmap} {H' : AHeap}, AInv w' S' β' H' → Evo w S β H w' S' β' H' → Rel w' S' β' d v → Stt n w0 S0 β0 H0 (put env o.dst d) H' (a.put o.dst v) w' S' β' := fun hI he hr => h.put hok.1 hI he hr
  unfold wpOp
  simp only [hi]
  have hsel : ∀ b, gsel ops.toList env o.guard = some b → Region.wanted o (yielded ops a.tmps) = b := by
    intro b hb
    unfold gsel at hb
    unfold Region.wanted
    cases hg : o.guard with
    | none => rw [hg] at hb; simpa using hb
    | some g =>
      obtain ⟨j, want⟩ := g
      rw [hg] at hb
      simp only at hb ⊢
      have hyt : ∀ ds, ayield ops.toList env j = .tup ds → yielded ops a.tmps j = none := fun ds hy => by
        unfold ayield at hy
        unfold yielded
        cases hoj : ops[j]? with
        | none => rw [Array.getElem?_toList, hoj] at hy; cases hy
        | some oj =>
          rw [Array.getElem?_toList, hoj] at hy
          simp only at hy
          cases hdst : oj.dst with
          | none => rw [hdst] at hy; cases hy
          | some t =>
            rw [hdst] at hy
            simp only at hy
            rcases h.env t with h1 | ⟨v, h1, h2⟩
            · rw [h1] at hy; cases hy
            · rw [hy] at h2
              cases h2
              simp [hdst, h1]
      cases hy : ayield ops.toList env j <;> rw [hy] at hb <;> try (cases hb; done)
      case tup ds => simp only [Option.some.injEq] at hb; rw [hyt ds hy, ← hb]; rfl
      rename_i c
      simp only [Option.some.injEq] at hb
      have hyl : yielded ops a.tmps j = some c := by
        unfold ayield at hy
        unfold yielded
        cases hoj : ops[j]? with
        | none => rw [Array.getElem?_toList, hoj] at hy; cases hy
        | some oj =>
          rw [Array.getElem?_toList, hoj] at hy
          simp only at hy
          cases hdst : oj.dst with
          | none => rw [hdst] at hy; cases hy
          | some t =>
            rw [hdst] at hy
            simp only at hy
            rcases h.env t with h1 | ⟨v, h1, h2⟩
            · rw [h1] at hy; cases hy
            · rw [hy] at h2
              cases h2
              simp [hdst, h1]
      rw [hyl, ← hb]
      cases c <;> cases want <;> rfl
  cases hgs : gsel ops.toList env o.guard with
  | none => rw [hgs] at hr; exact hr.elim
  | some b =>
    rw [hgs] at hr
    rw [hsel b hgs]
    cases b with
    | false =>
      simp only [Bool.false_eq_true, if_false]
      exact hno _ (hput h.inv (Evo.refl _ _ _ _) (.tup [] #[] rfl (fun i d v hd _ => by simp at hd))) hr
    | true =>
      simp only [if_true]
      left
      simp only [agd] at hr
      unfold Oper.wp
      by_cases hc : ∃ f as ts, o.op = .call { callee := .value f, args := as, argTypes := ts }
      · obtain ⟨f, as, ts, hop⟩ := hc
        unfold astep at hr
        rw [hop] at hr
        simp only at hr
        have hok2 := hok.2
        rw [hop] at hok2
        simp only [Op.operands, Call.operands, Array.toList_append, List.all_append, Bool.and_eq_true, List.all_cons, List.all_nil, Bool.and_true] at hok2
        have hf := h.eval hok2.1
        have hargs := args_rel h as hok2.2
        unfold acall at hr
        cases hd : aeval env f <;> rw [hd] at hr <;> try exact hr.elim
        rename_i fn cap
        cases fn <;> try exact hr.elim
        rename_i g
        simp only at hr
        rw [hd] at hf
        cases hv : a.eval f <;> rw [hv] at hf <;> cases hf
        rename_i vs lc rc
        obtain ⟨⟨fnn, h1, h2, h3⟩, hcalls⟩ := hr
        have hrun : (execOp a.eval o).run P w = .ok (.enter g (as.map a.eval ++ vs)) w := by
          have h2' : ¬ fnn.name = "runtime.NumGoroutine" := by simpa using h2
          have h3' : ¬ fnn.body = none := by intro e; rw [e] at h3; cases h3
          simp [execOp, hop, resolve, hv, Deferred.ofValue, invoke, callFunc, h1, h2', h3']
        rw [hrun]
        simp only [Oper.upon]
        refine (hcalls w S β (as.map a.eval ++ vs) h.inv (by simp [lc]) (fun i d v hd' hv' => ?_)).mono ?_
        · by_cases hlt : i < as.size
          · rw [List.getElem?_append_left (by simpa using hlt)] at hd'
            rw [Array.getElem?_append_left (by simpa using hlt)] at hv'
            exact hargs i d v hd' hv'
          · rw [List.getElem?_append_right (by simpa using hlt)] at hd'
            rw [Array.getElem?_append_right (by simpa using hlt)] at hv'
            simp only [List.length_map, Array.length_toList] at hd'
            simp only [Array.size_map] at hv'
            exact rc _ d v hd' hv'
        · rintro e w' ⟨v, d, H', S', β', rfl, h5, h6, h7, h8⟩
          exact hyes d H' _ w' S' β' (hput h5 h6 h7) h8
      · have hr' : (allocs τ o.op = true → isVoid H s = true) ∧ andR (aop τ (aeval env) s H o.op) k := by
          unfold astep at hr
          split at hr
          · rename_i f as ts heq; exact absurd ⟨f, as, ts, heq⟩ hc
          · exact hr
        obtain ⟨hs, ho, hk⟩ := hr'
        obtain ⟨nx, v, w', S', β', h1, h2, h3, h4, h5⟩ := exec_ok hT h o s hok.2 hs (fun f as ts e => hc ⟨f, as, ts, e⟩) ho
        rw [h1]
        rcases h2 with rfl | ⟨rfl, rfl⟩
        · exact hyes _ _ _ w' S' β' (hput h3 h4 h5) hk
        · exact hyes _ _ _ w' S' β' (hput h3 h4 h5) hk

/-- Something told of the state, in one word. -/
def Lift (n : Nat) (w0 : World) (S0 : Nat → Prop) (β0 : Bmap) (H0 : AHeap) (K : Env → AHeap → Prop) (a : Act) (w : World) : Prop :=
  ∃ env H S β, Stt n w0 S0 β0 H0 env H a w S β ∧ K env H

theorem arun_sound (hT : TyOk P τ) {ops : Array Oper} (hok : ops.toList.all (okOper n) = true) {K : Env → AHeap → Prop} {Q : Exit → Act → World → Prop} (hK : ∀ a w, Lift n w0 S0 β0 H0 K a w → Q .normal a w) :
    ∀ (l : List Oper) (j : Nat), (∀ i, l[i]? = ops[j + i]?) → ∀ (s : Nat) (env : Env) (H : AHeap) (a : Act) (w : World) (S : Nat → Prop) (β : Bmap), Stt n w0 S0 β0 H0 env H a w S β →
      arun P τ ops.toList K l s env H → wpOps P ops Q (List.range' j l.length) a w
  | [], j, _, s, env, H, a, w, S, β, h, hr => hK a w ⟨env, H, S, β, h, hr⟩
  | o :: rest, j, hl, s, env, H, a, w, S, β, h, hr => by
    have hj : ops[j]? = some o := by simpa using (hl 0).symm
    have hoj : okOper n o = true := List.all_eq_true.1 hok o (by have := Array.mem_of_getElem? hj; simpa using this)
    have ih := arun_sound hT hok hK rest (j + 1) (fun i => by have := hl (i + 1); simpa [Nat.add_assoc, Nat.add_comm 1 i] using this) (nexts τ o s)
    simp only [List.length_cons, List.range'_succ]
    rw [wpOps_cons]
    unfold arun at hr
    exact op_sound hT hj hoj h hr (fun d H' a' w' S' β' h' hk => ih _ _ _ _ _ _ h' hk) (fun a' h' hk => ih _ _ _ _ _ _ h' hk)

theorem AInv.pad (hI : AInv w S β H) (k : Nat) : AInv w S (β ++ List.replicate k none) (pad H k) ∧ Evo w S β H w S (β ++ List.replicate k none) (pad H k) := by
  have hbk : ∀ b x, Bk β b x → Bk (β ++ List.replicate k none) b x := fun b x h => by
    unfold Bk at *
    rw [List.getElem?_append_left (List.getElem?_eq_some_iff.1 h).1]; exact h
  have hbk2 : ∀ b x, Bk (β ++ List.replicate k none) b x → Bk β b x := fun b x h => by
    unfold Bk at *
    by_cases hb : b < β.length
    · rw [List.getElem?_append_left hb] at h; exact h
    · rw [List.getElem?_append_right (by omega)] at h
      have := List.mem_of_getElem? h
      simp at this
  have hget : ∀ (b : Nat) (x : Blk), x ≠ Blk.void → (Go.Proofs.Ytbabdalfkmdlhaa.pad H k)[b]? = some x → H[b]? = some x := fun b x hx h => by
    unfold Go.Proofs.Ytbabdalfkmdlhaa.pad at h
    by_cases hb : b < H.length
    · rw [List.getElem?_append_left hb] at h; exact h
    · rw [List.getElem?_append_right (by omega)] at h
      have := List.mem_of_getElem? h
      simp at this
      exact absurd this.2 hx
  have keep : ∀ {d v}, Rel w S β d v → Rel w S (β ++ List.replicate k none) d v := fun h => h.keep (fun _ _ => rfl) (fun _ h => h) hbk (fun _ _ h => h)
  have lies : ∀ {cs b0 o1 vs0 T0 fr0}, Lies w S β cs b0 o1 vs0 T0 fr0 → Lies w S (β ++ List.replicate k none) cs b0 o1 vs0 T0 fr0 := fun h =>
    ⟨h.heap, h.one, fun i d hd => let ⟨v, h1, h2⟩ := h.cell i d hd; ⟨v, h1, keep h2⟩⟩
  refine ⟨⟨by simp [Go.Proofs.Ytbabdalfkmdlhaa.pad, hI.len], fun b cs h => ?_, fun b cs h => ?_, fun b b' cs cs' blk o o' h h' k1 k2 => hI.apart b b' cs cs' blk o o' (hget _ _ (by simp) h) (hget _ _ (by simp) h') (hbk2 _ _ k1) (hbk2 _ _ k2), hI.old, fun b h => ?_⟩,
    ⟨rfl, rfl, Nat.le_refl _, fun _ _ _ => rfl, fun _ _ h => h, fun _ h => h, hbk, fun _ h => .inl h, ?_⟩⟩
  · rcases hI.live b cs (hget _ _ (by simp) h) with ⟨h1, h2⟩ | ⟨b0, o, vs0, T0, fr0, h3, h4, h5, h6⟩
    · exact .inl ⟨h1, hbk _ _ h2⟩
    · exact .inr ⟨b0, o, vs0, T0, fr0, hbk _ _ h3, h4, h5, lies h6⟩
  · rcases hI.froz b cs (hget _ _ (by simp) h) with ⟨h1, h2⟩ | ⟨b0, o, vs0, T0, fr0, h3, h4, h6⟩
    · exact .inl ⟨h1, hbk _ _ h2⟩
    · exact .inr ⟨b0, o, vs0, T0, fr0, hbk _ _ h3, h4, lies h6⟩
  · unfold Go.Proofs.Ytbabdalfkmdlhaa.pad at h
    by_cases hb : b < H.length
    · rw [List.getElem?_append_left hb] at h
      rw [List.getElem?_append_left (by rw [hI.len]; exact hb)]
      exact hI.void b h
    · rw [List.getElem?_append_right (by omega)] at h
      have h2 := (List.getElem?_eq_some_iff.1 h).1
      simp at h2
      rw [List.getElem?_append_right (by rw [hI.len]; omega), List.getElem?_replicate, if_pos (by rw [hI.len]; exact h2)]
  · rintro blk ⟨i, cs, o, h, hk⟩
    exact .inl ⟨i, cs, o, hget _ _ (by simp) h, hbk2 _ _ hk⟩

theorem Stt.step (h : Stt n w0 S0 β0 H0 env H a w S β) {S' : Nat → Prop} {β' : Bmap} {H' : AHeap} {w' : World} (hI : AInv w' S' β' H') (he : Evo w S β H w' S' β' H') : Stt n w0 S0 β0 H0 env H' a w' S' β' :=
  ⟨h.defers, h.size, fun t => by
    rcases h.env t with h1 | ⟨v, h1, h2⟩
    · exact .inl h1
    · exact .inr ⟨v, h1, h2.evo h.inv he⟩, hI, h.evo.trans he⟩

theorem Stt.drew (h : Stt n w0 S0 β0 H0 env H a w S β) : Stt n w0 S0 β0 H0 env H a w.drew S β := h.step h.inv.drew.1 h.inv.drew.2

end

/-- One environment and heap may stand for another: what the second tells, the first tells. -/
def D.isAny : D → Bool
  | .any => true
  | _ => false

/-- The environment 'E' tells no more than 'env'. -/
def weaker (env : Env) : Env → Prop
  | [] => True
  | (t, d) :: r => get env t = d ∧ weaker env r

theorem weaker_get {env : Env} : ∀ {E : Env}, weaker env E → ∀ t, get E t = .any ∨ get E t = get env t
  | [], _, _ => .inl rfl
  | (k, d) :: r, h, t => by
    simp only [get]
    by_cases e : k = t
    · subst e; right; simpa using h.1.symm
    · have : (k == t) = false := by simp [e]
      rw [this]; exact weaker_get h.2 t

/-- A loop: something told at each round's head by an index, and a number that falls. -/
def aloop (body : (Exit → Env → AHeap → Prop) → Env → AHeap → Prop) (fits : Env → AHeap → Env → AHeap → Prop) (Q : Exit → Env → AHeap → Prop) (env : Env) (H : AHeap) : Prop :=
  ∃ (ι : Type) (E : ι → Env) (G : ι → AHeap) (I : ι → Prop) (μ : ι → Nat) (i : ι), I i ∧ fits env H (E i) (G i) ∧
    ∀ i, I i → body (fun e env' H' => match e with | .normal => ∃ j, I j ∧ μ j < μ i ∧ fits env' H' (E j) (G j) | e => Q e env' H') (E i) (G i)

def aseq (e : Exit) (nrm : Prop) (els : Prop) : Prop :=
  match e with
  | .normal => nrm
  | _ => els

def ablock (id : Nat) (Q : Exit → Env → AHeap → Prop) (e : Exit) (env : Env) (H : AHeap) : Prop :=
  match e with
  | .exit k => if k = id then Q .normal env H else Q (.exit k) env H
  | e => Q e env H

def acond (c : D) (x y : Prop) : Prop :=
  match c with
  | .bool b => (b = true → x) ∧ (b = false → y)
  | _ => False

def awp (P : Program) (τ : Ty) (fits : Env → AHeap → Env → AHeap → Prop) (draw : Nat → List Oper → (Env → AHeap → Prop) → Env → AHeap → Prop) : Code → (Exit → Env → AHeap → Prop) → Env → AHeap → Prop
  | .skip, Q, env, H => Q .normal env H
  | .region id ops false, Q, env, H => arun P τ ops.toList (Q .normal) ops.toList H.length env (pad H (countAllocs τ ops.toList))
  | .region id ops true, Q, env, H => draw id ops.toList (Q .normal) env H
  | .seq x y, Q, env, H => awp P τ fits draw x (fun e env H => aseq e (awp P τ fits draw y Q env H) (Q e env H)) env H
  | .cond c x y, Q, env, H => acond (aeval env c) (awp P τ fits draw x Q env H) (awp P τ fits draw y Q env H)
  | .block id c, Q, env, H => awp P τ fits draw c (ablock id Q) env H
  | .loop c, Q, env, H => aloop (awp P τ fits draw c) fits Q env H
  | .exit id, Q, env, H => Q (.exit id) env H
  | .ret, Q, env, H => Q .ret env H
  | .label _, Q, env, H => Q .normal env H
  | .scope c, Q, env, H => awp P τ fits draw c Q env H
  | _, _, _, _ => False

/-- Are all operations such as the walk may take: destinations in the frame, constants that are well formed; and no goto? -/
def okCode (n : Nat) : Code → Bool
  | .region _ ops _ => ops.toList.all (okOper n)
  | .seq x y => okCode n x && okCode n y
  | .cond c x y => okOperand c && okCode n x && okCode n y
  | .block _ c | .loop c | .scope c => okCode n c
  | .skip | .exit _ | .ret | .label _ => true
  | _ => false

section
variable {P : Program} {τ : Ty} {n : Nat} {w0 : World} {S0 : Nat → Prop} {β0 : Bmap} {H0 : AHeap}

/-- What 'fits' and 'draw' must do that the walk is sound. -/
structure WOk (P : Program) (τ : Ty) (n : Nat) (H0 : AHeap) (fits : Env → AHeap → Env → AHeap → Prop) (draw : Nat → List Oper → (Env → AHeap → Prop) → Env → AHeap → Prop) : Prop where
  fit : ∀ {w0 S0 β0 env H a w S β E G}, AInv w0 S0 β0 H0 → Stt n w0 S0 β0 H0 env H a w S β → fits env H E G → ∃ S' β', Stt n w0 S0 β0 H0 E G a w S' β'
  drawn : ∀ {w0 S0 β0 env H a w S β K} {id : Nat} {ops : Array Oper} {Q : Exit → Act → World → Prop}, ops.toList.all (okOper n) = true → Stt n w0 S0 β0 H0 env H a w S β → draw id ops.toList K env H →
    (∀ a w, Lift n w0 S0 β0 H0 K a w → Q .normal a w) → (Code.region id ops true).wp P Q a w

def notGoto : Exit → Prop
  | .goto _ => False
  | _ => True

theorem awp_sound (hT : TyOk P τ) (hI0 : AInv w0 S0 β0 H0) {fits : Env → AHeap → Env → AHeap → Prop} {draw : Nat → List Oper → (Env → AHeap → Prop) → Env → AHeap → Prop} (hw : WOk P τ n H0 fits draw) :
    ∀ (c : Code) (hok : okCode n c = true) (Q : Exit → Env → AHeap → Prop) (Q' : Exit → Act → World → Prop) (_ : ∀ e a w, notGoto e → Lift n w0 S0 β0 H0 (Q e) a w → Q' e a w)
      (env : Env) (H : AHeap) (a : Act) (w : World) (S : Nat → Prop) (β : Bmap), Stt n w0 S0 β0 H0 env H a w S β → awp P τ fits draw c Q env H → c.wp P Q' a w
  | .skip, _, Q, Q', hQ, env, H, a, w, S, β, h, hr => wp_skip (hQ _ _ _ trivial ⟨env, H, S, β, h, hr⟩)
  | .region id ops false, hok, Q, Q', hQ, env, H, a, w, S, β, h, hr => by
    refine wp_region ?_
    obtain ⟨h1, h2⟩ := h.inv.pad (countAllocs τ ops.toList)
    have := arun_sound (w0 := w0) (S0 := S0) (β0 := β0) (H0 := H0) hT hok (K := Q .normal) (Q := Q') (fun a w hl => hQ _ _ _ trivial hl) ops.toList 0 (fun i => by simp) H.length env _ a w S _ (h.step h1 h2) hr
    rw [List.range_eq_range', ← Array.length_toList]
    exact this
  | .region id ops true, hok, Q, Q', hQ, env, H, a, w, S, β, h, hr => hw.drawn hok h hr (fun a w hl => hQ _ _ _ trivial hl)
  | .seq x y, hok, Q, Q', hQ, env, H, a, w, S, β, h, hr => by
    simp only [okCode, Bool.and_eq_true] at hok
    refine wp_seq (awp_sound hT hI0 hw x hok.1 _ _ (fun e a w hng hl => ?_) env H a w S β h hr)
    obtain ⟨env', H', S', β', h', hk⟩ := hl
    cases e with
    | normal => exact awp_sound hT hI0 hw y hok.2 Q Q' hQ env' H' a w S' β' h' hk
    | goto l => exact hng.elim
    | exit id => exact hQ _ _ _ trivial ⟨env', H', S', β', h', hk⟩
    | ret => exact hQ _ _ _ trivial ⟨env', H', S', β', h', hk⟩
    | panic ch => exact hQ _ _ _ trivial ⟨env', H', S', β', h', hk⟩
    | outgrown => exact hQ _ _ _ trivial ⟨env', H', S', β', h', hk⟩
  | .cond c x y, hok, Q, Q', hQ, env, H, a, w, S, β, h, hr => by
    simp only [okCode, Bool.and_eq_true] at hok
    have hc := h.eval hok.1.1
    unfold awp acond at hr
    cases hd : aeval env c <;> rw [hd] at hr <;> try exact hr.elim
    rename_i b
    rw [hd] at hc
    cases hv : a.eval c <;> rw [hv] at hc <;> cases hc
    refine wp_cond hv ?_
    cases b with
    | true => exact awp_sound hT hI0 hw x hok.1.2 Q Q' hQ env H a w S β h (hr.1 rfl)
    | false => exact awp_sound hT hI0 hw y hok.2 Q Q' hQ env H a w S β h (hr.2 rfl)
  | .block id c, hok, Q, Q', hQ, env, H, a, w, S, β, h, hr => by
    refine wp_block (awp_sound hT hI0 hw c hok (ablock id Q) _ (fun e a w hng hl => ?_) env H a w S β h hr)
    obtain ⟨env', H', S', β', h', hk⟩ := hl
    cases e with
    | exit k =>
      simp only [ablock] at hk
      simp only [Exit.inBlock]
      split
      · rename_i e; rw [if_pos e] at hk; exact hQ _ _ _ trivial ⟨env', H', S', β', h', hk⟩
      · rename_i e; rw [if_neg e] at hk; exact hQ _ _ _ trivial ⟨env', H', S', β', h', hk⟩
    | goto l => exact hng.elim
    | normal => exact hQ _ _ _ trivial ⟨env', H', S', β', h', hk⟩
    | ret => exact hQ _ _ _ trivial ⟨env', H', S', β', h', hk⟩
    | panic ch => exact hQ _ _ _ trivial ⟨env', H', S', β', h', hk⟩
    | outgrown => exact hQ _ _ _ trivial ⟨env', H', S', β', h', hk⟩
  | .loop c, hok, Q, Q', hQ, env, H, a, w, S, β, h, hr => by
    obtain ⟨ι, E, G, I, μ, i, hi, hf, hround⟩ := hr
    obtain ⟨S1, β1, h1⟩ := hw.fit hI0 h hf
    refine wp_loop_ghost (fun k a w => ∃ i, μ i = k ∧ I i ∧ ∃ S β, Stt n w0 S0 β0 H0 (E i) (G i) a w S β) (μ i) ⟨i, rfl, hi, S1, β1, h1⟩ (fun k a w hI => ?_)
    obtain ⟨i, rfl, hIi, S', β', h'⟩ := hI
    refine awp_sound hT hI0 hw c hok _ _ (fun e a w hng hl => ?_) (E i) (G i) a w S' β' h' (hround i hIi)
    obtain ⟨env2, H2, S2, β2, h2, hk⟩ := hl
    cases e with
    | normal =>
      obtain ⟨j, hj, hlt, hf⟩ := hk
      obtain ⟨S3, β3, h3⟩ := hw.fit hI0 h2 hf
      exact ⟨μ j, hlt, j, rfl, hj, S3, β3, h3⟩
    | goto l => exact hng.elim
    | exit id => exact hQ _ _ _ trivial ⟨env2, H2, S2, β2, h2, hk⟩
    | ret => exact hQ _ _ _ trivial ⟨env2, H2, S2, β2, h2, hk⟩
    | panic ch => exact hQ _ _ _ trivial ⟨env2, H2, S2, β2, h2, hk⟩
    | outgrown => exact hQ _ _ _ trivial ⟨env2, H2, S2, β2, h2, hk⟩
  | .exit id, _, Q, Q', hQ, env, H, a, w, S, β, h, hr => wp_exit (hQ _ _ _ trivial ⟨env, H, S, β, h, hr⟩)
  | .ret, _, Q, Q', hQ, env, H, a, w, S, β, h, hr => wp_ret (hQ _ _ _ trivial ⟨env, H, S, β, h, hr⟩)
  | .label l, _, Q, Q', hQ, env, H, a, w, S, β, h, hr => wp_label (hQ _ _ _ trivial ⟨env, H, S, β, h, hr⟩)
  | .scope c, hok, Q, Q', hQ, env, H, a, w, S, β, h, hr => by
    refine wp_scope_straight (awp_sound hT hI0 hw c hok Q _ (fun e a w hng hl => ?_) env H a w S β h hr)
    cases e with
    | goto l => exact hng.elim
    | normal => exact hQ _ _ _ trivial hl
    | exit id => exact hQ _ _ _ trivial hl
    | ret => exact hQ _ _ _ trivial hl
    | panic ch => exact hQ _ _ _ trivial hl
    | outgrown => exact hQ _ _ _ trivial hl

end
end Go.Proofs.Ytbabdalfkmdlhaa
