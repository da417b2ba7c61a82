/- Functions: entered by the walk of their bodies; called with data, whatever the heap of the caller's. Of no program. -/
import Derived.Test.YtbabdalfkmdlhaaA15
namespace Go.Proofs.Ytbabdalfkmdlhaa
set_option linter.all false

def argEnv : List D → Nat → Env
  | [], _ => []
  | d :: r, i => (i, d) :: argEnv r (i + 1)

def resD (τ : Ty) (env : Env) (H : AHeap) : ResultVar → R
  | .tmp t => ⟨True, get env t, H⟩
  | .cell a t => aLoad τ t (get env a) H

def resL (τ : Ty) (env : Env) (H : AHeap) : List ResultVar → (List D → Prop) → Prop
  | [], k => k []
  | r :: rs, k => andR (resD τ env H r) fun d _ => resL τ env H rs fun ds => k (d :: ds)

def retK (τ : Ty) (rs : List ResultVar) (K : D → AHeap → Prop) (env : Env) (H : AHeap) : Prop :=
  match rs with
  | [r] => andR (resD τ env H r) fun d _ => K d H
  | rs => resL τ env H rs fun ds => K (.tup ds) H

def retQ (τ : Ty) (rs : List ResultVar) (K : D → AHeap → Prop) (e : Exit) (env : Env) (H : AHeap) : Prop :=
  match e with
  | .normal | .ret => retK τ rs K env H
  | _ => False

section
variable {P : Program} {τ : Ty} {n : Nat} {w0 : World} {S0 : Nat → Prop} {β0 : Bmap} {H0 : AHeap}
variable {env : Env} {H : AHeap} {a : Act} {w : World} {S : Nat → Prop} {β : Bmap}

theorem argEnv_get : ∀ (args : List D) (i t : Nat), get (argEnv args i) t = if t < i then .any else args.getD (t - i) .any
  | [], i, t => by simp [argEnv, get, List.getD]
  | d :: r, i, t => by
    simp only [argEnv, get, argEnv_get r (i + 1) t]
    by_cases e : i = t
    · subst e; simp [List.getD]
    · have e2 : (i == t) = false := by simp [e]
      rw [e2, cond_false]
      by_cases c : t < i
      · rw [if_pos (by omega), if_pos c]
      · rw [if_neg (by omega), if_neg c]
        have : t - i = (t - (i + 1)) + 1 := by omega
        rw [this]
        simp [List.getD]

theorem Stt.res (hT : TyOk P τ) (h : Stt n w0 S0 β0 H0 env H a w S β) {f : ResultVar → Sem Value} (f1 : ∀ t, f (.tmp t) = pure (a.tmps.getD t undef)) (f2 : ∀ x t, f (.cell x t) = do loadVar t (← asAddr (a.tmps.getD x undef))) (r : ResultVar) (ho : (resD τ env H r).ob) :
    ∃ v, (f r).run P w = .ok v w ∧ Rel w S β (resD τ env H r).d v := by
  have ev : ∀ t, Rel w S β (get env t) (a.tmps.getD t undef) := fun t => h.eval (x := .tmp t) rfl
  cases r with
  | tmp t => exact ⟨_, by rw [f1]; rfl, ev t⟩
  | cell x t =>
    have hx := ev x
    simp only [resD] at ho ⊢
    cases hd : get env x <;> rw [hd] at ho hx <;> simp only [aLoad] at ho ⊢ <;> try exact ho.elim
    · rename_i cs
      cases hv : a.tmps.getD x undef <;> rw [hv] at hx <;> cases hx
      rename_i ad vf h1 h2
      obtain ⟨v, h3, h4⟩ := loadVar_ok (P := P) hT (w := w) (S := S) (β := β) (t := t) (cs := cs) (a := ad) (fun j d hd =>
        ⟨vf j, (h1 j (List.getElem?_eq_some_iff.1 hd).1).2.1, (h1 j (List.getElem?_eq_some_iff.1 hd).1).2.2, h2 j d hd⟩) ho
      exact ⟨v, by rw [f2, hv]; simpa [asAddr] using h3, h4⟩
    · rename_i b o
      cases hv : a.tmps.getD x undef <;> rw [hv] at hx <;> cases hx
      rename_i blk off hk
      cases hc : cellsAt H b with
      | none => rw [hc] at ho; exact ho.elim
      | some cs =>
        rw [hc] at ho
        simp only at ho ⊢
        obtain ⟨v, h1, h2⟩ := loadVar_ok (P := P) hT (w := w) (S := S) (β := β) (t := t) (cs := cs.drop o) (a := ⟨blk, off + o, none⟩) (fun j d hd => by
          rw [List.getElem?_drop] at hd
          obtain ⟨v, h1, h2, h3⟩ := h.inv.cellsAt hc hk (o + j) d hd
          exact ⟨v, by rw [addr_at, Nat.add_assoc]; exact h1, h2, h3⟩) (partOb_drop ho)
        exact ⟨v, by rw [f2, hv]; simpa [asAddr] using h1, by rw [partD_drop]; exact h2⟩

theorem Stt.resL (hT : TyOk P τ) (h : Stt n w0 S0 β0 H0 env H a w S β) {f : ResultVar → Sem Value} (f1 : ∀ t, f (.tmp t) = pure (a.tmps.getD t undef)) (f2 : ∀ x t, f (.cell x t) = do loadVar t (← asAddr (a.tmps.getD x undef))) : ∀ (rs : List ResultVar) (k : List D → Prop), Go.Proofs.Ytbabdalfkmdlhaa.resL τ env H rs k →
    ∃ vs ds, (rs.mapM f).run P w = .ok vs w ∧ vs.length = ds.length ∧ rs.length = vs.length ∧ (∀ (i : Nat) (d : D) (v : Value), ds[i]? = some d → vs[i]? = some v → Rel w S β d v) ∧ k ds
  | [], k, hk => ⟨[], [], by simp, rfl, rfl, fun i d v hd _ => by simp at hd, hk⟩
  | r :: rs, k, hk => by
    obtain ⟨ho, hk⟩ := hk
    obtain ⟨v, h1, h2⟩ := h.res hT f1 f2 r ho
    obtain ⟨vs, ds, h3, h4, h5, h6, h7⟩ := Stt.resL hT h f1 f2 rs _ hk
    refine ⟨v :: vs, (resD τ env H r).d :: ds, ?_, by simp [h4], by simp [h5], fun i d u hd hu => ?_, h7⟩
    · simp only [List.mapM_cons, Sem.run_bind, h1, h3, Result.andThen_ok, Sem.run_pure]
    · cases i with
      | zero => simp at hd hu; subst hd; subst hu; exact h2
      | succ i => exact h6 i d u (by simpa using hd) (by simpa using hu)

theorem results_eq (fn : Func) (tmps : Array Value) : ∃ f : ResultVar → Sem Value, (∀ t, f (.tmp t) = pure (tmps.getD t undef)) ∧ (∀ x t, f (.cell x t) = do loadVar t (← asAddr (tmps.getD x undef))) ∧
    Go.results fn tmps = (do let vs ← fn.results.toList.mapM f; pure (if h : vs.toArray.size = 1 then vs.toArray[0] else .tuple vs.toArray)) := by
  refine ⟨fun r => match r with | .tmp t => pure (tmps.getD t undef) | .cell x t => do loadVar t (← asAddr (tmps.getD x undef)), fun _ => rfl, fun _ _ => rfl, ?_⟩
  unfold Go.results
  rw [Array.mapM_eq_mapM_toList]
  simp only [map_eq_pure_bind, bind_assoc, pure_bind]
  congr 1

theorem Stt.results (hT : TyOk P τ) (h : Stt n w0 S0 β0 H0 env H a w S β) (fn : Func) (K : D → AHeap → Prop) (hr : retK τ fn.results.toList K env H) :
    ∃ v d, (Go.results fn a.tmps).run P w = .ok v w ∧ Rel w S β d v ∧ K d H := by
  have gen : ∃ (vs : List Value) (ds : List D), vs.length = fn.results.toList.length ∧ vs.length = ds.length ∧ (∀ (i : Nat) (d : D) (v : Value), ds[i]? = some d → vs[i]? = some v → Rel w S β d v) ∧
      (Go.results fn a.tmps).run P w = .ok (if h : vs.toArray.size = 1 then vs.toArray[0] else .tuple vs.toArray) w ∧ K (if ds.length = 1 then ds.getD 0 .any else .tup ds) H := by
    have key : ∀ k, Go.Proofs.Ytbabdalfkmdlhaa.resL τ env H fn.results.toList k → ∃ (vs : List Value) (ds : List D), vs.length = fn.results.toList.length ∧ vs.length = ds.length ∧ (∀ (i : Nat) (d : D) (v : Value), ds[i]? = some d → vs[i]? = some v → Rel w S β d v) ∧
        (Go.results fn a.tmps).run P w = .ok (if h : vs.toArray.size = 1 then vs.toArray[0] else .tuple vs.toArray) w ∧ k ds := fun k hk => by
      obtain ⟨f, f1, f2, f3⟩ := results_eq fn a.tmps
      obtain ⟨vs, ds, h1, h2, h3, h4, h5⟩ := h.resL hT f1 f2 fn.results.toList k hk
      refine ⟨vs, ds, h3.symm, h2, h4, ?_, h5⟩
      rw [f3]
      simp only [Sem.run_bind, Sem.run_pure, h1, Result.andThen_ok]
    unfold retK at hr
    split at hr
    · rename_i r he
      obtain ⟨ho, hk⟩ := hr
      obtain ⟨vs, ds, h1, h2, h3, h4, h5⟩ := key (fun ds => K (if ds.length = 1 then ds.getD 0 .any else .tup ds) H) (by rw [he]; exact ⟨ho, by simpa [Go.Proofs.Ytbabdalfkmdlhaa.resL, List.getD] using hk⟩)
      exact ⟨vs, ds, h1, h2, h3, h4, h5⟩
    · rename_i hne
      obtain ⟨vs, ds, h1, h2, h3, h4, h5⟩ := key _ hr
      refine ⟨vs, ds, h1, h2, h3, h4, ?_⟩
      have : ds.length ≠ 1 := fun e => by
        rw [← h2, h1] at e
        match hl : fn.results.toList, e with
        | [r], _ => exact hne r hl
      rw [if_neg this]
      exact h5
  obtain ⟨vs, ds, h1, h2, h3, h4, h5⟩ := gen
  refine ⟨_, _, h4, ?_, h5⟩
  by_cases hl : ds.length = 1
  · have hl2 : vs.toArray.size = 1 := by simp; omega
    rw [dif_pos hl2, if_pos hl]
    have hd : ds[0]? = some (ds.getD 0 .any) := by simp [List.getD, hl]
    exact h3 0 _ _ hd (by simp)
  · have hl2 : ¬ vs.toArray.size = 1 := by simp; omega
    rw [dif_neg hl2, if_neg hl]
    exact .tup ds vs.toArray (by simpa using h2) (fun i d v hd hv => h3 i d v hd (by simpa using hv))

/-- A function by its body. -/
theorem acalls_of_awp (hT : TyOk P τ) {g : FuncId} {fn : Func} {c : Code} {args : List D} {H : AHeap} {K : D → AHeap → Prop} {fits : Env → AHeap → Env → AHeap → Prop} {draw : Nat → List Oper → (Env → AHeap → Prop) → Env → AHeap → Prop}
    (hf : P.funcs[g]? = some fn) (hnm : (fn.name == "runtime.NumGoroutine") = false) (hb : fn.body = some c) (hn : args.length ≤ fn.ntmps) (hok : okCode fn.ntmps c = true) (hw : WOk P τ fn.ntmps H fits draw)
    (h : awp P τ fits draw c (retQ τ fn.results.toList K) (argEnv args 0) H) : ACalls P g args H K := by
  refine ⟨⟨fn, hf, hnm, by rw [hb]; rfl⟩, fun w S β vs hI hl hr => ?_⟩
  refine calls_of_wp hf hb ?_
  have hst : Stt fn.ntmps w S β H (argEnv args 0) H { tmps := vs ++ Array.replicate (fn.ntmps - vs.size) undef, defers := [] } w S β := by
    refine ⟨rfl, by simp; omega, fun t => ?_, hI, Evo.refl _ _ _ _⟩
    rw [argEnv_get]
    simp only [Nat.not_lt_zero, if_false, Nat.sub_zero]
    by_cases ht : t < args.length
    · right
      refine ⟨vs[t]'(by omega), by simp [Array.getElem?_append, show t < vs.size by omega], hr t _ _ ?_ (by simp [show t < vs.size by omega])⟩
      simp [List.getD, ht]
    · left
      simp [List.getD, List.getElem?_eq_none (Nat.le_of_not_lt ht)]
  refine awp_sound hT hI hw c hok (retQ τ fn.results.toList K) _ (fun e a w' hng hl => ?_) (argEnv args 0) H _ w S β hst h
  obtain ⟨env', H', S', β', h', hk⟩ := hl
  have fin : retK τ fn.results.toList K env' H' → ∃ v, (Go.results fn a.tmps).run P w' = .ok v w' ∧ ∃ v' d H'' S' β', Ending.returned v = .returned v' ∧ AInv w' S' β' H'' ∧ Evo w S β H w' S' β' H'' ∧ Rel w' S' β' d v' ∧ K d H'' := fun hk => by
    obtain ⟨v, d, h1, h2, h3⟩ := h'.results hT fn K hk
    exact ⟨v, h1, v, d, H', S', β', rfl, h'.inv, h'.evo, h2, h3⟩
  cases e with
  | normal => exact ⟨h'.defers, fin hk⟩
  | ret => exact ⟨h'.defers, fin hk⟩
  | exit id => exact hk.elim
  | goto l => exact hk.elim
  | panic ch => exact hk.elim
  | outgrown => exact hk.elim

/-- What is told of another's call leaves one's own heap as it was. -/
theorem AInv.frame {w' : World} {S' βs : _} {Hs' : AHeap} (hI : AInv w S β H) (hE : Evo w S [] [] w' S' βs Hs') (hold : ∀ b, S' b → b < w'.heap.size) : AInv w' S' β H ∧ Evo w S β H w' S' β H := by
  have nomut : ∀ b, ¬ Mut [] [] b := fun b ⟨i, cs, o, h, _⟩ => by simp at h
  have hheap : ∀ b, b < w.heap.size → w'.heap[b]? = w.heap[b]? := fun b hb => hE.frame b hb (nomut b)
  have hS : ∀ b, b < w.heap.size → S' b → S b := fun b hb h => by
    rcases hE.newS b h with h | h | h
    · exact h
    · exact absurd h (nomut b)
    · omega
  have keep : ∀ {d v}, Rel w S β d v → Rel w' S' β d v := fun h => h.keep (fun b hb => hheap b (hI.old b hb)) hE.sub (fun _ _ h => h) hE.shape
  have lies : ∀ {cs b0 o1 vs0 T0 fr0}, Lies w S β cs b0 o1 vs0 T0 fr0 → Lies w' S' β cs b0 o1 vs0 T0 fr0 := fun h =>
    ⟨by rw [hheap _ (Array.getElem?_eq_some_iff.1 h.heap).1]; exact h.heap, h.one, fun i d hd => let ⟨v, h1, h2⟩ := h.cell i d hd; ⟨v, h1, keep h2⟩⟩
  refine ⟨⟨hI.len, fun b cs h => ?_, fun b cs h => ?_, hI.apart, hold, hI.void⟩,
    ⟨hE.os, hE.output, hE.size, fun b hb _ => hheap b hb, hE.shape, hE.sub, fun _ _ h => h, fun b h => ?_, fun _ h => .inl h⟩⟩
  · rcases hI.live b cs h with h | ⟨b0, o, vs0, T0, fr0, h3, h4, h5, h6⟩
    · exact .inl h
    · exact .inr ⟨b0, o, vs0, T0, fr0, h3, fun hs => h4 (hS b0 (Array.getElem?_eq_some_iff.1 h6.heap).1 hs), h5, lies h6⟩
  · rcases hI.froz b cs h with h | ⟨b0, o, vs0, T0, fr0, h3, h4, h6⟩
    · exact .inl h
    · exact .inr ⟨b0, o, vs0, T0, fr0, h3, hE.sub _ h4, lies h6⟩
  · rcases hE.newS b h with h | h | h
    · exact .inl h
    · exact absurd h (nomut b)
    · exact .inr (.inr h)

end

def Blk.fz : Blk → Blk
  | .live cs => .froz cs
  | b => b

section
variable {w : World} {S : Nat → Prop} {β : Bmap} {H : AHeap}

theorem AInv.freezeUpTo (hI : AInv w S β H) : ∀ (k : Nat), ∃ S', AInv w S' β ((H.take k).map Blk.fz ++ H.drop k) ∧ Evo w S β H w S' β ((H.take k).map Blk.fz ++ H.drop k)
  | 0 => ⟨S, by simpa using hI, by simpa using Evo.refl _ _ _ _⟩
  | k + 1 => by
    obtain ⟨S', h1, h2⟩ := hI.freezeUpTo k
    by_cases hk : k < H.length
    · have e1 : (H.take (k + 1)).map Blk.fz ++ H.drop (k + 1) = ((H.take k).map Blk.fz ++ H.drop k).set k (H[k].fz) := by
        rw [List.set_append_right _ _ (by simp; omega)]
        have hlen : ((H.take k).map Blk.fz).length = k := by simp; omega
        rw [hlen, Nat.sub_self, List.take_succ_eq_append_getElem hk, List.map_append, List.drop_eq_getElem_cons hk]
        simp only [List.map_cons, List.map_nil, List.append_assoc, List.cons_append, List.nil_append, List.set_cons_zero]
      have hget : ((H.take k).map Blk.fz ++ H.drop k)[k]? = some H[k] := by
        rw [List.getElem?_append_right (by rw [List.length_map, List.length_take]; omega), List.getElem?_drop]
        simp [Nat.min_eq_left (Nat.le_of_lt hk), hk]
      rw [e1]
      cases hb : H[k] with
      | live cs =>
        rw [hb] at hget
        obtain ⟨S'', g1, g2, _⟩ := h1.freeze hget
        exact ⟨S'', g1, h2.trans g2⟩
      | _ =>
        rw [hb] at hget
        simp only [Blk.fz]
        rw [set_self hget]
        exact ⟨S', h1, h2⟩
    · have e1 : (H.take (k + 1)).map Blk.fz ++ H.drop (k + 1) = (H.take k).map Blk.fz ++ H.drop k := by
        rw [List.take_of_length_le (by omega), List.take_of_length_le (by omega), List.drop_of_length_le (by omega), List.drop_of_length_le (by omega)]
      rw [e1]
      exact ⟨S', h1, h2⟩

theorem AInv.freezeAll (hI : AInv w S β H) : ∃ S', AInv w S' β (H.map Blk.fz) ∧ Evo w S β H w S' β (H.map Blk.fz) := by
  obtain ⟨S', h1, h2⟩ := hI.freezeUpTo H.length
  simp only [List.take_length, List.drop_length, List.append_nil] at h1 h2
  exact ⟨S', h1, h2⟩

end

/-- Whatever is told by 'r' over the heap is told by 'd', which names no block. -/
def Sub (H : AHeap) (r d : D) : Prop :=
  d.noIds = true ∧ ∀ (w : World) (S : Nat → Prop) (β : Bmap) (v : Value), AInv w S β H → Rel w S β r v → Rel w S β d v

theorem Sub.refl {H : AHeap} {d : D} (h : d.noIds = true) : Sub H d d := ⟨h, fun _ _ _ _ _ h => h⟩

/-- A function of data: called on data it returns data. -/
def PureF (P : Program) (g : FuncId) (args : List D) (d : D) : Prop := ACalls P g args [] fun r H' => Sub (H'.map Blk.fz) r d

theorem pcall_sub {P : Program} {g : FuncId} {args pargs : List D} {d : D} {H : AHeap} {K : D → AHeap → Prop} (hF : PureF P g pargs d) (hl : args.length = pargs.length) (hs : ∀ (i : Nat) (x y : D), args[i]? = some x → pargs[i]? = some y → Sub H x y) (hk : K d H) : ACalls P g args H K := by
  refine ⟨hF.1, fun w S β vs hI hlv hr => ?_⟩
  have hI0 : AInv w S [] [] := ⟨rfl, fun b cs h => by simp at h, fun b cs h => by simp at h, fun b b' cs cs' blk o o' h => by simp at h, hI.old, fun b h => by simp at h⟩
  refine (hF.2 w S [] vs hI0 (by omega) (fun i y v hy hv => ?_)).mono ?_
  · have hi : i < args.length := by rw [hl]; exact (List.getElem?_eq_some_iff.1 hy).1
    obtain ⟨h1, h2⟩ := hs i _ y (List.getElem?_eq_getElem hi) hy
    exact (h2 w S β v hI (hr i _ v (List.getElem?_eq_getElem hi) hv)).noIds [] h1
  · rintro e w' ⟨v, r, Hs', S', βs, rfl, h1, h2, h3, h4, h5⟩
    obtain ⟨S'', h6, h7⟩ := h1.freezeAll
    have h8 := (h5 w' S'' βs v h6 (h3.evo h1 h7)).noIds β h4
    obtain ⟨h9, h10⟩ := hI.frame (h2.trans h7) h6.old
    exact ⟨v, d, H, S'', β, rfl, h9, h10, h8, hk⟩

theorem pcall {P : Program} {g : FuncId} {args : List D} {d : D} {H : AHeap} {K : D → AHeap → Prop} (hF : PureF P g args d) (hn : args.all D.noIds = true) (hk : K d H) : ACalls P g args H K :=
  pcall_sub hF rfl (fun i x y hx hy => by rw [hx] at hy; cases hy; exact Sub.refl (List.all_eq_true.1 hn x (List.mem_of_getElem? hx))) hk

/-- Ahead of a call a block of one's own becomes one for good. -/
theorem acall_froz {P : Program} {g : FuncId} {args : List D} {H : AHeap} {K : D → AHeap → Prop} (b : Nat) {cs : List D} (hb : H[b]? = some (.live cs)) (h : ACalls P g args (H.set b (.froz cs)) K) : ACalls P g args H K := by
  refine ⟨h.1, fun w S β vs hI hl hr => ?_⟩
  obtain ⟨S', h1, h2, h3⟩ := hI.freeze hb
  refine (h.2 w S' β vs h1 hl (fun i d v hd hv => (hr i d v hd hv).evo hI h2)).mono ?_
  rintro e w' ⟨v, d, H', S'', β', rfl, h4, h5, h6, h7⟩
  exact ⟨v, d, H', S'', β', rfl, h4, h2.trans h5, h6, h7⟩

end Go.Proofs.Ytbabdalfkmdlhaa
