/- Ghost steps (forgetting, renaming, freezing), functions entered, data handed in and back without memory. Of no program. -/
import Derived.Test.YtbabdalfkmdlhaaA14
namespace Go.Proofs.Ytbabdalfkmdlhaa
set_option linter.all false

mutual
/-- Does it name no abstract block? -/
def D.noIds : D → Bool
  | .any => false
  | .agg cs => D.noIdsL cs
  | .sl _ es _ => D.noIdsL es
  | .ref _ _ _ _ => false
  | .cp cs => D.noIdsL cs
  | .ptr _ _ => false
  | .fn _ cap => D.noIdsL cap
  | .tup vs => D.noIdsL vs
  | .iface _ d => D.noIds d
  | _ => true
def D.noIdsL : List D → Bool
  | [] => true
  | d :: ds => D.noIds d && D.noIdsL ds
end

mutual
/-- Does it name but blocks below 'n'? -/
def D.bnd (n : Nat) : D → Bool
  | .agg cs => D.bndL n cs
  | .sl _ es _ => D.bndL n es
  | .ref b _ _ _ => decide (b < n)
  | .cp cs => D.bndL n cs
  | .ptr b _ => decide (b < n)
  | .fn _ cap => D.bndL n cap
  | .tup vs => D.bndL n vs
  | .iface _ d => D.bnd n d
  | _ => true
def D.bndL (n : Nat) : List D → Bool
  | [] => true
  | d :: ds => D.bnd n d && D.bndL n ds
end

mutual
def D.ren (ρ : List Nat) : D → D
  | .agg cs => .agg (D.renL ρ cs)
  | .sl sz es t => .sl sz (D.renL ρ es) t
  | .ref b o len sz => .ref (ρ.getD b 0) o len sz
  | .cp cs => .cp (D.renL ρ cs)
  | .ptr b o => .ptr (ρ.getD b 0) o
  | .fn f cap => .fn f (D.renL ρ cap)
  | .tup vs => .tup (D.renL ρ vs)
  | .iface t d => .iface t (D.ren ρ d)
  | d => d
def D.renL (ρ : List Nat) : List D → List D
  | [] => []
  | d :: ds => D.ren ρ d :: D.renL ρ ds
end

theorem D.noIdsL_eq (l : List D) : D.noIdsL l = l.all D.noIds := by
  induction l with
  | nil => rfl
  | cons d l ih => simp [D.noIdsL, ih]
theorem D.bndL_eq (n : Nat) (l : List D) : D.bndL n l = l.all (D.bnd n) := by
  induction l with
  | nil => rfl
  | cons d l ih => simp [D.bndL, ih]
theorem D.renL_eq (ρ : List Nat) (l : List D) : D.renL ρ l = l.map (D.ren ρ) := by
  induction l with
  | nil => rfl
  | cons d l ih => simp [D.renL, ih]

theorem D.ren_cells (ρ : List Nat) (d : D) : (d.ren ρ).cells = d.cells.map (D.ren ρ) := by
  cases d <;> simp [D.ren, D.cells, D.renL_eq]

theorem D.bnd_cells {n : Nat} {d : D} (h : d.bnd n = true) : ∀ x, x ∈ d.cells → x.bnd n = true := by
  cases d <;> simp_all [D.bnd, D.cells, D.bndL_eq]

section
variable {w : World} {S : Nat → Prop} {β : Bmap} {H : AHeap}

def renB (ρ : List Nat) (β : Bmap) : Bmap := ρ.map fun r => β.getD r none

theorem renB_bk {ρ : List Nat} {b : Nat} {x : Option (Nat × Nat)} (hb : b < ρ.length) (h : Bk β (ρ.getD b 0) x) : Bk (renB ρ β) b x := by
  unfold Bk at *
  have e : ρ.getD b 0 = ρ[b] := by simp [List.getD, hb]
  rw [e] at h
  simp [renB, hb, List.getD, h]

theorem bk_renB {ρ : List Nat} {b : Nat} {x : Option (Nat × Nat)} (h : Bk (renB ρ β) b x) : b < ρ.length ∧ Bk β (ρ.getD b 0) x := by
  unfold Bk at *
  have hb : b < ρ.length := by
    have := (List.getElem?_eq_some_iff.1 h).1
    simpa [renB] using this
  refine ⟨hb, ?_⟩
  have e : ρ.getD b 0 = ρ[b] := by simp [List.getD, hb]
  rw [e]
  simp only [renB, List.getElem?_map, List.getElem?_eq_getElem hb, Option.map_some, Option.some.injEq] at h
  cases hx : β[ρ[b]]? with
  | none => simp [List.getD, hx] at h
  | some y => simp [List.getD, hx] at h; rw [h]

theorem Rel.ren {ρ : List Nat} {d0 : D} {v : Value} (h : Rel w S β d0 v) : ∀ d, d.ren ρ = d0 → d.bnd ρ.length = true → Rel w S (renB ρ β) d v := by
  induction h with
  | any v => intro d e _; cases d <;> simp [D.ren] at e; exact .any v
  | int k n h1 h2 => intro d e _; cases d <;> simp [D.ren] at e; obtain ⟨rfl, rfl⟩ := e; exact .int _ _ h1 h2
  | bool b => intro d e _; cases d <;> simp [D.ren] at e; subst e; exact .bool _
  | str s h => intro d e _; cases d <;> simp [D.ren] at e; subst e; exact .str _ h
  | agg ds vs h1 h0 h2 ih =>
    intro d e hb
    cases d <;> simp [D.ren] at e
    rename_i cs
    rw [D.renL_eq] at e
    subst e
    simp only [D.bnd, D.bndL_eq, List.all_eq_true] at hb
    refine .agg cs vs (by simpa using h1) h0 (fun i d v hd hv => ih i _ v (by simp [hd]) hv d rfl (hb d (List.mem_of_getElem? hd)))
  | nil => intro d e _; cases d <;> simp [D.ren] at e; exact .nil
  | slNone sz t =>
    intro d e hb0
    cases d <;> simp [D.ren] at e
    rename_i sz' es t'
    obtain ⟨rfl, e, rfl⟩ := e
    cases es with
    | nil => exact .slNone _ _
    | cons x xs => simp [D.renL] at e
  | sl sz es t ad cap vf h1 h2 h3 h4 h5 h6 ih =>
    intro d e hb
    cases d <;> simp [D.ren] at e
    rename_i sz' es' t'
    obtain ⟨rfl, e, rfl⟩ := e
    rw [D.renL_eq] at e
    subst e
    simp only [D.bnd, D.bndL_eq, List.all_eq_true] at hb
    have hl : (es'.map (D.ren ρ)).length = es'.length := by simp
    have := Rel.sl (w := w) (S := S) (β := renB ρ β) sz' es' t' ad cap vf (by simpa using h1) h2 (by simpa using h3)
      (fun x hx => by have := h4 (x.ren ρ) (List.mem_map_of_mem hx); rw [D.ren_cells] at this; simpa using this)
      (by simpa using h5)
      (fun i x j d hx hd => ih i (x.ren ρ) j (d.ren ρ) (by simp [hx]) (by rw [D.ren_cells]; simp [hd]) d rfl (D.bnd_cells (hb x (List.mem_of_getElem? hx)) d (List.mem_of_getElem? hd)))
    rw [← hl] at this
    exact this
  | ref b o len sz blk off cap h1 h2 h3 T n h4 h5 =>
    intro d e hb
    cases d <;> simp [D.ren] at e
    obtain ⟨e1, rfl, rfl, rfl⟩ := e
    simp only [D.bnd, decide_eq_true_eq] at hb
    exact .ref _ _ _ _ blk off cap (renB_bk hb (by rw [List.getD_eq_getElem?_getD, e1]; exact h1)) h2 h3 T n h4 h5
  | refEmpty b o sz a => intro d e _; cases d <;> simp [D.ren] at e; obtain ⟨_, rfl, rfl, rfl⟩ := e; exact .refEmpty _ _ _ _
  | cp cs ad vf h1 h2 ih =>
    intro d e hb
    cases d <;> simp [D.ren] at e
    rename_i cs'
    rw [D.renL_eq] at e
    subst e
    simp only [D.bnd, D.bndL_eq, List.all_eq_true] at hb
    exact .cp cs' ad vf (by simpa using h1) (fun j d hd => ih j _ (by simp [hd]) d rfl (hb d (List.mem_of_getElem? hd)))
  | ptr b o blk off h1 =>
    intro d e hb
    cases d <;> simp [D.ren] at e
    obtain ⟨e1, rfl⟩ := e
    simp only [D.bnd, decide_eq_true_eq] at hb
    exact .ptr _ _ blk off (renB_bk hb (by rw [List.getD_eq_getElem?_getD, e1]; exact h1))
  | nilp => intro d e _; cases d <;> simp [D.ren] at e; exact .nilp
  | fn f ds vs h1 h2 ih =>
    intro d e hb
    cases d <;> simp [D.ren] at e
    rename_i f' cs
    obtain ⟨rfl, e⟩ := e
    rw [D.renL_eq] at e
    subst e
    simp only [D.bnd, D.bndL_eq, List.all_eq_true] at hb
    exact .fn _ cs vs (by simpa using h1) (fun i d v hd hv => ih i _ v (by simp [hd]) hv d rfl (hb d (List.mem_of_getElem? hd)))
  | nilf => intro d e _; cases d <;> simp [D.ren] at e; exact .nilf
  | tup ds vs h1 h2 ih =>
    intro d e hb
    cases d <;> simp [D.ren] at e
    rename_i cs
    rw [D.renL_eq] at e
    subst e
    simp only [D.bnd, D.bndL_eq, List.all_eq_true] at hb
    exact .tup cs vs (by simpa using h1) (fun i d v hd hv => ih i _ v (by simp [hd]) hv d rfl (hb d (List.mem_of_getElem? hd)))
  | niface => intro d e _; cases d <;> simp [D.ren] at e; exact .niface
  | iface t d v _ ih =>
    intro d' e hb
    cases d' <;> simp [D.ren] at e
    obtain ⟨rfl, e⟩ := e
    simp only [D.bnd] at hb
    exact .iface _ _ v (ih _ e hb)

/-- What names no block is told at any map of blocks. -/
theorem Rel.noIds {d : D} {v : Value} (h : Rel w S β d v) (β' : Bmap) : d.noIds = true → Rel w S β' d v := by
  induction h with
  | any v => intro e; simp [D.noIds] at e
  | int k n h1 h2 => exact fun _ => .int _ _ h1 h2
  | bool b => exact fun _ => .bool _
  | str s h => exact fun _ => .str _ h
  | agg ds vs h1 h0 h2 ih =>
    intro e
    simp only [D.noIds, D.noIdsL_eq, List.all_eq_true] at e
    exact .agg ds vs h1 h0 (fun i d v hd hv => ih i d v hd hv (e d (List.mem_of_getElem? hd)))
  | nil => exact fun _ => .nil
  | slNone sz t => exact fun _ => .slNone _ _
  | sl sz es t ad cap vf h1 h2 h3 h4 h5 h6 ih =>
    intro e
    simp only [D.noIds, D.noIdsL_eq, List.all_eq_true] at e
    refine .sl sz es t ad cap vf h1 h2 h3 h4 h5 (fun i x j d hx hd => ih i x j d hx hd ?_)
    have hx2 := e x (List.mem_of_getElem? hx)
    have hd2 := List.mem_of_getElem? hd
    cases x <;> simp_all [D.noIds, D.cells, D.noIdsL_eq]
  | ref b o len sz blk off cap h1 h2 h3 T n h4 h5 => intro e; simp [D.noIds] at e
  | refEmpty b o sz a => intro e; simp [D.noIds] at e
  | cp cs ad vf h1 h2 ih =>
    intro e
    simp only [D.noIds, D.noIdsL_eq, List.all_eq_true] at e
    exact .cp cs ad vf h1 (fun j d hd => ih j d hd (e d (List.mem_of_getElem? hd)))
  | ptr b o blk off h1 => intro e; simp [D.noIds] at e
  | nilp => exact fun _ => .nilp
  | fn f ds vs h1 h2 ih =>
    intro e
    simp only [D.noIds, D.noIdsL_eq, List.all_eq_true] at e
    exact .fn f ds vs h1 (fun i d v hd hv => ih i d v hd hv (e d (List.mem_of_getElem? hd)))
  | nilf => exact fun _ => .nilf
  | tup ds vs h1 h2 ih =>
    intro e
    simp only [D.noIds, D.noIdsL_eq, List.all_eq_true] at e
    exact .tup ds vs h1 (fun i d v hd hv => ih i d v hd hv (e d (List.mem_of_getElem? hd)))
  | niface => exact fun _ => .niface
  | iface t d v _ ih => intro e; exact .iface t d v (ih (by simpa [D.noIds] using e))

/-- A block of one's own is one for good from now on. -/
theorem AInv.freeze (hI : AInv w S β H) {b : Nat} {cs : List D} (hb : H[b]? = some (.live cs)) :
    ∃ S', AInv w S' β (H.set b (.froz cs)) ∧ Evo w S β H w S' β (H.set b (.froz cs)) ∧ (∀ x, S x → S' x) := by
  have hlt : b < H.length := (List.getElem?_eq_some_iff.1 hb).1
  let S' : Nat → Prop := fun x => S x ∨ ∃ off, Bk β b (some (x, off))
  have sub : ∀ x, S x → S' x := fun x h => .inl h
  have keep : ∀ {d v}, Rel w S β d v → Rel w S' β d v := fun h => h.keep (fun _ _ => rfl) sub (fun _ _ h => h) (fun _ _ h => h)
  have lies : ∀ {cs b0 o1 vs0 T0 fr0}, Lies w S β cs b0 o1 vs0 T0 fr0 → Lies w S' β cs b0 o1 vs0 T0 fr0 := fun h =>
    ⟨h.heap, h.one, fun i d hd => let ⟨v, h1, h2⟩ := h.cell i d hd; ⟨v, h1, keep h2⟩⟩
  have hget : ∀ (b' : Nat) (x : Blk), b' ≠ b → (H.set b (.froz cs))[b']? = some x → H[b']? = some x := fun b' x hne h => by
    rwa [List.getElem?_set_ne (Ne.symm hne)] at h
  have hself : (H.set b (.froz cs))[b]? = some (.froz cs) := List.getElem?_set_self hlt
  have mutb : ∀ x off, Bk β b (some (x, off)) → Mut β H x := fun x off h => ⟨b, cs, off, hb, h⟩
  have hlive := hI.live b cs hb
  refine ⟨S', ⟨by simp [hI.len], fun b' c h => ?_, fun b' c h => ?_, fun b1 b2 c1 c2 blk o o' h1 h2 k1 k2 => ?_, fun x h => ?_, fun b' h => ?_⟩,
    ⟨rfl, rfl, Nat.le_refl _, fun _ _ _ => rfl, fun _ _ h => h, sub, fun _ _ h => h, fun x h => ?_, ?_⟩, sub⟩
  · have hne : b' ≠ b := fun e => by subst e; rw [hself] at h; cases h
    have h := hget _ _ hne h
    rcases hI.live b' c h with h1 | ⟨b0, o, vs0, T0, fr0, h3, h4, h5, h6⟩
    · exact .inl h1
    · refine .inr ⟨b0, o, vs0, T0, fr0, h3, fun hs => ?_, h5, lies h6⟩
      rcases hs with hs | ⟨off, hs⟩
      · exact h4 hs
      · exact hne (hI.apart b' b c cs b0 o off h hb h3 hs)
  · by_cases hne : b' = b
    · subst hne
      rw [hself] at h; cases h
      rcases hlive with h1 | ⟨b0, o, vs0, T0, fr0, h3, h4, h5, h6⟩
      · exact .inl h1
      · exact .inr ⟨b0, o, vs0, T0, fr0, h3, .inr ⟨o, h3⟩, lies h6⟩
    · have h := hget _ _ hne h
      rcases hI.froz b' c h with h1 | ⟨b0, o, vs0, T0, fr0, h3, h4, h6⟩
      · exact .inl h1
      · exact .inr ⟨b0, o, vs0, T0, fr0, h3, .inl h4, lies h6⟩
  · have hne1 : b1 ≠ b := fun e => by subst e; rw [hself] at h1; cases h1
    have hne2 : b2 ≠ b := fun e => by subst e; rw [hself] at h2; cases h2
    exact hI.apart b1 b2 c1 c2 blk o o' (hget _ _ hne1 h1) (hget _ _ hne2 h2) k1 k2
  · rcases h with h | ⟨off, h⟩
    · exact hI.old x h
    · rcases hlive with ⟨_, h1⟩ | ⟨b0, o, vs0, T0, fr0, h3, h4, h5, h6⟩
      · unfold Bk at *; rw [h] at h1; cases h1
      · unfold Bk at *; rw [h] at h3; cases h3
        exact (Array.getElem?_eq_some_iff.1 h6.heap).1
  · have hne : b' ≠ b := fun e => by subst e; rw [hself] at h; cases h
    exact hI.void b' (hget _ _ hne h)
  · rcases h with h | ⟨off, h⟩
    · exact .inl h
    · exact .inr (.inl (mutb x off h))
  · rintro x ⟨i, c, o, h, hk⟩
    have hne : i ≠ b := fun e => by subst e; rw [hself] at h; cases h
    exact .inl ⟨i, c, o, hget _ _ hne h, hk⟩

end

def renBlk (ρ : List Nat) : Blk → Blk
  | .live cs => .live (cs.map (D.ren ρ))
  | .froz cs => .froz (cs.map (D.ren ρ))
  | b => b

def bndBlk (n : Nat) : Blk → Bool
  | .live cs | .froz cs => cs.all (D.bnd n)
  | .dead => true
  | .void => false

/-- Block by block: what 'G' tells of a block, 'H' tells of the one that it was. -/
def fitsHeap (ρ0 : List Nat) (H : AHeap) : List Nat → AHeap → Prop
  | [], [] => True
  | r :: rs, b :: bs => (match b with
      | .dead => True
      | b => bndBlk ρ0.length b = true ∧ H[r]? = some (renBlk ρ0 b)) ∧ fitsHeap ρ0 H rs bs
  | _, _ => False

def fitsEnv (ρ : List Nat) (env : Env) : Env → Prop
  | [] => True
  | (t, d) :: r => (d.bnd ρ.length = true ∧ get env t = d.ren ρ) ∧ fitsEnv ρ env r

def liveIds : List Nat → AHeap → List Nat
  | r :: rs, .live _ :: bs => r :: liveIds rs bs
  | _ :: rs, _ :: bs => liveIds rs bs
  | _, _ => []

/-- The second tells no more than the first. -/
def le1 (a b : D) : Prop := a = b ∨ (a = .nil ∧ ∃ sz t, b = .sl sz [] t) ∨ ∃ sz es, a = .sl sz es true ∧ b = .sl sz es false
def leC : List D → List D → Prop
  | [], [] => True
  | x :: xs, y :: ys => le1 x y ∧ leC xs ys
  | _, _ => False
def leD (a b : D) : Prop := le1 a b ∨ ∃ xs ys, a = .agg xs ∧ b = .agg ys ∧ leC xs ys
def leEnv (env : Env) : Env → Prop
  | [] => True
  | (t, d) :: r => leD (get env t) d ∧ leEnv env r
def leB : Blk → Blk → Prop
  | .live xs, .live ys => leC xs ys
  | .froz xs, .froz ys => leC xs ys
  | a, b => a = b
def leH : AHeap → AHeap → Prop
  | [], [] => True
  | x :: xs, y :: ys => leB x y ∧ leH xs ys
  | _, _ => False

theorem le1_rel {w : World} {S : Nat → Prop} {β : Bmap} {a b : D} {v : Value} (h : le1 a b) (hr : Rel w S β a v) : Rel w S β b v := by
  rcases h with rfl | ⟨rfl, sz, t, rfl⟩ | ⟨sz, es, rfl, rfl⟩
  · exact hr
  · cases hr; exact .slNone _ _
  · cases hr with
    | slNone => exact .slNone _ _
    | sl sz es t ad cap vf h1 h2 h3 h4 h5 h6 => exact .sl sz es false ad cap vf h1 h2 (fun h => by cases h) h4 h5 h6
theorem leC_get : ∀ {xs ys : List D}, leC xs ys → xs.length = ys.length ∧ ∀ (i : Nat) (y : D), ys[i]? = some y → ∃ x, xs[i]? = some x ∧ le1 x y
  | [], [], _ => ⟨rfl, fun i y h => by simp at h⟩
  | x :: xs, y :: ys, h => by
    obtain ⟨h1, h2⟩ := leC_get h.2
    refine ⟨by simp [h1], fun i y' hy => ?_⟩
    cases i with
    | zero => simp at hy; subst hy; exact ⟨x, rfl, h.1⟩
    | succ i => exact h2 i y' (by simpa using hy)
  | [], _ :: _, h => h.elim
  | _ :: _, [], h => h.elim
theorem leD_rel {w : World} {S : Nat → Prop} {β : Bmap} {a b : D} {v : Value} (h : leD a b) (hr : Rel w S β a v) : Rel w S β b v := by
  rcases h with h | ⟨xs, ys, rfl, rfl, h⟩
  · exact le1_rel h hr
  · obtain ⟨h1, h2⟩ := leC_get h
    cases hr with
    | agg _ vs k1 k0 k2 =>
      refine .agg ys vs (by rw [k1, h1]) k0 fun i d v hd hv => ?_
      obtain ⟨x, hx, hl⟩ := h2 i d hd
      exact le1_rel hl (k2 i x v hx hv)
theorem leEnv_get {env : Env} : ∀ {E : Env}, leEnv env E → ∀ t, get E t = .any ∨ leD (get env t) (get E t)
  | [], _, _ => .inl rfl
  | (k, d) :: r, h, t => by
    simp only [get]
    by_cases e : k = t
    · subst e; right; simpa using h.1
    · have : (k == t) = false := by simp [e]
      rw [this]; exact leEnv_get h.2 t
theorem leH_get : ∀ {H G : AHeap}, leH H G → H.length = G.length ∧ ∀ (i : Nat) (b : Blk), G[i]? = some b → ∃ a, H[i]? = some a ∧ leB a b
  | [], [], _ => ⟨rfl, fun i y h => by simp at h⟩
  | x :: xs, y :: ys, h => by
    obtain ⟨h1, h2⟩ := leH_get h.2
    refine ⟨by simp [h1], fun i y' hy => ?_⟩
    cases i with
    | zero => simp at hy; subst hy; exact ⟨x, rfl, h.1⟩
    | succ i => exact h2 i y' (by simpa using hy)
  | [], _ :: _, h => h.elim
  | _ :: _, [], h => h.elim

theorem Lies.le {w : World} {S : Nat → Prop} {β : Bmap} {xs ys : List D} {blk off : Nat} {vs : Array Value} {T : TypeId} {fr : Nat × Nat} (h : leC xs ys) (hl : Lies w S β xs blk off vs T fr) : Lies w S β ys blk off vs T fr := by
  obtain ⟨h1, h2⟩ := leC_get h
  refine ⟨hl.heap, fun i v hi hv => hl.one i v (by omega) hv, fun i d hd => ?_⟩
  obtain ⟨x, hx, hle⟩ := h2 i d hd
  obtain ⟨v, k1, k2⟩ := hl.cell i x hx
  exact ⟨v, k1, le1_rel hle k2⟩

theorem leB_live {a : Blk} {ys : List D} (h : leB a (.live ys)) : ∃ xs, a = .live xs ∧ leC xs ys := by
  cases a with
  | live xs => exact ⟨xs, rfl, h⟩
  | _ => cases h
theorem leB_froz {a : Blk} {ys : List D} (h : leB a (.froz ys)) : ∃ xs, a = .froz xs ∧ leC xs ys := by
  cases a with
  | froz xs => exact ⟨xs, rfl, h⟩
  | _ => cases h
theorem leB_void {a : Blk} (h : leB a .void) : a = .void := by cases a <;> first | rfl | cases h

inductive Fits (n0 : Nat) : Env → AHeap → Env → AHeap → Prop
  | le (env : Env) (H : AHeap) (E : Env) (G : AHeap) (h1 : leEnv env E) (h2 : leH H G) : Fits n0 env H E G
  | weak (env : Env) (H : AHeap) (E : Env) (h : weaker env E) : Fits n0 env H E H
  | ren (ρ : List Nat) (env : Env) (H : AHeap) (E : Env) (G : AHeap) (h1 : fitsEnv ρ env E) (h2 : fitsHeap ρ H ρ G) (h3 : (liveIds ρ G).Nodup) (h4 : ρ.take n0 = List.range n0) : Fits n0 env H E G
  | froz (b : Nat) (cs : List D) (env : Env) (H : AHeap) (h : H[b]? = some (.live cs)) : Fits n0 env H env (H.set b (.froz cs))
  | trans (env : Env) (H : AHeap) (env' : Env) (H' : AHeap) (env'' : Env) (H'' : AHeap) (h1 : Fits n0 env H env' H') (h2 : Fits n0 env' H' env'' H'') : Fits n0 env H env'' H''

section
variable {n : Nat} {w0 : World} {S0 : Nat → Prop} {β0 : Bmap} {H0 : AHeap}

theorem fitsHeap_get {ρ0 : List Nat} {H : AHeap} : ∀ {rs : List Nat} {G : AHeap}, fitsHeap ρ0 H rs G → rs.length = G.length ∧ ∀ (i : Nat) (b : Blk), G[i]? = some b → b = .dead ∨ (bndBlk ρ0.length b = true ∧ ∃ r, rs[i]? = some r ∧ H[r]? = some (renBlk ρ0 b))
  | [], [], _ => ⟨rfl, fun i b h => by simp at h⟩
  | r :: rs, b :: bs, h => by
    obtain ⟨h1, h2⟩ := fitsHeap_get h.2
    refine ⟨by simp [h1], fun i b' hb => ?_⟩
    cases i with
    | zero =>
      simp only [List.getElem?_cons_zero, Option.some.injEq] at hb
      subst hb
      cases b with
      | dead => exact .inl rfl
      | _ => exact .inr ⟨h.1.1, r, rfl, h.1.2⟩
    | succ i => simpa using h2 i b' (by simpa using hb)
  | [], _ :: _, h => h.elim
  | _ :: _, [], h => h.elim

theorem liveIds_mem : ∀ (rs : List Nat) (G : AHeap) (i : Nat) (cs : List D) (r : Nat), G[i]? = some (.live cs) → rs[i]? = some r → r ∈ liveIds rs G
  | [], _, _, _, _, _, h => by simp at h
  | _ :: _, [], _, _, _, h, _ => by simp at h
  | r0 :: rs, b :: bs, 0, cs, r, h, h' => by
    simp only [List.getElem?_cons_zero, Option.some.injEq] at h h'
    subst h; subst h'
    simp [liveIds]
  | r0 :: rs, b :: bs, i + 1, cs, r, h, h' => by
    have := liveIds_mem rs bs i cs r (by simpa using h) (by simpa using h')
    cases b <;> simp [liveIds, this]

theorem liveIds_inj : ∀ (rs : List Nat) (G : AHeap), (liveIds rs G).Nodup → ∀ (i j : Nat) (cs cs' : List D) (r : Nat), G[i]? = some (.live cs) → G[j]? = some (.live cs') → rs[i]? = some r → rs[j]? = some r → i = j
  | [], _, _, _, _, _, _, _, _, _, h, _ => by simp at h
  | _ :: _, [], _, _, _, _, _, _, h, _, _, _ => by simp at h
  | r0 :: rs, b :: bs, hn, 0, 0, _, _, _, _, _, _, _ => rfl
  | r0 :: rs, b :: bs, hn, 0, j + 1, cs, cs', r, h1, h2, h3, h4 => by
    simp only [List.getElem?_cons_zero, Option.some.injEq] at h1 h3
    subst h1; subst h3
    simp only [liveIds, List.nodup_cons] at hn
    exact absurd (liveIds_mem rs bs j cs' r0 (by simpa using h2) (by simpa using h4)) hn.1
  | r0 :: rs, b :: bs, hn, i + 1, 0, cs, cs', r, h1, h2, h3, h4 => by
    simp only [List.getElem?_cons_zero, Option.some.injEq] at h2 h4
    subst h2; subst h4
    simp only [liveIds, List.nodup_cons] at hn
    exact absurd (liveIds_mem rs bs i cs r0 (by simpa using h1) (by simpa using h3)) hn.1
  | r0 :: rs, b :: bs, hn, i + 1, j + 1, cs, cs', r, h1, h2, h3, h4 => by
    have hn' : (liveIds rs bs).Nodup := by
      cases b <;> first | exact hn | (simp only [liveIds, List.nodup_cons] at hn; exact hn.2)
    have := liveIds_inj rs bs hn' i j cs cs' r (by simpa using h1) (by simpa using h2) (by simpa using h3) (by simpa using h4)
    omega

theorem fitsEnv_get {ρ : List Nat} {env : Env} : ∀ {E : Env}, fitsEnv ρ env E → ∀ t, get E t = .any ∨ ((get E t).bnd ρ.length = true ∧ get env t = (get E t).ren ρ)
  | [], _, _ => .inl rfl
  | (k, d) :: r, h, t => by
    simp only [get]
    by_cases e : k = t
    · subst e; right; simpa using h.1
    · have : (k == t) = false := by simp [e]
      rw [this]; exact fitsEnv_get h.2 t

theorem fits_sound {env : Env} {H : AHeap} {E : Env} {G : AHeap} (hf : Fits H0.length env H E G) : ∀ {a : Act} {w : World} {S : Nat → Prop} {β : Bmap}, Stt n w0 S0 β0 H0 env H a w S β → AInv w0 S0 β0 H0 → ∃ S' β', Stt n w0 S0 β0 H0 E G a w S' β' := by
  induction hf with
  | weak env H E h =>
    intro a w S β hs _
    refine ⟨S, β, hs.defers, hs.size, fun t => ?_, hs.inv, hs.evo⟩
    rcases weaker_get h t with h1 | h1
    · exact .inl h1
    · rw [h1]; exact hs.env t
  | le env H E G h1 h2 =>
    intro a w S β hs _
    obtain ⟨hl, hg⟩ := leH_get h2
    have hI := hs.inv
    have hmt : ∀ blk, Mut β G blk → Mut β H blk := fun blk ⟨b, cs, off, hb, hk⟩ => by
      obtain ⟨x, hx, hle⟩ := hg b _ hb
      obtain ⟨xs, rfl, _⟩ := leB_live hle
      exact ⟨b, xs, off, hx, hk⟩
    refine ⟨S, β, hs.defers, hs.size, fun t => ?_, ⟨by rw [hI.len, hl], fun b cs hb => ?_, fun b cs hb => ?_, fun b b' cs cs' blk o o' hb hb' k k' => ?_, hI.old, fun b hb => ?_⟩,
      ⟨hs.evo.os, hs.evo.output, hs.evo.size, hs.evo.frame, hs.evo.shape, hs.evo.sub, hs.evo.bk, hs.evo.newS, fun b h => hs.evo.newM b (hmt b h)⟩⟩
    · rcases leEnv_get h1 t with h3 | h3
      · exact .inl h3
      · rcases hs.env t with h4 | ⟨v, h4, h5⟩
        · rw [h4] at h3
          left
          rcases h3 with (h3 | ⟨h3, _⟩ | ⟨_, _, h3, _⟩) | ⟨_, _, h3, _⟩
          · exact h3.symm
          all_goals cases h3
        · exact .inr ⟨v, h4, leD_rel h3 h5⟩
    · obtain ⟨x, hx, hle⟩ := hg b _ hb
      obtain ⟨xs, rfl, hc⟩ := leB_live hle
      rcases hI.live b xs hx with ⟨rfl, h3⟩ | ⟨blk, off, vs, T, fr, h3, h4, h5, h6⟩
      · cases cs with
        | nil => exact .inl ⟨rfl, h3⟩
        | cons _ _ => exact hc.elim
      · exact .inr ⟨blk, off, vs, T, fr, h3, h4, h5, h6.le hc⟩
    · obtain ⟨x, hx, hle⟩ := hg b _ hb
      obtain ⟨xs, rfl, hc⟩ := leB_froz hle
      rcases hI.froz b xs hx with ⟨rfl, h3⟩ | ⟨blk, off, vs, T, fr, h3, h4, h6⟩
      · cases cs with
        | nil => exact .inl ⟨rfl, h3⟩
        | cons _ _ => exact hc.elim
      · exact .inr ⟨blk, off, vs, T, fr, h3, h4, h6.le hc⟩
    · obtain ⟨x, hx, hle⟩ := hg b _ hb
      obtain ⟨xs, rfl, _⟩ := leB_live hle
      obtain ⟨x', hx', hle'⟩ := hg b' _ hb'
      obtain ⟨xs', rfl, _⟩ := leB_live hle'
      exact hI.apart b b' xs xs' blk o o' hx hx' k k'
    · obtain ⟨x, hx, hle⟩ := hg b _ hb
      rw [leB_void hle] at hx
      exact hI.void b hx
  | froz b cs env H h =>
    intro a w S β hs _
    obtain ⟨S', h1, h2, h3⟩ := hs.inv.freeze h
    exact ⟨S', β, hs.step h1 h2⟩
  | trans _ _ _ _ _ _ _ _ ih1 ih2 =>
    intro a w S β hs hI0
    obtain ⟨S1, β1, h1⟩ := ih1 hs hI0
    exact ih2 h1 hI0
  | ren ρ env H E G h1 h2 h3 h4 =>
    intro a w S β hs hI0
    obtain ⟨hl, hg⟩ := fitsHeap_get h2
    have hI := hs.inv
    have gd : ∀ i, i < ρ.length → ρ[i]? = some (ρ.getD i 0) := fun i hi => by simp [List.getD, hi]
    have blk : ∀ (i : Nat) (b : Blk), G[i]? = some b → b ≠ .dead → i < ρ.length ∧ bndBlk ρ.length b = true ∧ H[ρ.getD i 0]? = some (renBlk ρ b) := fun i b hb hd => by
      have hi : i < ρ.length := by rw [hl]; exact (List.getElem?_eq_some_iff.1 hb).1
      rcases hg i b hb with h | ⟨h5, r, h6, h7⟩
      · exact absurd h hd
      · rw [gd i hi] at h6; cases h6; exact ⟨hi, h5, h7⟩
    have lies : ∀ {cs : List D} {b0 o1 vs0 T0 fr0}, cs.all (D.bnd ρ.length) = true → Lies w S β (cs.map (D.ren ρ)) b0 o1 vs0 T0 fr0 → Lies w S (renB ρ β) cs b0 o1 vs0 T0 fr0 := fun hb h =>
      ⟨h.heap, fun i v hi hv => h.one i v (by simpa using hi) hv, fun i d hd => let ⟨v, k1, k2⟩ := h.cell i (d.ren ρ) (by simp [hd]); ⟨v, k1, Rel.ren k2 d rfl (List.all_eq_true.1 hb d (List.mem_of_getElem? hd))⟩⟩
    refine ⟨S, renB ρ β, hs.defers, hs.size, fun t => ?_, ⟨by simp [renB, hl], fun b cs hb => ?_, fun b cs hb => ?_, fun b b' cs cs' bl o o' hb hb' k k' => ?_, hI.old, fun b hb => ?_⟩,
      ⟨hs.evo.os, hs.evo.output, hs.evo.size, hs.evo.frame, hs.evo.shape, hs.evo.sub, fun b x h => ?_, hs.evo.newS, fun b h => ?_⟩⟩
    · rcases fitsEnv_get h1 t with h5 | ⟨h5, h6⟩
      · exact .inl h5
      · rcases hs.env t with h7 | ⟨v, h7, h8⟩
        · left
          rw [h6] at h7
          cases hd : get E t <;> rw [hd] at h7 <;> simp [D.ren] at h7
        · rw [h6] at h8; exact .inr ⟨v, h7, h8.ren _ rfl h5⟩
    · obtain ⟨hi, h5, h6⟩ := blk b _ hb (by simp)
      rcases hI.live _ _ h6 with ⟨h7, h8⟩ | ⟨b0, o, vs0, T0, fr0, h7, h8, h9, h10⟩
      · exact .inl ⟨by simpa using h7, renB_bk hi h8⟩
      · exact .inr ⟨b0, o, vs0, T0, fr0, renB_bk hi h7, h8, h9, lies h5 h10⟩
    · obtain ⟨hi, h5, h6⟩ := blk b _ hb (by simp)
      rcases hI.froz _ _ h6 with ⟨h7, h8⟩ | ⟨b0, o, vs0, T0, fr0, h7, h8, h10⟩
      · exact .inl ⟨by simpa using h7, renB_bk hi h8⟩
      · exact .inr ⟨b0, o, vs0, T0, fr0, renB_bk hi h7, h8, lies h5 h10⟩
    · obtain ⟨hi, h5, h6⟩ := blk b _ hb (by simp)
      obtain ⟨hi', h5', h6'⟩ := blk b' _ hb' (by simp)
      have e := hI.apart _ _ _ _ bl o o' h6 h6' (bk_renB k).2 (bk_renB k').2
      exact liveIds_inj ρ G h3 b b' cs cs' _ hb hb' (gd b hi) (by rw [e]; exact gd b' hi')
    · obtain ⟨hi, h5, h6⟩ := blk b _ hb (by simp)
      simp [bndBlk] at h5
    · have hb0 : b < H0.length := by
        rw [← hI0.len]; exact (List.getElem?_eq_some_iff.1 h).1
      have hr : ρ[b]? = some b := by
        have := congrArg (·[b]?) h4
        simp only [List.getElem?_take_of_lt hb0] at this
        rw [this]; simp [hb0]
      have hbl : b < ρ.length := (List.getElem?_eq_some_iff.1 hr).1
      refine renB_bk hbl ?_
      rw [show ρ.getD b 0 = b from by simp [List.getD, hr]]
      exact hs.evo.bk b x h
    · obtain ⟨i, cs, o, hb, k⟩ := h
      obtain ⟨hi, h5, h6⟩ := blk i _ hb (by simp)
      exact hs.evo.newM b ⟨_, _, o, h6, (bk_renB k).2⟩

end
end Go.Proofs.Ytbabdalfkmdlhaa
