/- A call that changes one block of the caller's: what it leaves there, what it returns. Of no program. -/
import Derived.Test.YtbabdalfkmdlhaaA30
namespace Go.Proofs.Ytbabdalfkmdlhaa
set_option linter.all false

theorem D.ren_range (n : Nat) (d : D) : d.bnd n = true → d.ren (List.range n) = d := by
  have key : ∀ d : D, (d.bnd n = true → d.ren (List.range n) = d) := by
    intro d
    refine D.rec (motive_1 := fun d => d.bnd n = true → d.ren (List.range n) = d) (motive_2 := fun l => D.bndL n l = true → D.renL (List.range n) l = l)
      ?_ ?_ ?_ ?_ ?_ ?_ ?_ ?_ ?_ ?_ ?_ ?_ ?_ ?_ ?_ ?_ ?_ ?_ d
    all_goals intros
    all_goals try rfl
    · rename_i ih h; simp only [D.ren]; rw [ih h]
    · rename_i ih h; simp only [D.ren]; rw [ih h]
    · rename_i h; simp only [D.bnd, decide_eq_true_eq] at h; simp [D.ren, List.getD, h]
    · rename_i ih h; simp only [D.ren]; rw [ih h]
    · rename_i h; simp only [D.bnd, decide_eq_true_eq] at h; simp [D.ren, List.getD, h]
    · rename_i ih h; simp only [D.ren]; rw [ih h]
    · rename_i ih h; simp only [D.ren]; rw [ih h]
    · rename_i ih h; simp only [D.ren]; rw [ih h]
    · rename_i ih1 ih2 h
      simp only [D.bndL, Bool.and_eq_true] at h
      simp only [D.renL]
      rw [ih1 h.1, ih2 h.2]
  exact key d

theorem ren_noIds (ρ : List Nat) (d : D) (h : d.noIds = true) : d.ren ρ = d := by
  have := D.renL_noIds ρ [d] (by simp [D.noIdsL, h])
  simpa [D.renL] using this
theorem bnd_noIds (n : Nat) (d : D) (h : d.noIds = true) : d.bnd n = true := by
  have := D.bndL_noIds n [d] (by simp [D.noIdsL, h])
  simpa [D.bndL] using this

/-- The callee's own blocks are forgotten. -/
theorem acalls_drop {P : Program} {g : FuncId} {args : List D} {G : AHeap} {K K2 : D → AHeap → Prop} (hF : ACalls P g args G K) (n : Nat) (hn : G.length ≤ n)
    (hK : ∀ r H', K r H' → r.bnd n = true ∧ n ≤ H'.length ∧ (∀ i b, i < n → H'[i]? = some b → b = .dead ∨ bndBlk n b = true) ∧ K2 r (H'.take n)) : ACalls P g args G K2 := by
  refine ⟨hF.1, fun w S β vs hI hlv hr => (hF.2 w S β vs hI hlv hr).mono ?_⟩
  rintro e w' ⟨v, r, H', S', β', rfl, hI', hE, hR, hk⟩
  obtain ⟨h1, h2, h3, h4⟩ := hK r H' hk
  have hlb : β'.length = H'.length := hI'.len
  have eB : renB (List.range n) β' = β'.take n := by
    apply List.ext_getElem?
    intro i
    simp only [renB, List.getElem?_map]
    by_cases c : i < n
    · have : i < β'.length := by omega
      rw [List.getElem?_range c, List.getElem?_take_of_lt c]
      simp [List.getD, this]
    · rw [List.getElem?_eq_none (by simp; omega), List.getElem?_eq_none (by simp; omega)]; rfl
  have relD : ∀ {d v}, d.bnd n = true → Rel w' S' β' d v → Rel w' S' (β'.take n) d v := fun {d v} hb h => by
    rw [← eB]
    exact h.ren d (D.ren_range n d hb) (by simpa using hb)
  have bkT : ∀ b x, b < n → Bk β' b x → Bk (β'.take n) b x := fun b x hb h => by
    unfold Bk at *; rwa [List.getElem?_take_of_lt hb]
  have bkF : ∀ b x, Bk (β'.take n) b x → b < n ∧ Bk β' b x := fun b x h => by
    have hb : b < n := by
      unfold Bk at h
      have := (List.getElem?_eq_some_iff.1 h).1
      simp at this
      omega
    unfold Bk at *
    rw [List.getElem?_take_of_lt hb] at h
    exact ⟨hb, h⟩
  have get : ∀ b x, (H'.take n)[b]? = some x → b < n ∧ H'[b]? = some x := fun b x h => by
    have hb : b < n := by
      have := (List.getElem?_eq_some_iff.1 h).1
      simp at this
      omega
    rw [List.getElem?_take_of_lt hb] at h
    exact ⟨hb, h⟩
  have lies : ∀ {cs b0 o1 vs0 T0 fr0}, cs.all (D.bnd n) = true → Lies w' S' β' cs b0 o1 vs0 T0 fr0 → Lies w' S' (β'.take n) cs b0 o1 vs0 T0 fr0 := fun hb h =>
    ⟨h.heap, h.one, fun i d hd => let ⟨v, k1, k2⟩ := h.cell i d hd; ⟨v, k1, relD (List.all_eq_true.1 hb d (List.mem_of_getElem? hd)) k2⟩⟩
  have mutF : ∀ x, Mut (β'.take n) (H'.take n) x → Mut β' H' x := fun x ⟨b, cs, off, h5, h6⟩ => ⟨b, cs, off, (get _ _ h5).2, (bkF _ _ h6).2⟩
  refine ⟨v, r, H'.take n, S', β'.take n, rfl, ⟨by simp; omega, fun b cs hb => ?_, fun b cs hb => ?_, fun b b' cs cs' x o o' hb hb' k k' => ?_, hI'.old, fun b hb => ?_⟩,
    ⟨hE.os, hE.output, hE.size, hE.frame, hE.shape, hE.sub, fun b x h => ?_, hE.newS, fun b h => hE.newM b (mutF b h)⟩, relD h1 hR, h4⟩
  · obtain ⟨c1, c2⟩ := get _ _ hb
    have hbd : cs.all (D.bnd n) = true := by
      rcases h3 b _ c1 c2 with h | h
      · cases h
      · exact h
    rcases hI'.live b cs c2 with ⟨h5, h6⟩ | ⟨b0, o, vs0, T0, fr0, h5, h6, h7, h8⟩
    · exact .inl ⟨h5, bkT _ _ c1 h6⟩
    · exact .inr ⟨b0, o, vs0, T0, fr0, bkT _ _ c1 h5, h6, h7, lies hbd h8⟩
  · obtain ⟨c1, c2⟩ := get _ _ hb
    have hbd : cs.all (D.bnd n) = true := by
      rcases h3 b _ c1 c2 with h | h
      · cases h
      · exact h
    rcases hI'.froz b cs c2 with ⟨h5, h6⟩ | ⟨b0, o, vs0, T0, fr0, h5, h6, h8⟩
    · exact .inl ⟨h5, bkT _ _ c1 h6⟩
    · exact .inr ⟨b0, o, vs0, T0, fr0, bkT _ _ c1 h5, h6, lies hbd h8⟩
  · exact hI'.apart b b' cs cs' x o o' (get _ _ hb).2 (get _ _ hb').2 (bkF _ _ k).2 (bkF _ _ k').2
  · obtain ⟨c1, c2⟩ := get _ _ hb
    rw [List.getElem?_take_of_lt c1]
    exact hI'.void b c2
  · have hb : b < G.length := by
      unfold Bk at h
      have := (List.getElem?_eq_some_iff.1 h).1
      rw [hI.len] at this
      exact this
    exact bkT _ _ (by omega) (hE.bk b x h)

/-- A function that is handed one block of its caller's, holding 'cs': it returns 'x' and leaves 'cs''. The arguments call the block 0. -/
def Eff (P : Program) (g : FuncId) (args : List D) (cs : List D) (x : D) (cs' : List D) : Prop :=
  ACalls P g args [.live cs] fun r H' => r = x ∧ H'[0]? = some (.live cs')

theorem Eff.one {P : Program} {g : FuncId} {args cs cs' : List D} {x : D} (h : Eff P g args cs x cs') (hx : x.noIds = true) (hc : D.noIdsL cs' = true) : ACalls P g args [.live cs] fun r H' => r = x ∧ H' = [.live cs'] := by
  refine acalls_drop h 1 (Nat.le_refl _) fun r H' ⟨h1, h2⟩ => ?_
  have hlt := (List.getElem?_eq_some_iff.1 h2).1
  refine ⟨by rw [h1]; exact bnd_noIds 1 x hx, hlt, fun i b hi hb => ?_, h1, ?_⟩
  · have : i = 0 := by omega
    subst this
    rw [h2] at hb
    cases hb
    right
    simp only [bndBlk]
    rw [← D.bndL_eq]
    exact D.bndL_noIds 1 cs' hc
  · cases H' with
    | nil => simp at hlt
    | cons y ys =>
      simp only [List.getElem?_cons_zero, Option.some.injEq] at h2
      subst h2
      rfl

theorem Eff.frame {P : Program} {g : FuncId} {args args' cs cs' : List D} {x : D} {H : AHeap} (h : Eff P g args cs x cs') (b : Nat) (hx : x.noIds = true) (hc0 : D.noIdsL cs = true) (hc : D.noIdsL cs' = true) (ha : args.all (D.bnd 1) = true)
    (he : args' = args.map (D.ren [b])) (hb : H[b]? = some (.live cs)) : ACalls P g args' H fun r H' => r = x ∧ H' = H.set b (.live cs') := by
  subst he
  have mapId : ∀ (σ : List Nat) (l : List D), D.noIdsL l = true → l.map (D.ren σ) = l := fun σ l hl => by rw [← D.renL_eq]; exact D.renL_noIds σ l hl
  refine acalls_frame (ρ := [b]) (h.one hx hc) (by simp) rfl ⟨⟨?_, ?_⟩, trivial⟩ ha fun r H' ⟨h1, h2⟩ => ?_
  · simp only [bndBlk]; rw [← D.bndL_eq]; exact D.bndL_noIds _ cs hc0
  · simp only [renBlk]; rw [mapId _ cs hc0]; exact hb
  · subst h2
    refine ⟨Nat.le_refl _, by rw [h1]; exact ren_noIds _ x hx, ?_⟩
    simp only [mergeH, putAll, renBlk, List.length_cons, List.length_nil, List.drop_succ_cons, List.drop_zero, List.map_nil, List.append_nil]
    rw [mapId _ cs' hc]

section
variable {P : Program} {τ : Ty} {f : Fit} {d : Drw} {all : List Oper} {k : List It} {Q : AQ} {rest : List Oper} {s : Nat} {env : Env} {dst : Option Tmp} {g : FuncId} {args args' : List D} {H : AHeap} {z : List WR} {cs cs' : List D} {x : D}

/-- A call on a block of one's own. -/
theorem callE (b : Nat) (hF : Eff P g args cs x cs') (hx : x.noIds = true) (hc0 : D.noIdsL cs = true) (hc : D.noIdsL cs' = true) (ha : args.all (D.bnd 1) = true) (he : args' = args.map (D.ren [b])) (hb : H[b]? = some (.live cs))
    (h : ar P τ f d all k Q rest s (put env dst x) (H.set b (.live cs'))) : acallS P τ f d all k Q rest s env dst g args' H :=
  callA (hF.frame b hx hc0 hc ha he hb) fun r H' ⟨h1, h2⟩ => by subst h1; subst h2; exact h

theorem DC.eff (b : Nat) (hF : Eff P g args cs x cs') (hx : x.noIds = true) (hc0 : D.noIdsL cs = true) (hc : D.noIdsL cs' = true) (ha : args.all (D.bnd 1) = true) (he : args' = args.map (D.ren [b])) (hb : H[b]? = some (.live cs)) :
    DC P g args' [] [b] H x (H.set b (.live cs')) := by
  have hlt : b < H.length := (List.getElem?_eq_some_iff.1 hb).1
  refine ⟨fun H' hl hag => ?_, by simp, fun c hc => ?_⟩
  · have hb' : H'[b]? = some (.live cs) := by rw [hag b (.inr (by simp))]; exact hb
    refine (hF.frame b hx hc0 hc ha he hb').mono fun r H'' ⟨h1, h2⟩ => ?_
    subst h2
    refine ⟨h1, by simp, fun c hcc => ?_, fun c hcc => ?_⟩
    · have : c = b := by simpa using hcc
      subst this
      rw [List.getElem?_set_self (by omega), List.getElem?_set_self hlt]
    · have : c ≠ b := by simpa using hcc
      rw [List.getElem?_set_ne (Ne.symm this)]
  · have : c ≠ b := by simpa using hc
    rw [List.getElem?_set_ne (Ne.symm this)]

/-- In an open order: a call on a block of one's own. -/
theorem tcE (b : Nat) (hF : Eff P g args cs x cs') (hx : x.noIds = true) (hc0 : D.noIdsL cs = true) (hc : D.noIdsL cs' = true) (ha : args.all (D.bnd 1) = true) (he : args' = args.map (D.ren [b])) (hb : H[b]? = some (.live cs))
    (h : tr P τ f d all k Q rest s (put env dst x) (H.set b (.live cs')) (([], [b]) :: z)) : tcS P τ f d all k Q rest s env dst g args' H z :=
  ⟨[], [b], x, H.set b (.live cs'), DC.eff b hF hx hc0 hc ha he hb, h⟩
end

end Go.Proofs.Ytbabdalfkmdlhaa
