/- Calls that read and change the caller's blocks: what is told over those blocks alone is told over the caller's whole heap. Of no program. -/
import Derived.Test.YtbabdalfkmdlhaaA29
namespace Go.Proofs.Ytbabdalfkmdlhaa
set_option linter.all false

section
variable {w : World} {S : Nat → Prop} {β β' : Bmap}

/-- Renamed forward. -/
theorem Rel.fwd {σ : List Nat} (hσ : ∀ b x, Bk β b x → Bk β' (σ.getD b 0) x) {d : D} {v : Value} (h : Rel w S β d v) : Rel w S β' (d.ren σ) v := by
  have mapGet : ∀ {ds : List D} {i : Nat} {d : D}, (ds.map (D.ren σ))[i]? = some d → ∃ d0, ds[i]? = some d0 ∧ d = d0.ren σ := fun {ds i d} hd => by
    rw [List.getElem?_map] at hd
    obtain ⟨d0, h1, h2⟩ := Option.map_eq_some_iff.1 hd
    exact ⟨d0, h1, h2.symm⟩
  induction h with
  | any v => exact .any v
  | int k n h1 h2 => exact .int k n h1 h2
  | bool b => exact .bool b
  | str s h => exact .str s h
  | agg ds vs h1 h0 h2 ih =>
    rw [D.ren, D.renL_eq]
    refine .agg _ vs (by simpa using h1) h0 (fun i d v hd hv => ?_)
    obtain ⟨d0, hd0, rfl⟩ := mapGet hd
    exact ih i d0 v hd0 hv
  | nil => exact .nil
  | slNone sz t => exact .slNone sz t
  | sl sz es t ad cap vf h1 h2 h3 h4 h5 h6 ih =>
    rw [D.ren, D.renL_eq]
    have hl : (es.map (D.ren σ)).length = es.length := by simp
    have := Rel.sl (w := w) (S := S) (β := β') sz (es.map (D.ren σ)) t ad cap vf (by simpa using h1) h2 (by simpa using h3)
      (fun x hx => by obtain ⟨y, hy, rfl⟩ := List.mem_map.1 hx; rw [D.ren_cells]; simpa using h4 y hy)
      (by simpa using h5)
      (fun i x j d hx hd => by
        obtain ⟨x0, hx0, rfl⟩ := mapGet hx
        rw [D.ren_cells] at hd
        obtain ⟨d0, hd0, rfl⟩ := mapGet hd
        exact ih i x0 j d0 hx0 hd0)
    rw [hl] at this
    exact this
  | ref b o len sz blk off cap h1 h2 h3 T n h4 h5 => exact .ref _ o len sz blk off cap (hσ _ _ h1) h2 h3 T n h4 h5
  | refEmpty b o sz a => exact .refEmpty _ o sz a
  | cp cs ad vf h1 h2 ih =>
    rw [D.ren, D.renL_eq]
    refine .cp _ ad vf (by simpa using h1) (fun j d hd => ?_)
    obtain ⟨d0, hd0, rfl⟩ := mapGet hd
    exact ih j d0 hd0
  | ptr b o blk off h1 => exact .ptr _ o blk off (hσ _ _ h1)
  | nilp => exact .nilp
  | fn f ds vs h1 h2 ih =>
    rw [D.ren, D.renL_eq]
    refine .fn f _ vs (by simpa using h1) (fun i d v hd hv => ?_)
    obtain ⟨d0, hd0, rfl⟩ := mapGet hd
    exact ih i d0 v hd0 hv
  | nilf => exact .nilf
  | tup ds vs h1 h2 ih =>
    rw [D.ren, D.renL_eq]
    refine .tup _ vs (by simpa using h1) (fun i d v hd hv => ?_)
    obtain ⟨d0, hd0, rfl⟩ := mapGet hd
    exact ih i d0 v hd0 hv
  | niface => exact .niface
  | iface t d v _ ih => exact .iface t _ v ih
end

/-- Every block is there. -/
def allThere : AHeap → Bool
  | [] => true
  | .live _ :: r => allThere r
  | .froz _ :: r => allThere r
  | _ :: _ => false

theorem allThere_get : ∀ {G : AHeap}, allThere G = true → ∀ (i : Nat) (b : Blk), G[i]? = some b → ∃ cs, b = .live cs ∨ b = .froz cs
  | [], _, i, b, h => by simp at h
  | x :: r, ha, i, b, h => by
    cases i with
    | zero =>
      simp only [List.getElem?_cons_zero, Option.some.injEq] at h
      subst h
      cases x with
      | live cs => exact ⟨cs, .inl rfl⟩
      | froz cs => exact ⟨cs, .inr rfl⟩
      | _ => cases ha
    | succ i =>
      have : allThere r = true := by cases x <;> first | exact ha | cases ha
      exact allThere_get this i b (by simpa using h)

/-- The callee's names of blocks, in the caller: those handed over, then new ones. -/
def sig (ρ : List Nat) (n m : Nat) : List Nat := ρ ++ List.range' n (m - ρ.length)

def putAll (σ : List Nat) : List Nat → AHeap → AHeap → AHeap
  | r :: ρ, b :: B, H => putAll σ ρ B (H.set r (renBlk σ b))
  | _, _, H => H

def mergeH (ρ : List Nat) (H H' : AHeap) : AHeap := putAll (sig ρ H.length H'.length) ρ H' H ++ (H'.drop ρ.length).map (renBlk (sig ρ H.length H'.length))

theorem putAll_len (σ : List Nat) : ∀ (ρ : List Nat) (B H : AHeap), (putAll σ ρ B H).length = H.length
  | [], _, _ => rfl
  | _ :: _, [], _ => rfl
  | r :: ρ, b :: B, H => by simp [putAll, putAll_len σ ρ B]

theorem putAll_get (σ : List Nat) : ∀ (ρ : List Nat) (B H : AHeap), ρ.Nodup → ρ.length ≤ B.length → ∀ (b : Nat) (x : Blk), (putAll σ ρ B H)[b]? = some x →
    (b ∉ ρ ∧ H[b]? = some x) ∨ ∃ (i : Nat) (y : Blk), ρ[i]? = some b ∧ B[i]? = some y ∧ x = renBlk σ y
  | [], _, _, _, _, b, x, h => .inl ⟨by simp, h⟩
  | _ :: _, [], _, _, hl, _, _, _ => by simp at hl
  | r :: ρ, y0 :: B, H, hn, hl, b, x, h => by
    rw [List.nodup_cons] at hn
    rcases putAll_get σ ρ B _ hn.2 (by simpa using hl) b x h with ⟨h1, h2⟩ | ⟨i, y, h1, h2, h3⟩
    · by_cases c : b = r
      · subst c
        right
        have hlt : b < H.length := by
          have := (List.getElem?_eq_some_iff.1 h2).1
          simpa using this
        rw [List.getElem?_set_self hlt] at h2
        exact ⟨0, y0, rfl, rfl, (Option.some.inj h2).symm⟩
      · rw [List.getElem?_set_ne (Ne.symm c)] at h2
        exact .inl ⟨by simp [c, h1], h2⟩
    · exact .inr ⟨i + 1, y, by simpa using h1, by simpa using h2, h3⟩

theorem sig_lt {ρ : List Nat} {n m i : Nat} (h : i < ρ.length) : (sig ρ n m).getD i 0 = ρ.getD i 0 := by
  simp only [sig, List.getD_eq_getElem?_getD, List.getElem?_append_left h]
theorem sig_ge {ρ : List Nat} {n m i : Nat} (h : ρ.length ≤ i) (h2 : i < m) : (sig ρ n m).getD i 0 = n + (i - ρ.length) := by
  simp only [sig, List.getD_eq_getElem?_getD, List.getElem?_append_right h]
  rw [List.getElem?_range' (by omega)]
  simp

theorem renBlk_live {σ : List Nat} {y : Blk} {cs : List D} (h : renBlk σ y = .live cs) : ∃ cs0, y = .live cs0 ∧ cs = cs0.map (D.ren σ) := by
  cases y <;> simp [renBlk] at h
  exact ⟨_, rfl, h.symm⟩
theorem renBlk_froz {σ : List Nat} {y : Blk} {cs : List D} (h : renBlk σ y = .froz cs) : ∃ cs0, y = .froz cs0 ∧ cs = cs0.map (D.ren σ) := by
  cases y <;> simp [renBlk] at h
  exact ⟨_, rfl, h.symm⟩
theorem renBlk_void {σ : List Nat} {y : Blk} (h : renBlk σ y = .void) : y = .void := by
  cases y <;> simp [renBlk] at h
  rfl

/-- What is told of a call over the blocks handed over is told of it over the whole heap. -/
theorem acalls_frame {P : Program} {g : FuncId} {args : List D} {G H : AHeap} {ρ : List Nat} {K K' : D → AHeap → Prop} (hF : ACalls P g args G K) (hn : ρ.Nodup) (ha : allThere G = true) (hG : fitsHeap ρ H ρ G)
    (hb : args.all (D.bnd ρ.length) = true) (hK : ∀ r H', K r H' → ρ.length ≤ H'.length ∧ K' (r.ren (sig ρ H.length H'.length)) (mergeH ρ H H')) : ACalls P g (args.map (D.ren ρ)) H K' := by
  refine ⟨hF.1, fun w S β vs hI hlv hr => ?_⟩
  obtain ⟨hl, hg⟩ := fitsHeap_get hG
  have gd : ∀ i, i < ρ.length → ρ[i]? = some (ρ.getD i 0) := fun i hi => by simp [List.getD, hi]
  have blk : ∀ (i : Nat) (b : Blk), G[i]? = some b → i < ρ.length ∧ bndBlk ρ.length b = true ∧ H[ρ.getD i 0]? = some (renBlk ρ b) := fun i b hb => by
    have hi : i < ρ.length := by rw [hl]; exact (List.getElem?_eq_some_iff.1 hb).1
    rcases hg i b hb with h | ⟨h5, r, h6, h7⟩
    · subst h
      obtain ⟨cs, h | h⟩ := allThere_get ha i _ hb <;> cases h
    · rw [gd i hi] at h6; cases h6; exact ⟨hi, h5, h7⟩
  have lies0 : ∀ {cs : List D} {b0 o1 vs0 T0 fr0}, cs.all (D.bnd ρ.length) = true → Lies w S β (cs.map (D.ren ρ)) b0 o1 vs0 T0 fr0 → Lies w S (renB ρ β) cs b0 o1 vs0 T0 fr0 := fun hb h =>
    ⟨h.heap, fun i v hi hv => h.one i v (by simpa using hi) hv, fun i d hd => let ⟨v, k1, k2⟩ := h.cell i (d.ren ρ) (by simp [hd]); ⟨v, k1, Rel.ren k2 d rfl (List.all_eq_true.1 hb d (List.mem_of_getElem? hd))⟩⟩
  have ginj : ∀ i j, i < ρ.length → j < ρ.length → ρ.getD i 0 = ρ.getD j 0 → i = j := fun i j hi hj e => by
    have h1 := gd i hi
    have h2 := gd j hj
    rw [← e] at h2
    exact (List.getElem?_inj hi hn).1 (h1.trans h2.symm)
  have hI0 : AInv w S (renB ρ β) G := by
    refine ⟨by simp [renB, hl], fun b cs hb => ?_, fun b cs hb => ?_, fun b b' cs cs' bl o o' hb hb' k k' => ?_, hI.old, fun b hb => ?_⟩
    · obtain ⟨hi, h5, h6⟩ := blk b _ hb
      rcases hI.live _ _ h6 with ⟨h7, h8⟩ | ⟨b0, o, vs0, T0, fr0, h7, h8, h9, h10⟩
      · exact .inl ⟨by simpa using h7, renB_bk hi h8⟩
      · exact .inr ⟨b0, o, vs0, T0, fr0, renB_bk hi h7, h8, h9, lies0 h5 h10⟩
    · obtain ⟨hi, h5, h6⟩ := blk b _ hb
      rcases hI.froz _ _ h6 with ⟨h7, h8⟩ | ⟨b0, o, vs0, T0, fr0, h7, h8, h10⟩
      · exact .inl ⟨by simpa using h7, renB_bk hi h8⟩
      · exact .inr ⟨b0, o, vs0, T0, fr0, renB_bk hi h7, h8, lies0 h5 h10⟩
    · obtain ⟨hi, h5, h6⟩ := blk b _ hb
      obtain ⟨hi', h5', h6'⟩ := blk b' _ hb'
      exact ginj b b' hi hi' (hI.apart _ _ _ _ bl o o' h6 h6' (bk_renB k).2 (bk_renB k').2)
    · obtain ⟨cs, h | h⟩ := allThere_get ha b _ hb <;> cases h
  have mut0 : ∀ x, Mut (renB ρ β) G x → ∃ i cs off, i < ρ.length ∧ H[ρ.getD i 0]? = some (.live cs) ∧ Bk β (ρ.getD i 0) (some (x, off)) := fun x ⟨i, cs, off, hb, k⟩ => by
    obtain ⟨hi, h5, h6⟩ := blk i _ hb
    exact ⟨i, _, off, hi, h6, (bk_renB k).2⟩
  have mutM : ∀ x, Mut (renB ρ β) G x → Mut β H x := fun x h => by
    obtain ⟨i, cs, off, _, h1, h2⟩ := mut0 x h
    exact ⟨_, cs, off, h1, h2⟩
  refine (hF.2 w S (renB ρ β) vs hI0 (by simpa using hlv) (fun i d v hd hv => ?_)).mono ?_
  · exact (hr i (d.ren ρ) v (by simp [hd]) hv).ren d rfl (List.all_eq_true.1 hb d (List.mem_of_getElem? hd))
  rintro e w' ⟨v, r, H', S', β', rfl, hI', hE, hR, hk⟩
  obtain ⟨hlen, hk⟩ := hK r H' hk
  -- the map of blocks, and how the callee's names stand in it
  have hβl : β.length = H.length := hI.len
  have hβl' : β'.length = H'.length := hI'.len
  have old0 : ∀ b x, Bk β b x → Bk (β ++ β'.drop ρ.length) b x := fun b x h => by
    unfold Bk at *
    rw [List.getElem?_append_left (List.getElem?_eq_some_iff.1 h).1]; exact h
  have old1 : ∀ b x, b < H.length → Bk (β ++ β'.drop ρ.length) b x → Bk β b x := fun b x hb h => by
    unfold Bk at *
    rwa [List.getElem?_append_left (by omega)] at h
  have known : ∀ i, i < ρ.length → ∃ x0, Bk β (ρ.getD i 0) x0 ∧ Bk β' i x0 := fun i hi => by
    have hgi : i < G.length := by omega
    obtain ⟨cs, hc⟩ := allThere_get ha i _ (List.getElem?_eq_getElem hgi)
    have hb0 : ∃ x0, Bk (renB ρ β) i x0 := by
      rcases hc with hc | hc
      · rcases hI0.live i cs (by rw [List.getElem?_eq_getElem hgi, hc]) with ⟨_, h⟩ | ⟨_, _, _, _, _, h, _⟩ <;> exact ⟨_, h⟩
      · rcases hI0.froz i cs (by rw [List.getElem?_eq_getElem hgi, hc]) with ⟨_, h⟩ | ⟨_, _, _, _, _, h, _⟩ <;> exact ⟨_, h⟩
    obtain ⟨x0, hx⟩ := hb0
    exact ⟨x0, (bk_renB hx).2, hE.bk i x0 hx⟩
  have bkInj : ∀ {γ : Bmap} {b x y}, Bk γ b x → Bk γ b y → x = y := fun h1 h2 => by
    unfold Bk at *; rw [h1] at h2; simpa using h2
  have hσ : ∀ b x, Bk β' b x → Bk (β ++ β'.drop ρ.length) ((sig ρ H.length H'.length).getD b 0) x := fun b x h => by
    have hbl : b < H'.length := by unfold Bk at h; have := (List.getElem?_eq_some_iff.1 h).1; omega
    by_cases c : b < ρ.length
    · rw [sig_lt c]
      obtain ⟨x0, h1, h2⟩ := known b c
      rw [bkInj h h2]
      exact old0 _ _ h1
    · rw [sig_ge (by omega) hbl]
      unfold Bk at *
      rw [List.getElem?_append_right (by omega), List.getElem?_drop, show ρ.length + (H.length + (b - ρ.length) - β.length) = b by omega]
      exact h
  have hσl : ∀ i, i < H'.length → (ρ.length ≤ i → (sig ρ H.length H'.length).getD i 0 = H.length + (i - ρ.length)) ∧ (i < ρ.length → (sig ρ H.length H'.length).getD i 0 = ρ.getD i 0) := fun i hi => ⟨fun h => sig_ge h hi, fun h => sig_lt h⟩
  have hρlt : ∀ i, i < ρ.length → ρ.getD i 0 < H.length := fun i hi => by
    obtain ⟨x0, h1, _⟩ := known i hi
    unfold Bk at h1
    have := (List.getElem?_eq_some_iff.1 h1).1
    omega
  have get : ∀ b x, (mergeH ρ H H')[b]? = some x → (b < H.length ∧ b ∉ ρ ∧ H[b]? = some x) ∨ ∃ (i : Nat) (y : Blk), i < H'.length ∧ H'[i]? = some y ∧ x = renBlk (sig ρ H.length H'.length) y ∧ (sig ρ H.length H'.length).getD i 0 = b := fun b x h => by
    unfold mergeH at h
    by_cases c : b < H.length
    · rw [List.getElem?_append_left (by rw [putAll_len]; exact c)] at h
      rcases putAll_get _ ρ H' H hn hlen b x h with ⟨h1, h2⟩ | ⟨i, y, h1, h2, h3⟩
      · exact .inl ⟨c, h1, h2⟩
      · have hi := (List.getElem?_eq_some_iff.1 h1).1
        refine .inr ⟨i, y, by omega, h2, h3, ?_⟩
        rw [sig_lt hi]
        simp [List.getD, h1]
    · rw [List.getElem?_append_right (by rw [putAll_len]; omega), putAll_len, List.getElem?_map, List.getElem?_drop] at h
      obtain ⟨y, h1, h2⟩ := Option.map_eq_some_iff.1 h
      have hi := (List.getElem?_eq_some_iff.1 h1).1
      exact .inr ⟨_, y, hi, h1, h2.symm, by rw [sig_ge (by omega) hi]; omega⟩
  -- what is told of one's own stays told
  have same : ∀ x, x < w.heap.size → ¬ Mut (renB ρ β) G x → w'.heap[x]? = w.heap[x]? := hE.frame
  have keep : ∀ {d v}, Rel w S β d v → Rel w' S' (β ++ β'.drop ρ.length) d v := fun h => h.keep (fun b hb => same b (hI.old b hb) (hI0.notMut hb)) hE.sub old0 hE.shape
  have fwd : ∀ {d v}, Rel w' S' β' d v → Rel w' S' (β ++ β'.drop ρ.length) (d.ren (sig ρ H.length H'.length)) v := fun h => h.fwd hσ
  have lies1 : ∀ {cs b0 o1 vs0 T0 fr0}, ¬ Mut (renB ρ β) G b0 → Lies w S β cs b0 o1 vs0 T0 fr0 → Lies w' S' (β ++ β'.drop ρ.length) cs b0 o1 vs0 T0 fr0 := fun hm h =>
    ⟨by rw [same _ (Array.getElem?_eq_some_iff.1 h.heap).1 hm]; exact h.heap, h.one, fun i d hd => let ⟨v, h1, h2⟩ := h.cell i d hd; ⟨v, h1, keep h2⟩⟩
  have lies2 : ∀ {cs b0 o1 vs0 T0 fr0}, Lies w' S' β' cs b0 o1 vs0 T0 fr0 → Lies w' S' (β ++ β'.drop ρ.length) (cs.map (D.ren (sig ρ H.length H'.length))) b0 o1 vs0 T0 fr0 := fun h =>
    ⟨h.heap, fun i v hi hv => h.one i v (by simpa using hi) hv, fun i d hd => by
      rw [List.getElem?_map] at hd
      obtain ⟨d0, h1, rfl⟩ := Option.map_eq_some_iff.1 hd
      obtain ⟨v, h2, h3⟩ := h.cell i d0 h1
      exact ⟨v, h2, fwd h3⟩⟩
  have notM : ∀ b cs x off, b ∉ ρ → H[b]? = some (.live cs) → Bk β b (some (x, off)) → ¬ Mut (renB ρ β) G x := fun b cs x off hb h1 h2 hm => by
    obtain ⟨i, cs', off', hi, h3, h4⟩ := mut0 x hm
    have := hI.apart b _ cs cs' x off off' h1 h3 h2 h4
    rw [this] at hb
    exact hb (List.mem_of_getElem? (gd i hi))
  have bkσ : ∀ i x, i < H'.length → Bk (β ++ β'.drop ρ.length) ((sig ρ H.length H'.length).getD i 0) x → Bk β' i x := fun i x hi h => by
    by_cases c : i < ρ.length
    · rw [sig_lt c] at h
      obtain ⟨x0, h1, h2⟩ := known i c
      rw [bkInj (old1 _ _ (hρlt i c) h) h1]
      exact h2
    · rw [sig_ge (by omega) hi] at h
      unfold Bk at *
      rwa [List.getElem?_append_right (by omega), List.getElem?_drop, show ρ.length + (H.length + (i - ρ.length) - β.length) = i by omega] at h
  have ltOf : ∀ b cs x off, H[b]? = some (.live cs) → Bk β b (some (x, off)) → x < w.heap.size := fun b cs x off h1 h2 => by
    rcases hI.live b cs h1 with ⟨_, h⟩ | ⟨b0, o, vs0, T0, fr0, h3, h4, h5, h6⟩
    · cases bkInj h h2
    · cases bkInj h2 h3
      exact (Array.getElem?_eq_some_iff.1 h6.heap).1
  refine ⟨v, r.ren (sig ρ H.length H'.length), mergeH ρ H H', S', β ++ β'.drop ρ.length, rfl, ?_, ?_, fwd hR, hk⟩
  · refine ⟨by simp only [mergeH, List.length_append, putAll_len, List.length_map, List.length_drop]; omega, fun b cs hb => ?_, fun b cs hb => ?_, fun b b' cs cs' x o o' hb hb' k k' => ?_, hI'.old, fun b hb => ?_⟩
    · rcases get b _ hb with ⟨h1, h2, h3⟩ | ⟨i, y, h1, h2, h3, rfl⟩
      · rcases hI.live b cs h3 with ⟨h4, h5⟩ | ⟨b0, o, vs0, T0, fr0, h4, h5, h6, h7⟩
        · exact .inl ⟨h4, old0 _ _ h5⟩
        · have hm := notM b cs b0 o h2 h3 h4
          refine .inr ⟨b0, o, vs0, T0, fr0, old0 _ _ h4, fun hs => ?_, h6, lies1 hm h7⟩
          rcases hE.newS b0 hs with h | h | h
          · exact h5 h
          · exact hm h
          · have := (Array.getElem?_eq_some_iff.1 h7.heap).1
            omega
      · obtain ⟨cs0, rfl, rfl⟩ := renBlk_live h3.symm
        rcases hI'.live i cs0 h2 with ⟨h4, h5⟩ | ⟨b0, o, vs0, T0, fr0, h4, h5, h6, h7⟩
        · exact .inl ⟨by simp [h4], hσ _ _ h5⟩
        · exact .inr ⟨b0, o, vs0, T0, fr0, hσ _ _ h4, h5, h6, lies2 h7⟩
    · rcases get b _ hb with ⟨h1, h2, h3⟩ | ⟨i, y, h1, h2, h3, rfl⟩
      · rcases hI.froz b cs h3 with ⟨h4, h5⟩ | ⟨b0, o, vs0, T0, fr0, h4, h5, h7⟩
        · exact .inl ⟨h4, old0 _ _ h5⟩
        · exact .inr ⟨b0, o, vs0, T0, fr0, old0 _ _ h4, hE.sub _ h5, lies1 (hI0.notMut h5) h7⟩
      · obtain ⟨cs0, rfl, rfl⟩ := renBlk_froz h3.symm
        rcases hI'.froz i cs0 h2 with ⟨h4, h5⟩ | ⟨b0, o, vs0, T0, fr0, h4, h5, h7⟩
        · exact .inl ⟨by simp [h4], hσ _ _ h5⟩
        · exact .inr ⟨b0, o, vs0, T0, fr0, hσ _ _ h4, h5, lies2 h7⟩
    · rcases get b _ hb with ⟨h1, h2, h3⟩ | ⟨i, y, h1, h2, h3, rfl⟩ <;> rcases get b' _ hb' with ⟨h1', h2', h3'⟩ | ⟨i', y', h1', h2', h3', rfl⟩
      · exact hI.apart b b' cs cs' x o o' h3 h3' (old1 _ _ h1 k) (old1 _ _ h1' k')
      · exfalso
        obtain ⟨cs0, rfl, _⟩ := renBlk_live h3'.symm
        have k0 := old1 _ _ h1 k
        rcases hE.newM x ⟨i', cs0, o', h2', bkσ i' _ h1' k'⟩ with h | h
        · exact notM b cs x o h2 h3 k0 h
        · have := ltOf b cs x o h3 k0
          omega
      · exfalso
        obtain ⟨cs0, rfl, _⟩ := renBlk_live h3.symm
        have k0 := old1 _ _ h1' k'
        rcases hE.newM x ⟨i, cs0, o, h2, bkσ i _ h1 k⟩ with h | h
        · exact notM b' cs' x o' h2' h3' k0 h
        · have := ltOf b' cs' x o' h3' k0
          omega
      · obtain ⟨cs0, rfl, _⟩ := renBlk_live h3.symm
        obtain ⟨cs0', rfl, _⟩ := renBlk_live h3'.symm
        rw [hI'.apart i i' cs0 cs0' x o o' h2 h2' (bkσ i _ h1 k) (bkσ i' _ h1' k')]
    · rcases get b _ hb with ⟨h1, h2, h3⟩ | ⟨i, y, h1, h2, h3, rfl⟩
      · rw [List.getElem?_append_left (by omega)]
        exact hI.void b h3
      · have hy := renBlk_void h3.symm
        subst hy
        have hv := hI'.void i h2
        by_cases c : i < ρ.length
        · obtain ⟨x0, _, h5⟩ := known i c
          unfold Bk at h5
          rw [hv] at h5
          cases h5
        · rw [sig_ge (by omega) h1, List.getElem?_append_right (by omega), List.getElem?_drop, show ρ.length + (H.length + (i - ρ.length) - β.length) = i by omega]
          exact hv
  · refine ⟨hE.os, hE.output, hE.size, fun b hb hm => same b hb (fun h => hm (mutM b h)), hE.shape, hE.sub, old0, fun b h => ?_, fun b h => ?_⟩
    · rcases hE.newS b h with h | h | h
      · exact .inl h
      · exact .inr (.inl (mutM b h))
      · exact .inr (.inr h)
    · obtain ⟨i, cs, o, h1, h2⟩ := h
      rcases get i _ h1 with ⟨h3, h4, h5⟩ | ⟨j, y, h3, h4, h5, rfl⟩
      · exact .inl ⟨i, cs, o, h5, old1 _ _ h3 h2⟩
      · obtain ⟨cs0, rfl, _⟩ := renBlk_live h5.symm
        rcases hE.newM b ⟨j, cs0, o, h4, bkσ j _ h3 h2⟩ with h | h
        · exact .inl (mutM b h)
        · exact .inr h

end Go.Proofs.Ytbabdalfkmdlhaa
