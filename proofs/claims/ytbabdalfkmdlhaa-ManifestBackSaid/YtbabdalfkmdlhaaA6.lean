/- The abstract operations are sound, third part: places, parts, loads, slices. Of no program. -/
import Derived.Test.YtbabdalfkmdlhaaA5
namespace Go.Proofs.Ytbabdalfkmdlhaa
set_option linter.all false
section
variable {P : Program} {τ : Ty} {w : World} {S : Nat → Prop} {β : Bmap} {H : AHeap}

theorem addr_add (a : Addr) (m j : Nat) : (a.add m).add j = a.add (m + j) := by
  unfold Addr.add
  by_cases hm : m = 0
  · subst hm; simp
  · by_cases hj : j = 0
    · subst hj; simp [hm]
    · simp [hm, hj, Nat.add_assoc]

theorem addr_block (a : Addr) (m : Nat) : (a.add m).block = a.block := by unfold Addr.add; split <;> rfl

theorem addr_at (b o m : Nat) : (⟨b, o, none⟩ : Addr).add m = ⟨b, o + m, none⟩ := by unfold Addr.add; split <;> simp_all

theorem part_ok (hT : TyOk P τ) {t : TypeId} {cs : List D} {vs : Array Value} (hr : Rel w S β (.agg cs) (.agg vs)) {off : Nat} (ho : partOb (τ t) cs off) :
    ∃ v, (part t vs off).run P w = .ok v w ∧ Rel w S β (partD (τ t) cs off) v := by
  obtain ⟨hk, ho⟩ := ho
  have ht := hT t hk
  cases hr with
  | agg _ _ h1 h0 h2 =>
  cases ha : (τ t).td.isAgg with
  | true =>
    rw [ha, if_pos rfl] at ho
    refine ⟨.agg (vs.extract off (off + (τ t).size)), by simp [part, ht.run_isAgg, ha, ht.run_sizeOf], ?_⟩
    simp only [partD, ha, if_true]
    refine .agg _ _ (by simp; omega) (fun i v hv => ?_) (fun i d v hd hv => ?_)
    · rw [Array.getElem?_extract] at hv
      split at hv
      · exact h0 _ _ hv
      · cases hv
    · rw [Array.getElem?_extract] at hv
      rw [List.getElem?_take, List.getElem?_drop] at hd
      split at hv
      · split at hd
        · exact h2 _ _ _ hd hv
        · cases hd
      · cases hv
  | false =>
    rw [ha] at ho
    simp only [Bool.false_eq_true, if_false] at ho
    have hlt : off < vs.size := by omega
    refine ⟨vs[off], by simp [part, ht.run_isAgg, ha, hlt], ?_⟩
    simp only [partD, ha, Bool.false_eq_true, if_false]
    exact h2 off _ _ (by simp [List.getD, List.getElem?_eq_getElem ho]) (by simp [hlt])

theorem loadVar_ok (hT : TyOk P τ) {t : TypeId} {cs : List D} {a : Addr} (hc : ∀ (j : Nat) (d : D), cs[j]? = some d → ∃ v, w.cell? (a.add j) = some v ∧ v.oneCell' = true ∧ Rel w S β d v) (ho : partOb (τ t) cs 0) :
    ∃ v, (loadVar t a).run P w = .ok v w ∧ Rel w S β (partD (τ t) cs 0) v := by
  obtain ⟨hk, ho⟩ := ho
  have ht := hT t hk
  cases ha : (τ t).td.isAgg with
  | true =>
    rw [ha, if_pos rfl] at ho
    have hex : ∀ j, ∃ v, j < cs.length → w.cell? (a.add j) = some v ∧ v.oneCell' = true ∧ ∃ d, cs[j]? = some d ∧ Rel w S β d v := fun j => by
      by_cases hj : j < cs.length
      · obtain ⟨v, h1, h2, h3⟩ := hc j _ (List.getElem?_eq_getElem hj)
        exact ⟨v, fun _ => ⟨h1, h2, _, List.getElem?_eq_getElem hj, h3⟩⟩
      · exact ⟨undef, fun h => absurd h hj⟩
    let f : Nat → Value := fun j => Classical.choose (hex j)
    have hf : ∀ j, j < cs.length → w.cell? (a.add j) = some (f j) ∧ (f j).oneCell' = true ∧ ∃ d, cs[j]? = some d ∧ Rel w S β d (f j) := fun j => Classical.choose_spec (hex j)
    have hl := run_loadCells (P := P) w a (τ t).size f (fun j hj => (hf j (by omega)).1)
    refine ⟨.agg ((List.range (τ t).size).map f).toArray, by simp [loadVar, ht.run_isAgg, ha, ht.run_sizeOf, hl], ?_⟩
    simp only [partD, ha, if_true, List.drop_zero]
    refine .agg _ _ (by simp; omega) (fun i v hv => ?_) (fun i d v hd hv => ?_)
    · simp only [List.getElem?_toArray, List.getElem?_map] at hv
      by_cases hi : i < (τ t).size
      · simp [hi] at hv; subst hv; exact (hf i (by omega)).2.1
      · simp [hi] at hv
    · simp only [List.getElem?_toArray, List.getElem?_map] at hv
      rw [List.getElem?_take] at hd
      by_cases hi : i < (τ t).size
      · simp [hi] at hv hd
        subst hv
        obtain ⟨_, _, d', h1, h2⟩ := hf i (by omega)
        rw [hd] at h1; cases h1; exact h2
      · simp [hi] at hd
  | false =>
    rw [ha] at ho
    simp only [Bool.false_eq_true, if_false] at ho
    obtain ⟨v, h1, h2, h3⟩ := hc 0 _ (List.getElem?_eq_getElem ho)
    have ha0 : a.add 0 = a := by unfold Addr.add; simp
    rw [ha0] at h1
    refine ⟨v, by simp [loadVar, ht.run_isAgg, ha, h1], ?_⟩
    simp only [partD, ha, Bool.false_eq_true, if_false]
    simpa [List.getD, List.getElem?_eq_getElem ho] using h3

theorem partD_drop (r : TyRow) (cs : List D) (o : Nat) : partD r cs o = partD r (cs.drop o) 0 := by
  simp [partD, List.getD, List.getElem?_drop]

theorem partOb_drop {r : TyRow} {cs : List D} {o : Nat} (h : partOb r cs o) : partOb r (cs.drop o) 0 := by
  refine ⟨h.1, ?_⟩
  have h2 := h.2
  cases ha : r.td.isAgg <;> simp [ha] at h2 ⊢ <;> omega

/-- What is told of a block's cells is so. -/
theorem AInv.cellsAt (hI : AInv w S β H) {b : Nat} {cs : List D} (h : cellsAt H b = some cs) {blk off : Nat} (hk : Bk β b (some (blk, off))) :
    ∀ (j : Nat) (d : D), cs[j]? = some d → ∃ v, w.cell? ⟨blk, off + j, none⟩ = some v ∧ v.oneCell' = true ∧ Rel w S β d v := by
  intro j d hd
  unfold Go.Proofs.Ytbabdalfkmdlhaa.cellsAt at h
  cases hb : H[b]? with
  | none => rw [hb] at h; cases h
  | some x =>
    rw [hb] at h
    simp only [Option.bind_some] at h
    have key : (cs = [] ∧ Bk β b none) ∨ ∃ blk off vs T fr, Bk β b (some (blk, off)) ∧ Lies w S β cs blk off vs T fr := by
      cases x with
      | live c =>
        simp only [Blk.cells, Option.some.injEq] at h
        subst h
        rcases hI.live b c hb with h | ⟨b1, o1, vs, T, fr, h1, _, _, h2⟩
        · exact .inl h
        · exact .inr ⟨b1, o1, vs, T, fr, h1, h2⟩
      | froz c =>
        simp only [Blk.cells, Option.some.injEq] at h
        subst h
        rcases hI.froz b c hb with h | ⟨b1, o1, vs, T, fr, h1, _, h2⟩
        · exact .inl h
        · exact .inr ⟨b1, o1, vs, T, fr, h1, h2⟩
      | void => simp [Blk.cells] at h
      | dead => simp [Blk.cells] at h
    rcases key with ⟨rfl, _⟩ | ⟨b1, o1, vs, T, fr, h1, h2⟩
    · simp at hd
    · unfold Bk at hk h1
      rw [hk] at h1
      cases h1
      obtain ⟨v, hv, hr⟩ := h2.cell j d hd
      exact ⟨v, by simp [World.cell?, h2.heap, hv], h2.one j v (List.getElem?_eq_some_iff.1 hd).1 hv, hr⟩

theorem load_ok (hT : TyOk P τ) (hI : AInv w S β H) {t : TypeId} {x : D} {v : Value} (hx : Rel w S β x v) : OpOk P w S β H (Instr.loadAt t v) (aLoad τ t x H) := by
  cases hx with
  | ptr b o blk off hk =>
    simp only [aLoad]
    cases hc : Go.Proofs.Ytbabdalfkmdlhaa.cellsAt H b with
    | none => exact OpOk.bad
    | some cs =>
      refine OpOk.same hI fun ho => ?_
      have := loadVar_ok (P := P) hT (w := w) (S := S) (β := β) (t := t) (cs := cs.drop o) (a := ⟨blk, off + o, none⟩) (fun j d hd => by
        rw [List.getElem?_drop] at hd
        obtain ⟨v, h1, h2, h3⟩ := hI.cellsAt hc hk (o + j) d hd
        exact ⟨v, by rw [addr_at, Nat.add_assoc]; exact h1, h2, h3⟩) (partOb_drop ho)
      obtain ⟨v, h1, h2⟩ := this
      rw [partD_drop]
      exact ⟨v, by simpa [Instr.loadAt, Instr.sureAddr] using h1, h2⟩
  | cp cs ad vf h1 h2 =>
    simp only [aLoad]
    refine OpOk.same hI fun ho => ?_
    obtain ⟨v, h3, h4⟩ := loadVar_ok (P := P) hT (w := w) (S := S) (β := β) (t := t) (cs := cs) (a := ad) (fun j d hd =>
      ⟨vf j, (h1 j (List.getElem?_eq_some_iff.1 hd).1).2.1, (h1 j (List.getElem?_eq_some_iff.1 hd).1).2.2, h2 j d hd⟩) ho
    exact ⟨v, by simpa [Instr.loadAt, Instr.sureAddr] using h3, h4⟩
  | _ => simp only [aLoad]; exact OpOk.bad

theorem field_ok (hT : TyOk P τ) (hI : AInv w S β H) {t : TypeId} {x : D} {v : Value} (f : Nat) (hx : Rel w S β x v) : OpOk P w S β H (Instr.field t v f) (aField τ t x f H) := by
  cases htd : (τ t).td <;> simp only [aField, htd] <;> first | exact OpOk.bad | skip
  rename_i fs
  cases hf : fs[f]? with
  | none => exact OpOk.bad
  | some g =>
    obtain ⟨off, ft⟩ := g
    cases hx <;> simp only <;> first | exact OpOk.bad | skip
    rename_i cs vs h1 h0 h2
    refine OpOk.same hI fun ho => ?_
    obtain ⟨g, hg, hgf⟩ := (hT t (by rw [htd]; rfl)).struct htd
    have hg2 : g[f]?.map (fun f => (f.offset, f.type)) = some (off, ft) := by
      rw [← hf, ← hgf]; simp
    cases hgf' : g[f]? with
    | none => rw [hgf'] at hg2; cases hg2
    | some fl =>
      rw [hgf'] at hg2
      simp only [Option.map_some, Option.some.injEq, Prod.mk.injEq] at hg2
      obtain ⟨rfl, rfl⟩ := hg2
      obtain ⟨v, h3, h4⟩ := part_ok (P := P) hT (.agg cs vs h1 h0 h2) ho
      exact ⟨v, by simp [Instr.field, run_underlying hg, hgf', asAgg, h3], h4⟩

theorem fieldAddr_ok (hT : TyOk P τ) (hI : AInv w S β H) {t : TypeId} {x : D} {v : Value} (f : Nat) (hx : Rel w S β x v) : OpOk P w S β H (Instr.fieldAt t v f) (aFieldAddr τ t x f H) := by
  cases htd : (τ t).td <;> simp only [aFieldAddr, htd] <;> first | exact OpOk.bad | skip
  rename_i fs
  cases hf : fs[f]? with
  | none => exact OpOk.bad
  | some g =>
    obtain ⟨off, ft⟩ := g
    obtain ⟨g, hg, hgf⟩ := (hT t (by rw [htd]; rfl)).struct htd
    have hg2 : g[f]?.map (fun f => (f.offset, f.type)) = some (off, ft) := by
      rw [← hf, ← hgf]; simp
    cases hgf' : g[f]? with
    | none => rw [hgf'] at hg2; cases hg2
    | some fl =>
      rw [hgf'] at hg2
      simp only [Option.map_some, Option.some.injEq, Prod.mk.injEq] at hg2
      obtain ⟨rfl, rfl⟩ := hg2
      have key : (τ fl.type).size ≠ 0 → (τ fl.type).td.known = true → ∀ a : Addr, (Instr.fieldAt t (.pointer (some a)) f).run P w = .ok (.pointer (some (a.add fl.offset))) w := fun hs hk a => by
        simp [Instr.fieldAt, run_underlying hg, hgf', Instr.sureAddr, fieldPlace, (hT _ hk).run_sizeOf, hs]
      cases hx <;> simp only <;> first | exact OpOk.bad | skip
      · rename_i cs ad vf h1 h2
        refine OpOk.same hI fun ho => ?_
        refine ⟨_, key ho.1 ho.2 ad, ?_⟩
        refine .cp _ _ (fun j => vf (fl.offset + j)) (fun j hj => ?_) (fun j d hd => h2 _ d (by rwa [List.getElem?_drop] at hd))
        have := h1 (fl.offset + j) (by simp at hj; omega)
        exact ⟨by rw [addr_block]; exact this.1, by rw [addr_add]; exact this.2.1, this.2.2⟩
      · rename_i b o blk off hk
        refine OpOk.same hI fun ho => ?_
        refine ⟨_, key ho.1 ho.2 _, ?_⟩
        rw [addr_at, Nat.add_assoc]
        exact .ptr b _ blk off hk

theorem indexAddr_ok (hT : TyOk P τ) (hI : AInv w S β H) {t : TypeId} {x ix : D} {v vi : Value} (hx : Rel w S β x v) (hi : Rel w S β ix vi) : OpOk P w S β H (Instr.indexAt t v vi) (aIndexAddr τ t x ix H) := by
  cases hi <;> simp only [aIndexAddr] <;> first | exact OpOk.bad | skip
  rename_i k i hi1 hi2
  cases htd : (τ t).td <;> simp only <;> first | exact OpOk.bad | skip
  · rename_i e
    have hu := (hT t (by rw [htd]; rfl)).slice htd
    cases hx <;> simp only <;> first | exact OpOk.bad | skip
    · refine OpOk.same hI fun ho => ?_
      obtain ⟨h0, h1, _⟩ := ho
      simp at h1; omega
    · rename_i sz es tight ad cap vf h1 h2 h3 h4 h5 h6
      refine OpOk.same hI fun ho => ?_
      obtain ⟨p0, p1, ps, hk⟩ := ho
      have hs := (hT e hk).run_sizeOf w
      refine ⟨.pointer (some (ad.add (i.toNat * (τ e).size))), ?_, ?_⟩
      · simp [Instr.indexAt, asIntOf, run_underlying hu, p0, p1, hs]
      · have hlt : i.toNat < es.length := by omega
        have hget : es[i.toNat]? = some es[i.toNat] := List.getElem?_eq_getElem hlt
        have hgd : es.getD i.toNat .any = es[i.toNat] := by simp [List.getD, hget]
        rw [hgd]
        have hlen := h4 _ (List.getElem_mem hlt)
        rw [← ps]
        refine .cp _ _ (fun j => vf (i.toNat * sz + j)) (fun j hj => ?_) (fun j d hd => h6 i.toNat _ j d hget hd)
        have hb : i.toNat * sz + j < es.length * sz := by
          have : (i.toNat + 1) * sz ≤ es.length * sz := Nat.mul_le_mul_right _ hlt
          rw [Nat.add_mul] at this
          omega
        have := h5 _ hb
        exact ⟨by rw [addr_block]; exact this.1, by rw [addr_add]; exact this.2.1, this.2.2⟩
    · rename_i b o len sz blk off cap h1 h2 h3 T n h4 h5
      refine OpOk.same hI fun ho => ?_
      obtain ⟨p0, p1, ps, hk⟩ := ho
      have hs := (hT e hk).run_sizeOf w
      refine ⟨.pointer (some ((⟨blk, off + o, none⟩ : Addr).add (i.toNat * (τ e).size))), ?_, ?_⟩
      · simp [Instr.indexAt, asIntOf, run_underlying hu, p0, p1, hs]
      · rw [addr_at, Nat.add_assoc, ps]
        exact .ptr b _ blk off h1
    · refine OpOk.same hI fun ho => ?_
      obtain ⟨h0, h1, _⟩ := ho
      simp at h1; omega
  · rename_i n e
    have hu := (hT t (by rw [htd]; rfl)).array htd
    have key : 0 ≤ i → i < n → (τ e).td.known = true → ∀ a : Addr, (Instr.indexAt t (.pointer (some a)) (.int k i)).run P w = .ok (.pointer (some (a.add (i.toNat * (τ e).size)))) w := fun p0 p1 hk a => by
      have hs := (hT e hk).run_sizeOf w
      simp [Instr.indexAt, asIntOf, run_underlying hu, p0, p1, hs, Instr.sureAddr]
    cases hx <;> simp only <;> first | exact OpOk.bad | skip
    · rename_i cs ad vf h1 h2
      refine OpOk.same hI fun ho => ?_
      refine ⟨_, key ho.1 ho.2.1 ho.2.2 ad, ?_⟩
      refine .cp _ _ (fun j => vf (i.toNat * (τ e).size + j)) (fun j hj => ?_) (fun j d hd => h2 _ d (by rwa [List.getElem?_drop] at hd))
      have := h1 (i.toNat * (τ e).size + j) (by simp at hj; omega)
      exact ⟨by rw [addr_block]; exact this.1, by rw [addr_add]; exact this.2.1, this.2.2⟩
    · rename_i b o blk off hk
      refine OpOk.same hI fun ho => ?_
      refine ⟨_, key ho.1 ho.2.1 ho.2.2 _, ?_⟩
      rw [addr_at, Nat.add_assoc]
      exact .ptr b _ blk off hk

end
end Go.Proofs.Ytbabdalfkmdlhaa
