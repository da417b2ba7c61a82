/- From a function of data to a row that says: whatever the input, true, and the input reads as it did. Of no program. -/
import Derived.Test.YtbabdalfkmdlhaaA23
import Derived.SizedLaws
namespace Go.Proofs.Ytbabdalfkmdlhaa
set_option linter.all false
open Go.ChangeShapes Go.WideShapes Go.ChangeAt Go.RowKit

/-- Arguments, each data of its type. -/
def TypedAll (τ : Ty) (fuel : Nat) : List TypeId → List D → Prop
  | [], [] => True
  | t :: ts, d :: ds => Typed τ fuel t d ∧ TypedAll τ fuel ts ds
  | _, _ => False

section
variable {P : Program} {τ : Ty} {H : Type} {enc : TypeId × Value → H} {w : World} {base : Nat} {sp : Nat → Bool} {held : Bool}

theorem all_rel (hT : TyOk P τ) {base' fuel : Nat} : ∀ {ts : List TypeId} {vs : List Value} {ds : List (DataW H)} {p : List MemPlace}, DataW.TrodAll enc P w base sp held ts vs ds p → (∀ t, t ∈ ts → (supp τ fuel t && posB P τ fuel t) = true) → (∀ m, m ∈ DataW.weightsEach P ts ds → m ≤ reachBytes) →
    (∀ (j : Nat) t v, ts[j]? = some t → vs[j]? = some v → Value.okWide P w .any base' t v) → ∃ Ds, TypedAll τ fuel ts Ds ∧ Ds.length = vs.length ∧ ds.length = ts.length ∧ ∀ (i : Nat) d v, Ds[i]? = some d → vs[i]? = some v → Rel w (fun b => b < w.heap.size) [] d v
  | [], _, _, _, h, _, _, _ => by
    obtain ⟨rfl, rfl, rfl⟩ := trodAll_nil h
    exact ⟨[], trivial, rfl, rfl, fun i d v h => by simp at h⟩
  | t :: ts, _, _, _, h, hs, hwt, hv => by
    obtain ⟨v, vs, d, ds, p, q, rfl, rfl, rfl, h1, h2⟩ := trodAll_cons h
    obtain ⟨x, h3, h4⟩ := param_rel hT h1 (Bool.and_eq_true _ _ ▸ hs t (by simp)).1 (Bool.and_eq_true _ _ ▸ hs t (by simp)).2 (fun m hm => hwt m (by simp only [DataW.weightsEach, List.mem_append]; exact .inl hm)) (hv 0 t v rfl rfl)
    obtain ⟨Ds, h5, h6, h8, h7⟩ := all_rel hT h2 (fun t ht => hs t (by simp [ht])) (fun m hm => hwt m (by simp only [DataW.weightsEach, List.mem_append]; exact .inr hm)) (fun j t v h1 h2 => hv (j + 1) t v (by simpa using h1) (by simpa using h2))
    refine ⟨x :: Ds, ⟨h3, h5⟩, by simp [h6], by simp [h8], fun i d v hd hv => ?_⟩
    cases i with
    | zero => simp at hd hv; subst hd; subst hv; exact h4
    | succ i => exact h7 i d v (by simpa using hd) (by simpa using hv)

theorem all_stays {W W' : World} (hl : laidOutB P = true) : ∀ {ts : List TypeId} {vs : List Value} {ds : List (DataW H)} {p : List MemPlace}, DataW.TrodAll enc P W 0 (fun _ => true) true ts vs ds p → (∀ t, t ∈ ts → P.readableRec t = true ∧ t < P.types.size) →
    (∀ x, x ∈ p → W.sameAt W' x) → (∀ x, x ∈ p → sp x.block = true) → DataW.TrodAll enc P W' 0 sp true ts vs ds p
  | [], _, _, _, h, _, _, _ => by
    obtain ⟨rfl, rfl, rfl⟩ := trodAll_nil h
    exact rfl
  | t :: ts, _, _, _, h, hr, h1, h2 => by
    obtain ⟨v, vs, d, ds, p, q, rfl, rfl, rfl, h3, h4⟩ := trodAll_cons h
    exact ⟨p, q, WideElems.Trod_stays hl (hr t (by simp)).1 (hr t (by simp)).2 h3 (fun x hx => h1 x (by simp [hx])) (fun x hx => h2 x (by simp [hx])),
      all_stays hl h4 (fun t ht => hr t (by simp [ht])) (fun x hx => h1 x (by simp [hx])) (fun x hx => h2 x (by simp [hx])), rfl⟩

/-- A row's answer, where of what was there nothing has turned. -/
theorem post_here {f : Func} {s : ChangeSpec} {apart fresh handsOn again : Bool} {W W' : World} {args : Array Value} {v : Value} {ds gs : List (DataW H)} {before pa pv : List MemPlace}
    (hW : DataW.Whole enc P f.params.toList s.vars apart W args.toList ds gs before)
    (hres : ∀ (b : Nat) (sp : Nat → Bool) (hd : Bool), DataW.TrodAll enc P W' b sp hd f.resultTypes.toList (v.resultList f.resultTypes.size) (s.fn H (ds ++ gs)).results [])
    (hargs : ∀ sp : Nat → Bool, (∀ p ∈ before, sp p.block = true) → DataW.TrodAll enc P W' 0 sp true f.params.toList args.toList (s.fn H (ds ++ gs)).args pa)
    (hvars : ∀ sp : Nat → Bool, (∀ p ∈ before, sp p.block = true) → DataW.TrodVars enc P W' sp s.vars (s.fn H (ds ++ gs)).vars pv)
    (hps : before = pa ++ pv) (hk : W.keptBut W' (· ∈ before)) (hfz : ∀ b off, MemPlace.cell b off ∈ before → W'.frozen? ⟨b, off, none⟩ = W.frozen? ⟨b, off, none⟩)
    (hok : ∀ (j : Nat) (t : TypeId) (r : Value), f.resultTypes[j]? = some t → (v.resultList f.resultTypes.size)[j]? = some r → Value.okWide P W' .any 0 t r) :
    s.post enc P f apart fresh handsOn again W args v W' := by
  have hold : ∀ p ∈ before, (fun b => decide (b < W.heap.size)) p.block = true := fun p hp => by simpa using hW.lt p hp
  refine ⟨ds, gs, before, [], pa, pv, hW, hres _ _ _, hargs _ hold, hvars _ hold, World.keptBut_mono (fun p hp => ⟨hp, ?_⟩) hk, fun _ => ?_⟩
  · rw [hps, List.mem_append] at hp
    exact Or.inr hp
  · obtain ⟨_, _, _, _, _, hz, hn⟩ := hW
    refine ⟨hok, _, _, ([] ++ pa) ++ pv, ⟨[] ++ pa, pv, trodAll_append (hargs _ (fun _ _ => rfl)) (hres _ _ _), hvars _ (fun _ _ => rfl), rfl, ?_, ?_⟩, ?_⟩
    · intro b off hp
      have hp' : MemPlace.cell b off ∈ before := by rw [hps]; simpa using hp
      rw [hfz b off hp']
      exact hz b off hp'
    · intro ha
      have := hn ha
      rw [hps] at this
      simpa using this
    · intro p hp _
      rw [hps]
      simpa using hp

theorem lifted {C : Checked} {os : Os} {f : FuncId} {fn : Func} {s : ChangeSpec} {a : Assume} {conds : List PathCond} {apart fresh handsOn again : Bool} (fuel : Nat) {t : TypeId}
    (own : ownKnob C.prog.godebug = none) (started : os.Started) (noInit : C.prog.inits.idxOf? f = none) (hfn : C.prog.funcs[f]? = some fn)
    (witness : ∃ (w : World) (tape : Tape) (i : Input), w.os = os ∧ (w.forCall tape i).Shaped C.prog ∧ i.vars = [] ∧ Input.okWide C.prog (w.forCall tape i) .any w.heap.size f i ∧
      s.pre6 enc C.prog fn conds apart (w.forCall tape i).memory i.args ∧ a.holds C.prog (lone (Frame.enter C.prog f i.args .normal) [] (w.forCall tape i)))
    (hT : TyOk C.prog τ) (hlay : laidOutB C.prog = true) (hread : fn.params.toList.all (fun t => C.prog.readableRec t && decide (t < C.prog.types.size)) = true) (hsupp : fn.params.toList.all (fun t => supp τ fuel t && posB C.prog τ fuel t) = true)
    (hvars : s.vars = []) (hs : ∀ ds, ds.length = fn.params.toList.length → s.fn H ds = { results := [.lit (.bool true)], args := ds }) (hres : fn.resultTypes = #[t]) (hb : C.prog.underlying t = some .bool)
    (hf : ∀ Ds, TypedAll τ fuel fn.params.toList Ds → PureF C.prog f Ds (.bool true)) :
    ReturnsInHanded a C os f .any (s.pre6 enc C.prog fn conds apart) (s.post enc C.prog fn apart fresh handsOn again) := by
  refine returnsInHanded_of_change_sized own started noInit hfn witness ?_
  intro W base args ds gs before hval hW _ hsz _
  have hW' := hW
  obtain ⟨p, q, hA, hV, rfl, hfz, hnd⟩ := hW
  rw [hvars] at hV
  have hgs : gs = [] ∧ q = [] := by
    cases gs with
    | nil => exact ⟨rfl, hV⟩
    | cons g gs => exact hV.elim
  obtain ⟨rfl, rfl⟩ := hgs
  rw [List.append_nil] at hW' hfz hnd
  simp only [List.all_eq_true] at hsupp
  simp only [List.all_eq_true, Bool.and_eq_true, decide_eq_true_eq] at hread
  obtain ⟨Ds, h1, h2, h2', h3⟩ := all_rel hT hA hsupp (fun m hm => by
    have := List.all_eq_true.1 hsz m (by
      have hv0 : s.plain.varTypes C.prog = [] := by simp [ChangeSpec.plain, DataSpec.varTypes, hvars]
      simpa [hv0] using hm)
    simpa using this) (fun j t v ht hv => hval j t v (by simpa using ht) (by simpa using hv))
  have hI : AInv W (fun b => b < W.heap.size) [] [] := ⟨rfl, fun b cs h => by simp at h, fun b cs h => by simp at h, fun b b' cs cs' blk o o' h => by simp at h, fun _ h => h, fun b h => by simp at h⟩
  refine ((hf Ds h1).2 W _ [] args hI (by simpa using h2.symm) (fun i d v hd hv => h3 i d v hd (by simpa using hv))).mono ?_
  rintro e W' ⟨v, d, H', S', β', rfl, h4, h5, h6, h7⟩
  obtain ⟨S'', h8, h9⟩ := h4.freezeAll
  have hv : v = .bool true := by
    have := h7.2 W' S'' β' v h8 (h6.evo h4 h9)
    cases this; rfl
  subst hv
  have hnm : ∀ b, ¬ Mut [] [] b := fun b h => by
    obtain ⟨i, cs, o, h, _⟩ := h
    simp at h
  have hblk : ∀ b, b < W.heap.size → W'.heap[b]? = W.heap[b]? := fun b hb => h5.frame b hb (hnm b)
  have hlt := hW'.lt
  have hs' := hs (ds ++ []) (by simp [h2'])
  refine ⟨.bool true, rfl, post_here (pa := p) (pv := []) hW' (fun b sp hd => ?_) (fun sp hsp => ?_) (fun sp _ => ?_) (List.append_nil p).symm ?_ (fun b off hp => ?_) ?_⟩
  · rw [hres, hs']
    exact ⟨[], [], ⟨1, by simp [DataW.trod, hb, Value.cells]⟩, rfl, rfl⟩
  · rw [hs']
    simp only [List.append_nil]
    refine all_stays hlay hA hread (fun x hx => ?_) hsp
    cases x with
    | cell b o => exact World.cell?_of_block (w := W) (hblk b (hlt _ hx))
    | map b => exact hblk b (hlt _ hx)
  · rw [hs', hvars]; rfl
  · refine ⟨h5.os, h5.output, fun i hi => ?_⟩
    rw [hblk i hi]
    split <;> simp_all
  · exact World.frozen?_of_block (w := W) (hblk b (hlt _ hp))
  · exact ok_one hres rfl (by simp [Value.okWide, hb, Cell.okWide, Cell.ok])

end
end Go.Proofs.Ytbabdalfkmdlhaa
