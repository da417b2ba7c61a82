/- The abstract operations are sound, second part: equality, conversions of numbers, slices, places, loads. Of no program. -/
import Derived.Test.YtbabdalfkmdlhaaA4
namespace Go.Proofs.Ytbabdalfkmdlhaa
set_option linter.all false
section
variable {P : Program} {τ : Ty} {w : World} {S : Nat → Prop} {β : Bmap} {H : AHeap}

theorem part_one (hT : TyOk P τ) {t : TypeId} (hk : (τ t).td.known = true) (ha : (τ t).td.isAgg = false) (cs : Array Value) (off : Nat) (v : Value) (h : cs[off]? = some v) (w : World) :
    (part t cs off).run P w = .ok v w := by
  simp [part, (hT t hk).run_isAgg, ha, h]

/-- Cells of one kind each, read off a value's cells. -/
theorem eqFields_ok (hT : TyOk P τ) (xs ys : List D) (vx vy : Array Value)
    (hx : ∀ (i : Nat) (d : D) (v : Value), xs[i]? = some d → vx[i]? = some v → Rel w S β d v) (hy : ∀ (i : Nat) (d : D) (v : Value), ys[i]? = some d → vy[i]? = some v → Rel w S β d v)
    (lx : vx.size = xs.length) (ly : vy.size = ys.length) (n : Nat) :
    ∀ (g : List Field) (i : Nat), g.all (fun f => f.name != "_") = true → flatTD τ (g.map fun f => (f.offset, f.type)) i (xs.drop i) = true → flatTD τ (g.map fun f => (f.offset, f.type)) i (ys.drop i) = true →
      (Op.eqFields (n + 1) vx vy g).run P w = .ok (eqCells (xs.drop i) (ys.drop i)) w := by
  intro g
  induction g with
  | nil =>
    intro i _ h1 h2
    cases hxs : xs.drop i with
    | cons _ _ => rw [hxs] at h1; simp [flatTD] at h1
    | nil =>
      cases hys : ys.drop i with
      | cons _ _ => rw [hys] at h2; simp [flatTD] at h2
      | nil => simp [Op.eqFields, eqCells]
  | cons f g ih =>
    intro i hn h1 h2
    simp only [List.all_cons, Bool.and_eq_true] at hn
    cases hxs : xs.drop i with
    | nil => rw [hxs] at h1; simp [flatTD] at h1
    | cons dx rx =>
      cases hys : ys.drop i with
      | nil => rw [hys] at h2; simp [flatTD] at h2
      | cons dy ry =>
        rw [hxs] at h1
        rw [hys] at h2
        simp only [List.map_cons, flatTD, Bool.and_eq_true, decide_eq_true_eq] at h1 h2
        have exi : xs[i]? = some dx := by
          have := congrArg (·[0]?) hxs
          simpa using this
        have eyi : ys[i]? = some dy := by
          have := congrArg (·[0]?) hys
          simpa using this
        have exr : xs.drop (i + 1) = rx := by
          have := congrArg List.tail hxs
          simpa [List.tail_drop] using this
        have eyr : ys.drop (i + 1) = ry := by
          have := congrArg List.tail hys
          simpa [List.tail_drop] using this
        obtain ⟨u, hu⟩ : ∃ u, vx[i]? = some u := ⟨vx[i]'(by rw [lx]; exact (List.getElem?_eq_some_iff.1 exi).1), by simp⟩
        obtain ⟨v, hv⟩ : ∃ v, vy[i]? = some v := ⟨vy[i]'(by rw [ly]; exact (List.getElem?_eq_some_iff.1 eyi).1), by simp⟩
        have rx1 := hx i dx u exi hu
        have ry1 := hy i dy v eyi hv
        have ih' := ih (i + 1) hn.2 (by rw [exr]; exact h1.2) (by rw [eyr]; exact h2.2)
        rw [exr, eyr] at ih'
        have hname : f.name ≠ "_" := by simpa using hn.1
        obtain ⟨⟨hoff, hk⟩, _⟩ := h1
        obtain ⟨⟨_, hk2⟩, _⟩ := h2
        have p1 : ∀ hkn : (τ f.type).td.known = true, (τ f.type).td.isAgg = false → (part f.type vx f.offset).run P w = .ok u w := fun hkn ha => part_one hT hkn ha vx f.offset _ (by rw [hoff]; exact hu) w
        have p2 : ∀ hkn : (τ f.type).td.known = true, (τ f.type).td.isAgg = false → (part f.type vy f.offset).run P w = .ok v w := fun hkn ha => part_one hT hkn ha vy f.offset _ (by rw [hoff]; exact hv) w
        cases htd : (τ f.type).td with
        | int k =>
          have hkn : (τ f.type).td.known = true := by rw [htd]; rfl
          have q1 := p1 hkn (by rw [htd]; rfl)
          have q2 := p2 hkn (by rw [htd]; rfl)
          rw [htd] at hk hk2
          cases rx1 <;> simp at hk
          cases ry1 <;> simp at hk2
          subst hk; subst hk2
          simp only [Op.eqFields, hname, ne_eq, not_false_eq_true, if_true, Sem.run_bind, q1, q2, Result.andThen_ok, run_equalIn_int w n f.type _ _ _ _ ((hT _ hkn).int htd), eqCells, Sem.run_ite, ih', Sem.run_pure]
          split <;> simp_all
        | bool =>
          have hkn : (τ f.type).td.known = true := by rw [htd]; rfl
          have q1 := p1 hkn (by rw [htd]; rfl)
          have q2 := p2 hkn (by rw [htd]; rfl)
          rw [htd] at hk hk2
          cases rx1 <;> simp at hk
          cases ry1 <;> simp at hk2
          simp only [Op.eqFields, hname, ne_eq, not_false_eq_true, if_true, Sem.run_bind, q1, q2, Result.andThen_ok, run_equalIn_bool' w n f.type _ _ ((hT _ hkn).bool htd), eqCells, Sem.run_ite, ih', Sem.run_pure]
          split <;> simp_all
        | str =>
          have hkn : (τ f.type).td.known = true := by rw [htd]; rfl
          have q1 := p1 hkn (by rw [htd]; rfl)
          have q2 := p2 hkn (by rw [htd]; rfl)
          rw [htd] at hk hk2
          cases rx1 <;> simp at hk
          cases ry1 <;> simp at hk2
          simp only [Op.eqFields, hname, ne_eq, not_false_eq_true, if_true, Sem.run_bind, q1, q2, Result.andThen_ok, run_equalIn_string w n f.type _ _ ((hT _ hkn).str htd), eqCells, Sem.run_ite, ih', Sem.run_pure, ByteArray.toList_mk]
          split <;> simp_all
        | _ => rw [htd] at hk; simp at hk

theorem bin_ok (hT : TyOk P τ) (hI : AInv w S β H) (op : BinOp) (t : TypeId) (X Y : Operand) {x y : D} {vx vy : Value} (hx : Rel w S β x vx) (hy : Rel w S β y vy) :
    OpOk P w S β H (do eqGuard op t X Y vx vy; binOp op t vx vy) (aBin τ op t x y H) := by
  cases hx with
  | int k a h1 h2 =>
    cases hy <;> simp only [aBin] <;> first | exact OpOk.bad | exact int_ok hI op t X Y k _ a _ h1 h2
  | str a h1 =>
    cases hy <;> simp only [aBin] <;> first | exact OpOk.bad | (rename_i h2; exact str_ok hI op t X Y a _ h1 h2)
  | bool a =>
    cases hy <;> simp only [aBin] <;> first | exact OpOk.bad | skip
    rename_i b
    cases op <;> simp only <;> first | exact OpOk.bad | skip
    all_goals
      refine OpOk.same hI fun ho => ⟨_, ?_, .bool _⟩
      have hu := (hT t (by rw [ho]; rfl)).bool ho
      have := run_equalIn_bool' (P := P) w 9999 t a b hu
      simp [eqGuard, binOp, Op.equal, Op.maxDepth, this]
  | agg xs vx lx ox rx =>
    cases hy <;> simp only [aBin] <;> first | exact OpOk.bad | skip
    rename_i ys vy ly oy ry
    cases op <;> simp only <;> first | exact OpOk.bad | skip
    all_goals
      refine OpOk.same hI fun ho => ⟨_, ?_, .bool _⟩
      obtain ⟨fs, htd, heq, f1, f2⟩ := ho
      have hta := hT t (by rw [htd]; rfl)
      obtain ⟨e1, e2, e3, e4⟩ := hta.eqv heq
      obtain ⟨g, hg, hgf⟩ := hta.struct htd
      rw [e3] at hg
      cases hg
      have := eqFields_ok (P := P) hT xs ys vx vy rx ry lx ly 9998 (P.fieldsOf t).toList 0 e4 (by rw [hgf]; simpa using f1) (by rw [hgf]; simpa using f2)
      simp only [Sem.run_bind, run_eqGuard_agg _ _ _ _ _ _ _ e2, Result.andThen_ok, run_eql_struct, run_neq_struct, run_equalIn_struct w 9999 t vx vy e3 e1, this]
      simp
  | _ => simp only [aBin]; exact OpOk.bad

theorem un_ok (hI : AInv w S β H) (op : UnOp) {x : D} {v : Value} (hx : Rel w S β x v) : OpOk P w S β H (Op.unary op v) (aUn op x H) := by
  cases op <;> cases hx <;> simp only [aUn] <;> first | exact OpOk.bad | skip
  · refine OpOk.same hI fun _ => ⟨_, ?_, Rel.wrapped _ _⟩
    simp only [Op.unary, Op.intArith, Sem.run_pure]
  · refine OpOk.same hI fun _ => ⟨_, ?_, Rel.wrapped _ _⟩
    simp only [Op.unary, Op.intBits, Sem.run_pure]
  · refine OpOk.same hI fun _ => ⟨_, ?_, .bool _⟩
    simp only [Op.unary, Sem.run_pure]
end
end Go.Proofs.Ytbabdalfkmdlhaa
