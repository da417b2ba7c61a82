/- The abstract operations are sound, first part: what touches no memory. Of no program. -/
import Derived.Test.YtbabdalfkmdlhaaA3
import Derived.WalkKit
import Derived.Laws.Closers25b
import Derived.ChangeKeysEq
import Derived.Laws.StructEq
import Derived.Lib.ConvBytes
namespace Go.Proofs.Ytbabdalfkmdlhaa
set_option linter.all false

structure TyAt (P : Program) (τ : Ty) (t : TypeId) : Prop where
  und : (P.underlying t).map TD.of = some (τ t).td
  info : ∃ i, P.info? t = some i ∧ i.zero = some (τ t).zero ∧ i.size = (τ t).size ∧ i.bytes = (τ t).bytes
  eqv : (τ t).eq = true → P.stoodInHeld t = false ∧ P.eqGuardType P.depth t = false ∧ P.underlying t = some (.struct (P.fieldsOf t)) ∧ (P.fieldsOf t).toList.all (fun f => f.name != "_") = true

def TyOk (P : Program) (τ : Ty) : Prop := ∀ t, (τ t).td.known = true → TyAt P τ t

section
variable {P : Program} {τ : Ty}

theorem TyAt.int {t : TypeId} (h : TyAt P τ t) {k : IntKind} (e : (τ t).td = .int k) : P.underlying t = some (.int k) := by
  have := h.und; rw [e] at this
  cases hu : P.underlying t with
  | none => rw [hu] at this; cases this
  | some d => rw [hu] at this; cases d <;> simp [TD.of] at this; rw [this]
theorem TyAt.bool {t : TypeId} (h : TyAt P τ t) (e : (τ t).td = .bool) : P.underlying t = some .bool := by
  have := h.und; rw [e] at this
  cases hu : P.underlying t with
  | none => rw [hu] at this; cases this
  | some d => rw [hu] at this; cases d <;> simp [TD.of] at this; rfl
theorem TyAt.str {t : TypeId} (h : TyAt P τ t) (e : (τ t).td = .str) : P.underlying t = some .string := by
  have := h.und; rw [e] at this
  cases hu : P.underlying t with
  | none => rw [hu] at this; cases this
  | some d => rw [hu] at this; cases d <;> simp [TD.of] at this; rfl
theorem TyAt.slice {t : TypeId} (h : TyAt P τ t) {x : TypeId} (e : (τ t).td = .slice x) : P.underlying t = some (.slice x) := by
  have := h.und; rw [e] at this
  cases hu : P.underlying t with
  | none => rw [hu] at this; cases this
  | some d => rw [hu] at this; cases d <;> simp [TD.of] at this; rw [this]
theorem TyAt.array {t : TypeId} (h : TyAt P τ t) {n : Nat} {x : TypeId} (e : (τ t).td = .array n x) : P.underlying t = some (.array n x) := by
  have := h.und; rw [e] at this
  cases hu : P.underlying t with
  | none => rw [hu] at this; cases this
  | some d => rw [hu] at this; cases d <;> simp [TD.of] at this; rw [this.1, this.2]
theorem TyAt.struct {t : TypeId} (h : TyAt P τ t) {fs : List (Nat × TypeId)} (e : (τ t).td = .struct fs) :
    ∃ g, P.underlying t = some (.struct g) ∧ g.toList.map (fun f => (f.offset, f.type)) = fs := by
  have := h.und; rw [e] at this
  cases hu : P.underlying t with
  | none => rw [hu] at this; cases this
  | some d => rw [hu] at this; cases d <;> simp [TD.of] at this; exact ⟨_, rfl, this⟩

theorem TyAt.run_isAgg {t : TypeId} (h : TyAt P τ t) (w : World) : (isAgg t).run P w = .ok (τ t).td.isAgg w := by
  have hu := h.und
  cases hd : P.underlying t with
  | none => rw [hd] at hu; cases hu
  | some d =>
    rw [hd] at hu
    simp only [Option.map_some, Option.some.injEq] at hu
    rw [← hu]
    cases d <;> simp [isAgg, run_underlying hd, TD.of, TD.isAgg]

theorem TyAt.run_sizeOf {t : TypeId} (h : TyAt P τ t) (w : World) : (sizeOf t).run P w = .ok (τ t).size w := by
  obtain ⟨i, h1, h2, h3, h4⟩ := h.info
  simp [sizeOf, typeInfo, h1, h3]
theorem TyAt.run_zero {t : TypeId} (h : TyAt P τ t) (w : World) : (zeroValue t).run P w = .ok (τ t).zero w := by
  obtain ⟨i, h1, h2, h3, h4⟩ := h.info
  simp [zeroValue, typeInfo, h1, h2]

theorem TD.known_of {d e : TD} (h : d = e) (he : e.known = true) : d.known = true := h ▸ he

/-- The run of 's' comes to what 'r' tells, if what 'r' asks holds. -/
def OpOk (P : Program) (w : World) (S : Nat → Prop) (β : Bmap) (H : AHeap) (s : Sem Value) (r : R) : Prop :=
  r.ob → ∃ v w' S' β', s.run P w = .ok v w' ∧ AInv w' S' β' r.H ∧ Evo w S β H w' S' β' r.H ∧ Rel w' S' β' r.d v

variable {w : World} {S : Nat → Prop} {β : Bmap} {H : AHeap}

theorem OpOk.same (hI : AInv w S β H) {s : Sem Value} {ob : Prop} {d : D} (h : ob → ∃ v, s.run P w = .ok v w ∧ Rel w S β d v) : OpOk P w S β H s ⟨ob, d, H⟩ := fun ho =>
  let ⟨v, h1, h2⟩ := h ho
  ⟨v, w, S, β, h1, hI, Evo.refl _ _ _ _, h2⟩

theorem OpOk.bad {s : Sem Value} : OpOk P w S β H s bad := fun h => h.elim

theorem Rel.wrapped (k : IntKind) (n : Int) : Rel w S β (.int k (k.wrap n)) (.int k (k.wrap n)) := .int _ _ (wrap_within k n).1 (wrap_within k n).2

theorem tmod_within {k : IntKind} {a b : Int} (h1 : k.min ≤ a) (h2 : a ≤ k.max) : k.min ≤ a.tmod b ∧ a.tmod b ≤ k.max := by
  have hmin : k.min ≤ 0 := by cases k <;> decide
  have hmax : 0 ≤ k.max := by cases k <;> decide
  rcases Int.le_total 0 a with h | h
  · have := Int.tmod_nonneg b h
    have h3 : a.tmod b ≤ a := by
      have e := Int.natAbs_tmod a b
      have := Nat.mod_le a.natAbs b.natAbs
      omega
    omega
  · have h3 : a ≤ a.tmod b ∧ a.tmod b ≤ 0 := by
      have e : a.tmod b = - ((-a).tmod b) := by rw [Int.neg_tmod]; omega
      have h4 := Int.tmod_nonneg b (show 0 ≤ -a by omega)
      have h5 : (-a).tmod b ≤ -a := by
        have e := Int.natAbs_tmod (-a) b
        have := Nat.mod_le (-a).natAbs b.natAbs
        omega
      omega
    omega

theorem fdiv_within {k : IntKind} {a : Int} (n : Nat) (h1 : k.min ≤ a) (h2 : a ≤ k.max) : k.min ≤ a.fdiv (2 ^ n) ∧ a.fdiv (2 ^ n) ≤ k.max := by
  have hmin : k.min ≤ 0 := by cases k <;> decide
  have hmax : 0 ≤ k.max := by cases k <;> decide
  have hp : (0 : Int) < 2 ^ n := Int.pow_pos (by decide)
  rw [Int.fdiv_eq_ediv_of_nonneg _ (Int.le_of_lt hp)]
  rcases Int.le_total 0 a with h | h
  · have h3 := Int.ediv_nonneg h (Int.le_of_lt hp)
    have h4 := Int.ediv_le_self (2 ^ n) h
    omega
  · have h3 : a / 2 ^ n ≤ 0 := by
      have := Int.ediv_le_ediv hp h
      simpa using this
    have h4 : a ≤ a / 2 ^ n := by
      rw [Int.le_ediv_iff_mul_le hp]
      have : a * 2 ^ n ≤ a * 1 := Int.mul_le_mul_of_nonpos_left h (by omega)
      omega
    omega

theorem int_ok (hI : AInv w S β H) (op : BinOp) (t : TypeId) (X Y : Operand) (k k' : IntKind) (a b : Int) (h1 : k.min ≤ a) (h2 : a ≤ k.max) :
    OpOk P w S β H (do eqGuard op t X Y (.int k a) (.int k' b); binOp op t (.int k a) (.int k' b)) (aInt op k a k' b H) := by
  cases op <;> simp only [aInt] <;> refine OpOk.same hI fun ho => ?_
  case shl =>
    refine ⟨_, ?_, Rel.wrapped k _⟩
    simp [eqGuard, binOp, Op.shift, Int.not_lt.2 ho]
  case shr =>
    refine ⟨_, ?_, .int _ _ (fdiv_within _ h1 h2).1 (fdiv_within _ h1 h2).2⟩
    simp [eqGuard, binOp, Op.shift, Int.not_lt.2 ho]
  case quo =>
    obtain ⟨rfl, hb⟩ := ho
    refine ⟨_, ?_, Rel.wrapped k _⟩
    simp [eqGuard, binOp, Op.intDiv, hb]
  case rem =>
    obtain ⟨rfl, hb⟩ := ho
    refine ⟨_, ?_, .int _ _ (tmod_within h1 h2).1 (tmod_within h1 h2).2⟩
    simp [eqGuard, binOp, Op.intDiv, hb]
  all_goals
    subst ho
    first
      | (refine ⟨_, ?_, Rel.wrapped k _⟩; simp [eqGuard, binOp, Op.intArith, Op.intBits, Op.intCmp]; done)
      | (refine ⟨_, ?_, .bool _⟩; simp [eqGuard, binOp, Op.intArith, Op.intBits, Op.intCmp]; done)

theorem str_ok (hI : AInv w S β H) (op : BinOp) (t : TypeId) (X Y : Operand) (a b : List UInt8) (h1 : a.length ≤ maxLen) (h2 : b.length ≤ maxLen) :
    OpOk P w S β H (do eqGuard op t X Y (.string ⟨⟨a⟩⟩) (.string ⟨⟨b⟩⟩); binOp op t (.string ⟨⟨a⟩⟩) (.string ⟨⟨b⟩⟩)) (aStr op a b H) := by
  have ea : (⟨⟨a⟩⟩ : ByteArray).toList = a := ByteArray.toList_mk a
  have eb : (⟨⟨b⟩⟩ : ByteArray).toList = b := ByteArray.toList_mk b
  cases op <;> simp only [aStr] <;> first
    | exact OpOk.bad
    | (refine OpOk.same hI fun ho => ?_)
  case add =>
    refine ⟨.string ⟨⟨a ++ b⟩⟩, ?_, .str _ (by simpa using ho)⟩
    have hs : (⟨⟨a⟩⟩ : ByteArray).size + (⟨⟨b⟩⟩ : ByteArray).size ≤ 9223372036854775807 := by
      simp only [ByteArray.size, List.size_toArray, maxLen] at *; omega
    have := run_string_add_sum (P := P) (w := w) ⟨⟨a⟩⟩ ⟨⟨b⟩⟩ hs
    have e2 := ByteArray.mk_append_mk a b
    simp only [e2] at this
    simp [eqGuard, binOp, this]
  all_goals
    refine ⟨_, ?_, .bool _⟩
    simp [eqGuard, binOp, Op.stringOp, ea, eb]

end
end Go.Proofs.Ytbabdalfkmdlhaa
