/- Typed data, decoded: what the printed tables of a seat lean on. Of no program. -/
import Derived.Test.YtbabdalfkmdlhaaA24
namespace Go.Proofs.Ytbabdalfkmdlhaa
set_option linter.all false

def okInt (k : IntKind) (n : Int) : Prop := k.min ≤ n ∧ n ≤ k.max
def okStr (s : List UInt8) : Prop := s.length ≤ reach
def okL {α : Type} (p : α → Prop) (l : List α) : Prop := l.length ≤ reach ∧ ∀ x, x ∈ l → p x
def okT {α : Type} (_ : α) : Prop := True

theorem reach_le : reach ≤ maxLen := by decide
theorem okStr.max {s : List UInt8} (h : okStr s) : s.length ≤ maxLen := Nat.le_trans h reach_le
theorem okL.max {α : Type} {p : α → Prop} {l : List α} (h : okL p l) : l.length ≤ maxLen := Nat.le_trans h.1 reach_le
theorem reach_lit : reach = 140737488351232 := rfl

/-- A slice of data. -/
abbrev dl {α : Type} (sz : Nat) (f : α → D) (l : List α) : D := .sl sz (l.map f) false

theorem list_of {α : Type} {g : α → D} {p : α → Prop} : ∀ (es : List D), (∀ x, x ∈ es → ∃ y, p y ∧ x = g y) → ∃ l : List α, es = l.map g ∧ ∀ y, y ∈ l → p y
  | [], _ => ⟨[], rfl, fun y h => by cases h⟩
  | e :: es, h => by
    obtain ⟨y, h1, rfl⟩ := h e (by simp)
    obtain ⟨l, rfl, h2⟩ := list_of es fun x hx => h x (by simp [hx])
    refine ⟨y :: l, rfl, fun z hz => ?_⟩
    rcases List.mem_cons.1 hz with rfl | hz
    · exact h1
    · exact h2 z hz

section
variable {τ : Ty} {n : Nat} {t : TypeId} {xs : List D}

theorem dec_int {k : IntKind} (e : (τ t).td = .int k) (h : TypedC τ n t xs) : ∃ m, okInt k m ∧ xs = [.int k m] := by
  cases n with
  | zero => exact h.elim
  | succ n => unfold TypedC at h; rw [e] at h; obtain ⟨m, h1, h2, h3⟩ := h; exact ⟨m, ⟨h1, h2⟩, h3⟩

theorem dec_u8 (e : (τ t).td = .int .u8) (h : TypedC τ n t xs) : ∃ b : UInt8, okT b ∧ xs = [byteD b] := by
  obtain ⟨m, ⟨h1, h2⟩, rfl⟩ := dec_int e h
  rw [min_u8] at h1
  rw [max_u8] at h2
  refine ⟨UInt8.ofNat m.toNat, trivial, ?_⟩
  unfold byteD
  rw [UInt8.toNat_ofNat', Nat.mod_eq_of_lt (by omega), Int.toNat_of_nonneg h1]

theorem dec_bool (e : (τ t).td = .bool) (h : TypedC τ n t xs) : ∃ b : Bool, okT b ∧ xs = [.bool b] := by
  cases n with
  | zero => exact h.elim
  | succ n => unfold TypedC at h; rw [e] at h; obtain ⟨b, h⟩ := h; exact ⟨b, trivial, h⟩

theorem dec_str (e : (τ t).td = .str) (h : TypedC τ n t xs) : ∃ s, okStr s ∧ xs = [.str s] := by
  cases n with
  | zero => exact h.elim
  | succ n => unfold TypedC at h; rw [e] at h; exact h

theorem dec_slice {α : Type} {f : α → D} {p : α → Prop} {t' : TypeId} (e : (τ t).td = .slice t') (hs : ∀ n ys, TypedC τ n t' ys → ∃ x, p x ∧ toE (τ t').td.isAgg ys = f x) (h : TypedC τ n t xs) :
    ∃ l : List α, okL p l ∧ xs = [dl (τ t').size f l] := by
  cases n with
  | zero => exact h.elim
  | succ n =>
    unfold TypedC at h
    rw [e] at h
    obtain ⟨es, h1, rfl, h2⟩ := h
    obtain ⟨l, rfl, h3⟩ := list_of (g := f) (p := p) es fun x hx => by
      obtain ⟨ys, h4, rfl⟩ := h2 x hx
      exact hs n ys h4
    exact ⟨l, ⟨by simpa using h1, h3⟩, rfl⟩

theorem struct_of {fs : List (Nat × TypeId)} (e : (τ t).td = .struct fs) (h : TypedC τ n t xs) : ∃ m, xs.length = (τ t).size ∧ ∀ f, f ∈ fs → TypedC τ m f.2 ((xs.drop f.1).take (τ f.2).size) := by
  cases n with
  | zero => exact h.elim
  | succ n => unfold TypedC at h; rw [e] at h; exact ⟨n, h⟩

theorem array_of {k : Nat} {t' : TypeId} (e : (τ t).td = .array k t') (h : TypedC τ n t xs) : ∃ m, xs.length = (τ t).size ∧ ∀ i, i < k → TypedC τ m t' ((xs.drop (i * (τ t').size)).take (τ t').size) := by
  cases n with
  | zero => exact h.elim
  | succ n => unfold TypedC at h; rw [e] at h; exact ⟨n, h⟩

theorem noL {α : Type} (f : α → D) (hf : ∀ x, (f x).noIds = true) (l : List α) : D.noIdsL (l.map f) = true := noIds_of_mem fun d h => by
  obtain ⟨x, _, rfl⟩ := List.mem_map.1 h
  exact hf x
end
end Go.Proofs.Ytbabdalfkmdlhaa
