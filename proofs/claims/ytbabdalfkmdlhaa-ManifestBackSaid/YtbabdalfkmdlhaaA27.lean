/- Cells of mapped lists: what appends and copies ask. Of no program. -/
import Derived.Test.YtbabdalfkmdlhaaA26
namespace Go.Proofs.Ytbabdalfkmdlhaa
set_option linter.all false

theorem le1_refl (a : D) : le1 a a := .inl rfl
theorem le1_nil (sz : Nat) (t : Bool) : le1 .nil (.sl sz [] t) := .inr (.inl ⟨rfl, sz, t, rfl⟩)
theorem le1_loose (sz : Nat) (es : List D) : le1 (.sl sz es true) (.sl sz es false) := .inr (.inr ⟨sz, es, rfl, rfl⟩)
theorem leD_refl (a : D) : leD a a := .inl (.inl rfl)
theorem leC_refl : ∀ l : List D, leC l l
  | [] => trivial
  | x :: l => ⟨le1_refl x, leC_refl l⟩
theorem leB_refl (b : Blk) : leB b b := by cases b <;> first | rfl | exact leC_refl _
theorem leH_refl : ∀ H : AHeap, leH H H
  | [] => trivial
  | b :: H => ⟨leB_refl b, leH_refl H⟩
theorem leEnv_refl (env : Env) (E : Env) (h : weaker env E) : leEnv env E := by
  induction E with
  | nil => trivial
  | cons x r ih => exact ⟨by rw [h.1]; exact leD_refl _, ih h.2⟩

section
variable {α : Type}

theorem flat_one (f : α → D) (h : ∀ x, (f x).cells = [f x]) (l : List α) : (l.map f).flatMap D.cells = l.map f := by
  induction l with
  | nil => rfl
  | cons x l ih => simp [h, ih]

theorem flat_str (l : List (List UInt8)) : (l.map D.str).flatMap D.cells = l.map D.str := flat_one _ (fun _ => rfl) l
theorem flat_int (k : IntKind) (l : List Int) : (l.map (D.int k)).flatMap D.cells = l.map (D.int k) := flat_one _ (fun _ => rfl) l
theorem flat_byte (l : List UInt8) : (l.map byteD).flatMap D.cells = l.map byteD := flat_one _ (fun _ => rfl) l
theorem flat_sl (z : Nat) (f : α → List D) (t : α → Bool) (l : List α) : (l.map fun x => D.sl z (f x) (t x)).flatMap D.cells = l.map fun x => D.sl z (f x) (t x) := flat_one _ (fun _ => rfl) l

theorem all_one (f : α → D) (h : ∀ x, (f x).one = true) (l : List α) : (l.map f).all D.one = true := by
  induction l with
  | nil => rfl
  | cons x l ih => simp [h, ih]
theorem all_one_str (l : List (List UInt8)) : (l.map D.str).all D.one = true := all_one _ (fun _ => rfl) l
theorem all_one_int (k : IntKind) (l : List Int) : (l.map (D.int k)).all D.one = true := all_one _ (fun _ => rfl) l
theorem all_one_byte (l : List UInt8) : (l.map byteD).all D.one = true := all_one _ (fun _ => rfl) l

theorem chunk_one : ∀ (l : List D), chunk false 1 l.length l = l
  | [] => rfl
  | x :: l => by simp only [List.length_cons, chunk, Bool.false_eq_true, if_false, List.getD_cons_zero, List.drop_succ_cons, List.drop_zero, chunk_one l]
theorem chunk_map (f : α → D) (l : List α) : chunk false 1 l.length (l.map f) = l.map f := by
  have := chunk_one (l.map f)
  rwa [List.length_map] at this

theorem chunk_map' (f : α → D) (l : List α) (n : Nat) (h : n = l.length) : chunk false 1 n (l.map f) = l.map f := by
  subst h; exact chunk_map f l

theorem chunk_agg (f : α → D) (sz : Nat) (h1 : ∀ x, f x = .agg (f x).cells) (h2 : ∀ x, (f x).cells.length = sz) : ∀ (l : List α), chunk true sz l.length ((l.map f).flatMap D.cells) = l.map f
  | [] => rfl
  | x :: l => by
    have e : (f x).cells ++ (l.map f).flatMap D.cells = (f x).cells ++ (l.map f).flatMap D.cells := rfl
    simp only [List.length_cons, chunk, if_true, List.map_cons, List.flatMap_cons]
    rw [List.take_append_of_le_length (by rw [h2]; exact Nat.le_refl _), List.take_of_length_le (by rw [h2]; exact Nat.le_refl _), ← h1, List.drop_append, List.drop_of_length_le (by rw [h2]; exact Nat.le_refl _), h2, Nat.sub_self, List.drop_zero, List.nil_append, chunk_agg f sz h1 h2 l]

theorem byte_all (l : List UInt8) : (l.map byteD).all isByte = true := by
  induction l with
  | nil => rfl
  | cons x l ih => simp [ih, byteD, isByte]

theorem empty_list : ByteArray.empty.data.toList = [] := rfl
theorem empty_size : ByteArray.empty.size = 0 := rfl

theorem unbyte_byte (b : UInt8) : unbyte (byteD b) = b := by
  simp [unbyte, byteD]
theorem unbyte_map (l : List UInt8) : (l.map byteD).map unbyte = l := by
  induction l with
  | nil => rfl
  | cons x l ih => simp only [List.map_cons, unbyte_byte, ih]

/-- A block of one's own, one cell an element, is a slice of data. -/
theorem Sub.own {H : AHeap} {b len : Nat} {cs : List D} (l : List α) (f : α → D) (h1 : ∀ x, (f x).cells = [f x]) (h2 : ∀ x, (f x).noIds = true) (hb : H[b]? = some (.froz cs)) (hl : l.length = len) (hc : cs = l.map f) : Sub H (.ref b 0 len 1) (.sl 1 (l.map f) false) := by
  subst hc; subst hl
  refine Sub.sl1 hb (by simp) (fun e he => ?_) (by simp) (by rw [List.drop_zero]; exact List.take_of_length_le (by simp)) (noL f h2 l)
  obtain ⟨x, _, rfl⟩ := List.mem_map.1 he
  exact h1 x

end
end Go.Proofs.Ytbabdalfkmdlhaa
