/- What is done with a disk, in plain Lean. -/
import Derived.Test.YtlkffgmejcgdbaaDiskM
import Derived.Test.YtlkffgmejcgdbaaSlF
namespace Go.Proofs.Ytlkffgmejcgdbaa
set_option linter.all false
-- bundled

def namedB (s : List UInt8) : Bool := !(s == []) && decide (s.length ≤ 32)
def withoutF (l : List GFile) (s : List UInt8) : List GFile := l.filter fun f => !(f.name == s)
def withF (l : List GFile) (f : GFile) : List GFile := (withoutF l f.name).takeWhile (fun g => lt g.name f.name) ++ [f] ++ (withoutF l f.name).dropWhile (fun g => lt g.name f.name)
def getF (l : List GFile) (s : List UInt8) : Option GFile := l.find? fun f => f.name == s
def usedF (l : List GFile) : Nat := (l.map fun f => f.data.length).sum

theorem tw_parts {A B : List GFile} {s : List UInt8} (hA : ∀ f, f ∈ A → lt f.name s = true) (hB : ∀ f, f ∈ B → lt s f.name = true) :
    (A ++ B).takeWhile (fun g => lt g.name s) = A ∧ (A ++ B).dropWhile (fun g => lt g.name s) = B := by
  induction A with
  | nil =>
    cases B with
    | nil => exact ⟨rfl, rfl⟩
    | cons b B =>
      have := lt_asym (hB b (by simp))
      simp [List.takeWhile_cons, List.dropWhile_cons, this]
  | cons a A ih =>
    have h1 := hA a (by simp)
    obtain ⟨h2, h3⟩ := ih fun f hf => hA f (by simp [hf])
    simp only [List.cons_append, List.takeWhile_cons, List.dropWhile_cons, h1, if_true, h2, h3, and_self]
theorem without_none {A : List GFile} {s : List UInt8} (h : ∀ f, f ∈ A → f.name ≠ s) : withoutF A s = A := by
  unfold withoutF
  rw [List.filter_eq_self]
  intro f hf
  simp [h f hf]
theorem without_app (A B : List GFile) (s : List UInt8) : withoutF (A ++ B) s = withoutF A s ++ withoutF B s := by simp [withoutF]

/-- A rising list, parted at a name. -/
inductive Part (l : List GFile) (s : List UInt8) : Prop
  | there (A B : List GFile) (x : GFile) (hl : l = A ++ x :: B) (hi : idxT l (cF s) = A.length) (ht : thereT l (cF s) = true) (hx : x.name = s) (hA : ∀ f, f ∈ A → lt f.name s = true) (hB : ∀ f, f ∈ B → lt s f.name = true)
  | none (A B : List GFile) (hl : l = A ++ B) (hi : idxT l (cF s) = A.length) (ht : thereT l (cF s) = false) (hA : ∀ f, f ∈ A → lt f.name s = true) (hB : ∀ f, f ∈ B → lt s f.name = true)
theorem part_of {l : List GFile} (h : upF l) (s : List UInt8) : Part l s := by
  have hle := idxT_le l (cF s)
  obtain ⟨h1, ⟨h2, hi, h3, h4⟩ | ⟨h2, h3⟩⟩ := upF_part h s
  · refine .there (l.take (idxT l (cF s))) (l.drop (idxT l (cF s) + 1)) l[idxT l (cF s)] ?_ (by rw [List.length_take, Nat.min_eq_left hle]) h2 h3 h1 h4
    rw [← List.drop_eq_getElem_cons hi, List.take_append_drop]
  · exact .none (l.take (idxT l (cF s))) (l.drop (idxT l (cF s))) (List.take_append_drop _ _).symm (by rw [List.length_take, Nat.min_eq_left hle]) h2 h1 h3
theorem getF_there {A B : List GFile} {x : GFile} {s : List UInt8} (hx : x.name = s) (hA : ∀ f, f ∈ A → lt f.name s = true) : getF (A ++ x :: B) s = some x := by
  unfold getF
  rw [List.find?_append, List.find?_eq_none.2 (fun f hf => by simp [lt_ne (hA f hf)])]
  simp [hx]
theorem getF_none {A B : List GFile} {s : List UInt8} (hA : ∀ f, f ∈ A → lt f.name s = true) (hB : ∀ f, f ∈ B → lt s f.name = true) : getF (A ++ B) s = none := by
  unfold getF
  rw [List.find?_eq_none]
  intro f hf
  rcases List.mem_append.1 hf with hf | hf
  · simp [lt_ne (hA f hf)]
  · simp [(lt_ne (hB f hf)).symm]
theorem without_there {A B : List GFile} {x : GFile} {s : List UInt8} (hx : x.name = s) (hA : ∀ f, f ∈ A → lt f.name s = true) (hB : ∀ f, f ∈ B → lt s f.name = true) : withoutF (A ++ x :: B) s = A ++ B := by
  have e : withoutF (x :: B) s = B := by
    have h1 := without_none (A := B) (s := s) fun f hf => (lt_ne (hB f hf)).symm
    unfold withoutF at h1 ⊢
    rw [List.filter_cons, if_neg (by simp [hx]), h1]
  rw [without_app, without_none (fun f hf => lt_ne (hA f hf)), e]
theorem with_there {A B : List GFile} {x f : GFile} (hx : x.name = f.name) (hA : ∀ g, g ∈ A → lt g.name f.name = true) (hB : ∀ g, g ∈ B → lt f.name g.name = true) : withF (A ++ x :: B) f = A ++ f :: B := by
  obtain ⟨h1, h2⟩ := tw_parts hA hB
  unfold withF
  rw [without_there hx hA hB, h1, h2]
  simp
theorem with_none {A B : List GFile} {f : GFile} (hA : ∀ g, g ∈ A → lt g.name f.name = true) (hB : ∀ g, g ∈ B → lt f.name g.name = true) : withF (A ++ B) f = A ++ f :: B := by
  obtain ⟨h1, h2⟩ := tw_parts hA hB
  have e : withoutF (A ++ B) f.name = A ++ B := without_none fun g hg => by
    rcases List.mem_append.1 hg with hg | hg
    · exact lt_ne (hA g hg)
    · exact (lt_ne (hB g hg)).symm
  unfold withF
  rw [e, h1, h2]
  simp
theorem upF_app {A B : List GFile} (h : upF (A ++ B)) : upF A ∧ upF B := ⟨(List.pairwise_append.1 h).1, (List.pairwise_append.1 h).2.1⟩
theorem upF_with {l : List GFile} (h : upF l) (f : GFile) : upF (withF l f) := by
  have key : ∀ (A B : List GFile), upF A → upF B → (∀ g, g ∈ A → lt g.name f.name = true) → (∀ g, g ∈ B → lt f.name g.name = true) → upF (A ++ f :: B) := fun A B hA hB h1 h2 =>
    List.pairwise_append.2 ⟨hA, List.pairwise_cons.2 ⟨h2, hB⟩, fun a ha b hb => by
      rcases List.mem_cons.1 hb with rfl | hb
      · exact h1 a ha
      · exact lt_trans (h1 a ha) (h2 b hb)⟩
  rcases part_of h f.name with ⟨A, B, x, rfl, _, _, hx, hA, hB⟩ | ⟨A, B, rfl, _, _, hA, hB⟩
  · rw [with_there hx hA hB]
    obtain ⟨u1, u2⟩ := upF_app h
    exact key A B u1 (List.pairwise_cons.1 u2).2 hA hB
  · rw [with_none hA hB]
    obtain ⟨u1, u2⟩ := upF_app h
    exact key A B u1 u2 hA hB
theorem upF_without {l : List GFile} (h : upF l) (s : List UInt8) : upF (withoutF l s) := h.sublist List.filter_sublist

/-- The program's steps are the document's. -/
theorem ins_with {l : List GFile} (h : upF l) (f : GFile) (ht : thereT l (cF f.name) = false) : insT l (idxT l (cF f.name)) f = withF l f := by
  rcases part_of h f.name with ⟨A, B, x, rfl, hi, ht', hx, hA, hB⟩ | ⟨A, B, rfl, hi, _, hA, hB⟩
  · rw [ht] at ht'; cases ht'
  · rw [with_none hA hB, insT, hi]
    simp
theorem set_with {l : List GFile} (h : upF l) (f : GFile) (ht : thereT l (cF f.name) = true) : l.set (idxT l (cF f.name)) f = withF l f := by
  rcases part_of h f.name with ⟨A, B, x, rfl, hi, _, hx, hA, hB⟩ | ⟨A, B, rfl, hi, ht', hA, hB⟩
  · rw [with_there hx hA hB, hi]
    simp
  · rw [ht] at ht'; cases ht'
theorem del_without {l : List GFile} (h : upF l) (s : List UInt8) (ht : thereT l (cF s) = true) : delT l (idxT l (cF s)) = withoutF l s := by
  rcases part_of h s with ⟨A, B, x, rfl, hi, _, hx, hA, hB⟩ | ⟨A, B, rfl, hi, ht', hA, hB⟩
  · rw [without_there hx hA hB, delT, hi]
    simp
  · rw [ht] at ht'; cases ht'
theorem get_there {l : List GFile} (h : upF l) (s : List UInt8) : (thereT l (cF s) = true ∧ ∃ (hi : idxT l (cF s) < l.length), getF l s = some l[idxT l (cF s)] ∧ l[idxT l (cF s)].name = s) ∨ (thereT l (cF s) = false ∧ getF l s = none) := by
  have hle := idxT_le l (cF s)
  obtain ⟨h1, ⟨h2, hi, h3, h4⟩ | ⟨h2, h3⟩⟩ := upF_part h s
  · refine .inl ⟨h2, hi, ?_, h3⟩
    have e : l = l.take (idxT l (cF s)) ++ l[idxT l (cF s)] :: l.drop (idxT l (cF s) + 1) := by rw [← List.drop_eq_getElem_cons hi, List.take_append_drop]
    have := getF_there (B := l.drop (idxT l (cF s) + 1)) h3 h1
    rwa [← e] at this
  · refine .inr ⟨h2, ?_⟩
    have := getF_none h1 h3
    rwa [List.take_append_drop] at this

/-- Acts. -/
def createA (l : List GFile) (name : List UInt8) : List GFile × Int := bif namedB name then (match getF l name with | some _ => ([], 8) | none => (withF l ⟨name, [], 0⟩, 0)) else ([], 1)
def appendA (l : List GFile) (cap : Int) (name data : List UInt8) : List GFile × Int := match getF l name with
  | none => ([], 7)
  | some f => if cap > 0 ∧ (data.length : Int) > cap - usedF l then ([], 9) else (withF l ⟨f.name, f.data ++ data, f.sure⟩, 0)
def syncA (l : List GFile) (name : List UInt8) : List GFile × Int := match getF l name with
  | none => ([], 7)
  | some f => (withF l ⟨f.name, f.data, f.data.length⟩, 0)
def cutA (l : List GFile) (name : List UInt8) (n : Int) : List GFile × Int := match getF l name with
  | none => ([], 7)
  | some f => if n < 0 ∨ n > f.data.length then ([], 6) else (withF l ⟨f.name, f.data.take n.toNat, min f.sure n⟩, 0)
def renameA (l : List GFile) (name to : List UInt8) : List GFile × Int := match getF l name with
  | none => ([], 7)
  | some f => bif namedB to then (withF (withoutF l name) ⟨to, f.data, f.sure⟩, 0) else ([], 1)
def deleteA (l : List GFile) (name : List UInt8) : List GFile × Int := match getF l name with
  | none => ([], 7)
  | some _ => (withoutF l name, 0)
def changeM (d : GDisk) (r : List GFile × Int) : GDisk × Int :=
  bif d.down then (d, 10) else bif !(r.2 == 0) then (d, r.2) else bif d.armed then (bif d.left == 0 then (⟨d.files, d.cap, d.armed, d.left, true⟩, 10) else (⟨r.1, d.cap, d.armed, d.left - 1, d.down⟩, 0)) else (⟨r.1, d.cap, d.armed, d.left, d.down⟩, 0)
def armM (d : GDisk) (n : Int) : GDisk := ⟨d.files, d.cap, decide (n ≥ 0), max n 0, d.down⟩
def limitM (d : GDisk) (n : Int) : GDisk := ⟨d.files, max n 0, d.armed, d.left, d.down⟩
def crashF : List GFile → List Int → List GFile
  | [], _ => []
  | f :: l, k => ⟨f.name, f.data.take (f.sure + max 0 (min (k.headD 0) (f.data.length - f.sure))).toNat, f.sure + max 0 (min (k.headD 0) (f.data.length - f.sure))⟩ :: crashF l k.tail
def crashM (d : GDisk) (keep : List Int) : GDisk := ⟨crashF d.files keep, d.cap, false, 0, false⟩
def doM (d : GDisk) (a : GAct) : GDisk × Int :=
  if a.kind = 0 then changeM d (createA d.files a.name) else
  if a.kind = 1 then changeM d (appendA d.files d.cap a.name a.to') else
  if a.kind = 2 then changeM d (syncA d.files a.name) else
  if a.kind = 3 then changeM d (cutA d.files a.name a.n) else
  if a.kind = 4 then changeM d (renameA d.files a.name a.to') else
  if a.kind = 5 then changeM d (deleteA d.files a.name) else
  if a.kind = 6 then (armM d a.n, 0) else
  if a.kind = 7 then (limitM d a.n, 0) else (crashM d a.keep, 0)

end Go.Proofs.Ytlkffgmejcgdbaa
