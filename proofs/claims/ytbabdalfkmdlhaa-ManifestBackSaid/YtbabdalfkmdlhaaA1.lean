/- The abstract values, the relation between them and the model's values in a world, the abstract heap, and how worlds evolve. Of no program. -/
import Derived.Calls
import Derived.Orders
import Derived.Laws.Cells
import Derived.Laws.World
import GoSem.ClaimData
namespace Go.Proofs.Ytbabdalfkmdlhaa
set_option linter.all false

/-- Data, told without memory: a slice is its elements ('sl'), or a place in an abstract block ('ref'); a pointer to what never changes ('cp'), or into an abstract block ('ptr'). -/
inductive D where
  | any
  | int (k : IntKind) (n : Int)
  | bool (b : Bool)
  | str (s : List UInt8)
  | agg (cs : List D)
  | nil
  | sl (sz : Nat) (es : List D) (tight : Bool)
  | ref (b o len sz : Nat)
  | cp (cs : List D)
  | ptr (b o : Nat)
  | nilp
  | fn (f : Fn) (cap : List D)
  | nilf
  | tup (vs : List D)
  | niface
  | iface (t : TypeId) (d : D)
  deriving Inhabited

def D.cells : D → List D
  | .agg cs => cs
  | d => [d]

/-- May it stand in one cell? -/
def D.one : D → Bool
  | .agg _ | .tup _ | .any => false
  | _ => true

/-- Where the abstract blocks lie: not made yet; nowhere (empty); from an offset of a block on. -/
abbrev Bmap := List (Option (Option (Nat × Nat)))

def Bk (β : Bmap) (b : Nat) (x : Option (Nat × Nat)) : Prop := β[b]? = some (some x)

inductive Rel (w : World) (S : Nat → Prop) (β : Bmap) : D → Value → Prop
  | any (v : Value) : Rel w S β .any v
  | int (k : IntKind) (n : Int) (h1 : k.min ≤ n) (h2 : n ≤ k.max) : Rel w S β (.int k n) (.int k n)
  | bool (b : Bool) : Rel w S β (.bool b) (.bool b)
  | str (s : List UInt8) (h : s.length ≤ maxLen) : Rel w S β (.str s) (.string ⟨⟨s⟩⟩)
  | agg (ds : List D) (vs : Array Value) (h1 : vs.size = ds.length) (h0 : ∀ (i : Nat) (v : Value), vs[i]? = some v → v.oneCell' = true) (h2 : ∀ (i : Nat) (d : D) (v : Value), ds[i]? = some d → vs[i]? = some v → Rel w S β d v) : Rel w S β (.agg ds) (.agg vs)
  | nil : Rel w S β .nil (.slice none 0 0)
  | slNone (sz : Nat) (tight : Bool) : Rel w S β (.sl sz [] tight) (.slice none 0 0)
  | sl (sz : Nat) (es : List D) (tight : Bool) (ad : Addr) (cap : Nat) (vf : Nat → Value) (h1 : es.length ≤ cap) (h2 : cap ≤ maxLen) (h3 : tight = true → cap = es.length)
      (h4 : ∀ e, e ∈ es → e.cells.length = sz) (h5 : ∀ (i : Nat), i < es.length * sz → S ad.block ∧ w.cell? (ad.add i) = some (vf i) ∧ (vf i).oneCell' = true)
      (h6 : ∀ (i : Nat) (e : D) (j : Nat) (d : D), es[i]? = some e → e.cells[j]? = some d → Rel w S β d (vf (i * sz + j))) : Rel w S β (.sl sz es tight) (.slice (some ad) es.length cap)
  | ref (b o len sz blk off cap : Nat) (h1 : Bk β b (some (blk, off))) (h2 : len ≤ cap) (h3 : cap ≤ maxLen) (T : TypeId) (n : Nat) (h4 : w.shape? blk = some (T, n)) (h5 : off + o + cap * sz ≤ n) :
      Rel w S β (.ref b o len sz) (.slice (some ⟨blk, off + o, none⟩) len cap)
  | refEmpty (b o sz : Nat) (a : Option Addr) : Rel w S β (.ref b o 0 sz) (.slice a 0 0)
  | cp (cs : List D) (ad : Addr) (vf : Nat → Value) (h1 : ∀ (j : Nat), j < cs.length → S ad.block ∧ w.cell? (ad.add j) = some (vf j) ∧ (vf j).oneCell' = true) (h2 : ∀ (j : Nat) (d : D), cs[j]? = some d → Rel w S β d (vf j)) :
      Rel w S β (.cp cs) (.pointer (some ad))
  | ptr (b o blk off : Nat) (h1 : Bk β b (some (blk, off))) : Rel w S β (.ptr b o) (.pointer (some ⟨blk, off + o, none⟩))
  | nilp : Rel w S β .nilp (.pointer none)
  | fn (f : Fn) (ds : List D) (vs : Array Value) (h1 : vs.size = ds.length) (h2 : ∀ (i : Nat) (d : D) (v : Value), ds[i]? = some d → vs[i]? = some v → Rel w S β d v) : Rel w S β (.fn f ds) (.func f #[] vs)
  | nilf : Rel w S β .nilf .nilFunc
  | tup (ds : List D) (vs : Array Value) (h1 : vs.size = ds.length) (h2 : ∀ (i : Nat) (d : D) (v : Value), ds[i]? = some d → vs[i]? = some v → Rel w S β d v) : Rel w S β (.tup ds) (.tuple vs)
  | niface : Rel w S β .niface .nilIface
  | iface (t : TypeId) (d : D) (v : Value) (h : Rel w S β d v) : Rel w S β (.iface t d) (.iface t v)

/-- What is told of a block: not made yet; no longer known; these cells, of its own, to be written; these cells, for good. -/
inductive Blk where
  | void
  | dead
  | live (cs : List D)
  | froz (cs : List D)
  deriving Inhabited

abbrev AHeap := List Blk

def Mut (β : Bmap) (H : AHeap) (blk : Nat) : Prop := ∃ b cs off, H[b]? = some (.live cs) ∧ Bk β b (some (blk, off))

/-- The cells 'cs' lie in block 'blk' from 'off' on. -/
structure Lies (w : World) (S : Nat → Prop) (β : Bmap) (cs : List D) (blk off : Nat) (vs : Array Value) (T : TypeId) (fr : Nat × Nat) : Prop where
  heap : w.heap[blk]? = some (.cells vs T fr)
  one : ∀ (i : Nat) (v : Value), i < cs.length → vs[off + i]? = some v → v.oneCell' = true
  cell : ∀ (i : Nat) (d : D), cs[i]? = some d → ∃ v, vs[off + i]? = some v ∧ Rel w S β d v

structure AInv (w : World) (S : Nat → Prop) (β : Bmap) (H : AHeap) : Prop where
  len : β.length = H.length
  live : ∀ (b : Nat) cs, H[b]? = some (.live cs) → (cs = [] ∧ Bk β b none) ∨ ∃ blk off vs T fr, Bk β b (some (blk, off)) ∧ ¬ S blk ∧ (fr.2 ≤ fr.1 ∨ vs.size ≤ fr.1) ∧ Lies w S β cs blk off vs T fr
  froz : ∀ (b : Nat) cs, H[b]? = some (.froz cs) → (cs = [] ∧ Bk β b none) ∨ ∃ blk off vs T fr, Bk β b (some (blk, off)) ∧ S blk ∧ Lies w S β cs blk off vs T fr
  apart : ∀ (b b' : Nat) cs cs' blk off off', H[b]? = some (.live cs) → H[b']? = some (.live cs') → Bk β b (some (blk, off)) → Bk β b' (some (blk, off')) → b = b'
  old : ∀ b, S b → b < w.heap.size
  void : ∀ (b : Nat), H[b]? = some Blk.void → β[b]? = some none

structure Evo (w : World) (S : Nat → Prop) (β : Bmap) (H : AHeap) (w' : World) (S' : Nat → Prop) (β' : Bmap) (H' : AHeap) : Prop where
  os : w'.os = w.os
  output : w'.output = w.output
  size : w.heap.size ≤ w'.heap.size
  frame : ∀ b, b < w.heap.size → ¬ Mut β H b → w'.heap[b]? = w.heap[b]?
  shape : ∀ b x, w.shape? b = some x → w'.shape? b = some x
  sub : ∀ b, S b → S' b
  bk : ∀ b x, Bk β b x → Bk β' b x
  newS : ∀ b, S' b → S b ∨ Mut β H b ∨ w.heap.size ≤ b
  newM : ∀ b, Mut β' H' b → Mut β H b ∨ w.heap.size ≤ b

theorem Evo.refl (w : World) (S : Nat → Prop) (β : Bmap) (H : AHeap) : Evo w S β H w S β H :=
  ⟨rfl, rfl, Nat.le_refl _, fun _ _ _ => rfl, fun _ _ h => h, fun _ h => h, fun _ _ h => h, fun _ h => .inl h, fun _ h => .inl h⟩

theorem Evo.trans {w1 w2 w3 : World} {S1 S2 S3 : Nat → Prop} {β1 β2 β3 : Bmap} {H1 H2 H3 : AHeap} (a : Evo w1 S1 β1 H1 w2 S2 β2 H2) (b : Evo w2 S2 β2 H2 w3 S3 β3 H3) : Evo w1 S1 β1 H1 w3 S3 β3 H3 where
  os := b.os.trans a.os
  output := b.output.trans a.output
  size := Nat.le_trans a.size b.size
  frame := fun i hi hm => by
    have hm2 : ¬ Mut β2 H2 i := fun h => by
      rcases a.newM i h with h | h
      · exact hm h
      · omega
    exact (b.frame i (Nat.lt_of_lt_of_le hi a.size) hm2).trans (a.frame i hi hm)
  shape := fun i x h => b.shape i x (a.shape i x h)
  sub := fun i h => b.sub i (a.sub i h)
  bk := fun i x h => b.bk i x (a.bk i x h)
  newS := fun i h => by
    rcases b.newS i h with h | h | h
    · exact a.newS i h
    · exact .inr (a.newM i h)
    · exact .inr (.inr (Nat.le_trans a.size h))
  newM := fun i h => by
    rcases b.newM i h with h | h
    · exact a.newM i h
    · exact .inr (Nat.le_trans a.size h)

/-- What is told stays told: where the blocks for good stay, the shapes stay, and the abstract blocks stay where they were. -/
theorem Rel.keep {w w' : World} {S S' : Nat → Prop} {β β' : Bmap} (hcell : ∀ b, S b → w'.heap[b]? = w.heap[b]?) (hS : ∀ b, S b → S' b) (hβ : ∀ b x, Bk β b x → Bk β' b x)
    (hshape : ∀ b x, w.shape? b = some x → w'.shape? b = some x) {d : D} {v : Value} (h : Rel w S β d v) : Rel w' S' β' d v := by
  have cellEq : ∀ (a : Addr), S a.block → w'.cell? a = w.cell? a := fun a ha => by simp [World.cell?, hcell _ ha]
  have blockAdd : ∀ (a : Addr) (i : Nat), (a.add i).block = a.block := fun a i => by unfold Addr.add; split <;> rfl
  induction h with
  | any v => exact .any v
  | int k n h1 h2 => exact .int k n h1 h2
  | bool b => exact .bool b
  | str s h => exact .str s h
  | agg ds vs h1 h0 h2 ih => exact .agg ds vs h1 h0 ih
  | nil => exact .nil
  | slNone sz t => exact .slNone sz t
  | sl sz es t ad cap vf h1 h2 h3 h4 h5 h6 ih =>
    exact .sl sz es t ad cap vf h1 h2 h3 h4 (fun i hi => ⟨hS _ (h5 i hi).1, by rw [cellEq _ (by rw [blockAdd]; exact (h5 i hi).1)]; exact (h5 i hi).2.1, (h5 i hi).2.2⟩) ih
  | ref b o len sz blk off cap h1 h2 h3 T n h4 h5 => exact .ref b o len sz blk off cap (hβ _ _ h1) h2 h3 T n (hshape _ _ h4) h5
  | refEmpty b o sz a => exact .refEmpty b o sz a
  | cp cs ad vf h1 h2 ih =>
    exact .cp cs ad vf (fun i hi => ⟨hS _ (h1 i hi).1, by rw [cellEq _ (by rw [blockAdd]; exact (h1 i hi).1)]; exact (h1 i hi).2.1, (h1 i hi).2.2⟩) ih
  | ptr b o blk off h1 => exact .ptr b o blk off (hβ _ _ h1)
  | nilp => exact .nilp
  | fn f ds vs h1 h2 ih => exact .fn f ds vs h1 ih
  | nilf => exact .nilf
  | tup ds vs h1 h2 ih => exact .tup ds vs h1 ih
  | niface => exact .niface
  | iface t d v _ ih => exact .iface t d v ih

theorem AInv.notMut {w : World} {S : Nat → Prop} {β : Bmap} {H : AHeap} (hI : AInv w S β H) {b : Nat} (hb : S b) : ¬ Mut β H b := by
  rintro ⟨i, cs, off, hl, hk⟩
  rcases hI.live i cs hl with ⟨_, h⟩ | ⟨blk, off', vs, T, fr, h1, h2, _⟩
  · unfold Bk at *; rw [hk] at h; cases h
  · unfold Bk at *; rw [hk] at h1; cases h1; exact h2 hb

theorem Rel.evo {w w' : World} {S S' : Nat → Prop} {β β' : Bmap} {H H' : AHeap} (hI : AInv w S β H) (e : Evo w S β H w' S' β' H') {d : D} {v : Value} (h : Rel w S β d v) : Rel w' S' β' d v :=
  h.keep (fun b hb => e.frame b (hI.old b hb) (hI.notMut hb)) e.sub e.bk e.shape

end Go.Proofs.Ytbabdalfkmdlhaa
