/- The abstract values, the relation between them and the model's values in a world, the abstract heap, and how worlds evolve. Of no program. -/
import Derived.Calls
import Derived.Orders
import Derived.Laws.Cells
import Derived.Laws.World
import GoSem.ClaimData
import Derived.Lib.FrozenHead
import Derived.WalkKit
import Derived.Laws.Closers25b
import Derived.ChangeKeysEq
import Derived.Laws.StructEq
import Derived.Lib.IfaceEq
import Derived.Lib.ConvBytes
import Derived.Lib.Strings
namespace Go.Proofs.YtlkffgmejcgdbaaDoor
set_option linter.all false

/-- Data, told without memory: a slice is its elements ('sl'), or a place in an abstract block ('ref'; 'refc': its capacity told too); a pointer to what never changes ('cp'), or into an abstract block ('ptr'). -/
inductive D where
  | any
  | int (k : IntKind) (n : Int)
  | bool (b : Bool)
  | str (s : List UInt8)
  | agg (cs : List D)
  | nil
  | sl (sz : Nat) (es : List D) (tight : Bool)
  | ref (b o len sz : Nat)
  | refc (b o len sz cap : Nat)
  | cp (cs : List D)
  | ptr (b o : Nat)
  | nilp
  | fn (f : Fn) (cap : List D)
  | nilf
  | tup (vs : List D)
  | niface
  | iface (t : TypeId) (d : D)
  | bit
  deriving Inhabited

def D.cells : D → List D
  | .agg cs => cs
  | d => [d]

/-- May it stand in one cell? -/
def D.one : D → Bool
  | .agg _ | .tup _ | .any => false
  | _ => true

/-- Where the abstract blocks lie: not made yet; nowhere (empty); from an offset of a block on. -/
abbrev Bmap := List (Option (Option (Nat × Nat)))

def Bk (β : Bmap) (b : Nat) (x : Option (Nat × Nat)) : Prop := β[b]? = some (some x)

inductive Rel (w : World) (S : Nat → Prop) (β : Bmap) : D → Value → Prop
  | any (v : Value) : Rel w S β .any v
  | int (k : IntKind) (n : Int) (h1 : k.min ≤ n) (h2 : n ≤ k.max) : Rel w S β (.int k n) (.int k n)
  | bool (b : Bool) : Rel w S β (.bool b) (.bool b)
  | str (s : List UInt8) (h : s.length ≤ maxLen) : Rel w S β (.str s) (.string ⟨⟨s⟩⟩)
  | agg (ds : List D) (vs : Array Value) (h1 : vs.size = ds.length) (h0 : ∀ (i : Nat) (v : Value), vs[i]? = some v → v.oneCell' = true) (h2 : ∀ (i : Nat) (d : D) (v : Value), ds[i]? = some d → vs[i]? = some v → Rel w S β d v) : Rel w S β (.agg ds) (.agg vs)
  | nil : Rel w S β .nil (.slice none 0 0)
  | slNone (sz : Nat) (tight : Bool) : Rel w S β (.sl sz [] tight) (.slice none 0 0)
  | sl (sz : Nat) (es : List D) (tight : Bool) (ad : Addr) (cap : Nat) (vf : Nat → Value) (h1 : es.length ≤ cap) (h2 : cap ≤ maxLen) (h3 : tight = true → cap = es.length)
      (h4 : ∀ e, e ∈ es → e.cells.length = sz) (h5 : ∀ (i : Nat), i < es.length * sz → S ad.block ∧ w.cell? (ad.add i) = some (vf i) ∧ (vf i).oneCell' = true)
      (h6 : ∀ (i : Nat) (e : D) (j : Nat) (d : D), es[i]? = some e → e.cells[j]? = some d → Rel w S β d (vf (i * sz + j))) : Rel w S β (.sl sz es tight) (.slice (some ad) es.length cap)
  | ref (b o len sz blk off cap : Nat) (h1 : Bk β b (some (blk, off))) (h2 : len ≤ cap) (h3 : cap ≤ maxLen) (T : TypeId) (n : Nat) (h4 : w.shape? blk = some (T, n)) (h5 : off + o + cap * sz ≤ n) :
      Rel w S β (.ref b o len sz) (.slice (some ⟨blk, off + o, none⟩) len cap)
  | refEmpty (b o sz : Nat) (a : Option Addr) : Rel w S β (.ref b o 0 sz) (.slice a 0 0)
  | refc (b o len sz cap blk off : Nat) (h1 : Bk β b (some (blk, off))) (h2 : len ≤ cap) (h3 : cap ≤ maxLen) (T : TypeId) (n : Nat) (h4 : w.shape? blk = some (T, n)) (h5 : off + o + cap * sz ≤ n) :
      Rel w S β (.refc b o len sz cap) (.slice (some ⟨blk, off + o, none⟩) len cap)
  | refcEmpty (b o sz : Nat) (a : Option Addr) : Rel w S β (.refc b o 0 sz 0) (.slice a 0 0)
  | cp (cs : List D) (ad : Addr) (vf : Nat → Value) (h1 : ∀ (j : Nat), j < cs.length → S ad.block ∧ w.cell? (ad.add j) = some (vf j) ∧ (vf j).oneCell' = true) (h2 : ∀ (j : Nat) (d : D), cs[j]? = some d → Rel w S β d (vf j)) :
      Rel w S β (.cp cs) (.pointer (some ad))
  | ptr (b o blk off : Nat) (h1 : Bk β b (some (blk, off))) : Rel w S β (.ptr b o) (.pointer (some ⟨blk, off + o, none⟩))
  | nilp : Rel w S β .nilp (.pointer none)
  | fn (f : Fn) (ds : List D) (vs : Array Value) (h1 : vs.size = ds.length) (h2 : ∀ (i : Nat) (d : D) (v : Value), ds[i]? = some d → vs[i]? = some v → Rel w S β d v) : Rel w S β (.fn f ds) (.func f #[] vs)
  | nilf : Rel w S β .nilf .nilFunc
  | tup (ds : List D) (vs : Array Value) (h1 : vs.size = ds.length) (h2 : ∀ (i : Nat) (d : D) (v : Value), ds[i]? = some d → vs[i]? = some v → Rel w S β d v) : Rel w S β (.tup ds) (.tuple vs)
  | niface : Rel w S β .niface .nilIface
  | iface (t : TypeId) (d : D) (v : Value) (h : Rel w S β d v) : Rel w S β (.iface t d) (.iface t v)
  | bit (x : Bool) : Rel w S β .bit (.bool x)

/-- What is told of a block: not made yet; no longer known; these cells, of its own, to be written; these cells, for good. -/
inductive Blk where
  | void
  | dead
  | live (cs : List D)
  | froz (cs : List D)
  deriving Inhabited

abbrev AHeap := List Blk

def Mut (β : Bmap) (H : AHeap) (blk : Nat) : Prop := ∃ b cs off, H[b]? = some (.live cs) ∧ Bk β b (some (blk, off))

/-- The cells 'cs' lie in block 'blk' from 'off' on. -/
structure Lies (w : World) (S : Nat → Prop) (β : Bmap) (cs : List D) (blk off : Nat) (vs : Array Value) (T : TypeId) (fr : Nat × Nat) : Prop where
  heap : w.heap[blk]? = some (.cells vs T fr)
  one : ∀ (i : Nat) (v : Value), i < cs.length → vs[off + i]? = some v → v.oneCell' = true
  cell : ∀ (i : Nat) (d : D), cs[i]? = some d → ∃ v, vs[off + i]? = some v ∧ Rel w S β d v

/-- Package-level variables of which it is known what they hold: a value of an interface, of a type. -/
def glIds : List (Nat × TypeId) := [(0, 53)]
def glTy (g : Nat) : Option TypeId := (glIds.find? fun p => p.1 == g).map (·.2)

/-- Blocks for good are there; what is known of package-level variables holds. -/
structure Old (w : World) (S : Nat → Prop) : Prop where
  lt : ∀ b, S b → b < w.heap.size
  gl : ∀ g t, glTy g = some t → S g ∧ ∃ a, w.cell? ⟨g, 0, none⟩ = some (.iface t (.pointer (some a)))
instance {w : World} {S : Nat → Prop} : CoeFun (Old w S) (fun _ => ∀ b, S b → b < w.heap.size) := ⟨Old.lt⟩
theorem Old.evo {w w' : World} {S S' : Nat → Prop} (h : Old w S) (hc : ∀ b, S b → w'.heap[b]? = w.heap[b]?) (hS : ∀ b, S b → S' b) (hlt : ∀ b, S' b → b < w'.heap.size) : Old w' S' :=
  ⟨hlt, fun g t hg => let ⟨h1, v, h2⟩ := h.gl g t hg; ⟨hS g h1, v, by simp only [World.cell?, hc g h1] at h2 ⊢; exact h2⟩⟩

structure AInv (w : World) (S : Nat → Prop) (β : Bmap) (H : AHeap) : Prop where
  len : β.length = H.length
  live : ∀ (b : Nat) cs, H[b]? = some (.live cs) → (cs = [] ∧ Bk β b none) ∨ ∃ blk off vs T fr, Bk β b (some (blk, off)) ∧ ¬ S blk ∧ (fr.2 ≤ fr.1 ∨ vs.size ≤ fr.1) ∧ Lies w S β cs blk off vs T fr
  froz : ∀ (b : Nat) cs, H[b]? = some (.froz cs) → (cs = [] ∧ Bk β b none) ∨ ∃ blk off vs T fr, Bk β b (some (blk, off)) ∧ S blk ∧ Lies w S β cs blk off vs T fr
  apart : ∀ (b b' : Nat) cs cs' blk off off', H[b]? = some (.live cs) → H[b']? = some (.live cs') → Bk β b (some (blk, off)) → Bk β b' (some (blk, off')) → b = b'
  old : Old w S
  void : ∀ (b : Nat), H[b]? = some Blk.void → β[b]? = some none

structure Evo (w : World) (S : Nat → Prop) (β : Bmap) (H : AHeap) (w' : World) (S' : Nat → Prop) (β' : Bmap) (H' : AHeap) : Prop where
  os : w'.os = w.os
  output : w'.output = w.output
  size : w.heap.size ≤ w'.heap.size
  frame : ∀ b, b < w.heap.size → ¬ Mut β H b → w'.heap[b]? = w.heap[b]?
  shape : ∀ b x, w.shape? b = some x → w'.shape? b = some x
  sub : ∀ b, S b → S' b
  bk : ∀ b x, Bk β b x → Bk β' b x
  newS : ∀ b, S' b → S b ∨ Mut β H b ∨ w.heap.size ≤ b
  newM : ∀ b, Mut β' H' b → Mut β H b ∨ w.heap.size ≤ b

theorem Evo.refl (w : World) (S : Nat → Prop) (β : Bmap) (H : AHeap) : Evo w S β H w S β H :=
  ⟨rfl, rfl, Nat.le_refl _, fun _ _ _ => rfl, fun _ _ h => h, fun _ h => h, fun _ _ h => h, fun _ h => .inl h, fun _ h => .inl h⟩

theorem Evo.trans {w1 w2 w3 : World} {S1 S2 S3 : Nat → Prop} {β1 β2 β3 : Bmap} {H1 H2 H3 : AHeap} (a : Evo w1 S1 β1 H1 w2 S2 β2 H2) (b : Evo w2 S2 β2 H2 w3 S3 β3 H3) : Evo w1 S1 β1 H1 w3 S3 β3 H3 where
  os := b.os.trans a.os
  output := b.output.trans a.output
  size := Nat.le_trans a.size b.size
  frame := fun i hi hm => by
    have hm2 : ¬ Mut β2 H2 i := fun h => by
      rcases a.newM i h with h | h
      · exact hm h
      · omega
    exact (b.frame i (Nat.lt_of_lt_of_le hi a.size) hm2).trans (a.frame i hi hm)
  shape := fun i x h => b.shape i x (a.shape i x h)
  sub := fun i h => b.sub i (a.sub i h)
  bk := fun i x h => b.bk i x (a.bk i x h)
  newS := fun i h => by
    rcases b.newS i h with h | h | h
    · exact a.newS i h
    · exact .inr (a.newM i h)
    · exact .inr (.inr (Nat.le_trans a.size h))
  newM := fun i h => by
    rcases b.newM i h with h | h
    · exact a.newM i h
    · exact .inr (Nat.le_trans a.size h)

/-- What is told stays told: where the blocks for good stay, the shapes stay, and the abstract blocks stay where they were. -/
theorem Rel.keep {w w' : World} {S S' : Nat → Prop} {β β' : Bmap} (hcell : ∀ b, S b → w'.heap[b]? = w.heap[b]?) (hS : ∀ b, S b → S' b) (hβ : ∀ b x, Bk β b x → Bk β' b x)
    (hshape : ∀ b x, w.shape? b = some x → w'.shape? b = some x) {d : D} {v : Value} (h : Rel w S β d v) : Rel w' S' β' d v := by
  have cellEq : ∀ (a : Addr), S a.block → w'.cell? a = w.cell? a := fun a ha => by simp [World.cell?, hcell _ ha]
  have blockAdd : ∀ (a : Addr) (i : Nat), (a.add i).block = a.block := fun a i => by unfold Addr.add; split <;> rfl
  induction h with
  | any v => exact .any v
  | int k n h1 h2 => exact .int k n h1 h2
  | bool b => exact .bool b
  | str s h => exact .str s h
  | agg ds vs h1 h0 h2 ih => exact .agg ds vs h1 h0 ih
  | nil => exact .nil
  | slNone sz t => exact .slNone sz t
  | sl sz es t ad cap vf h1 h2 h3 h4 h5 h6 ih =>
    exact .sl sz es t ad cap vf h1 h2 h3 h4 (fun i hi => ⟨hS _ (h5 i hi).1, by rw [cellEq _ (by rw [blockAdd]; exact (h5 i hi).1)]; exact (h5 i hi).2.1, (h5 i hi).2.2⟩) ih
  | ref b o len sz blk off cap h1 h2 h3 T n h4 h5 => exact .ref b o len sz blk off cap (hβ _ _ h1) h2 h3 T n (hshape _ _ h4) h5
  | refEmpty b o sz a => exact .refEmpty b o sz a
  | refc b o len sz cap blk off h1 h2 h3 T n h4 h5 => exact .refc b o len sz cap blk off (hβ _ _ h1) h2 h3 T n (hshape _ _ h4) h5
  | refcEmpty b o sz a => exact .refcEmpty b o sz a
  | cp cs ad vf h1 h2 ih =>
    exact .cp cs ad vf (fun i hi => ⟨hS _ (h1 i hi).1, by rw [cellEq _ (by rw [blockAdd]; exact (h1 i hi).1)]; exact (h1 i hi).2.1, (h1 i hi).2.2⟩) ih
  | ptr b o blk off h1 => exact .ptr b o blk off (hβ _ _ h1)
  | nilp => exact .nilp
  | fn f ds vs h1 h2 ih => exact .fn f ds vs h1 ih
  | nilf => exact .nilf
  | tup ds vs h1 h2 ih => exact .tup ds vs h1 ih
  | niface => exact .niface
  | iface t d v _ ih => exact .iface t d v ih
  | bit x => exact .bit x

theorem AInv.notMut {w : World} {S : Nat → Prop} {β : Bmap} {H : AHeap} (hI : AInv w S β H) {b : Nat} (hb : S b) : ¬ Mut β H b := by
  rintro ⟨i, cs, off, hl, hk⟩
  rcases hI.live i cs hl with ⟨_, h⟩ | ⟨blk, off', vs, T, fr, h1, h2, _⟩
  · unfold Bk at *; rw [hk] at h; cases h
  · unfold Bk at *; rw [hk] at h1; cases h1; exact h2 hb

theorem Rel.evo {w w' : World} {S S' : Nat → Prop} {β β' : Bmap} {H H' : AHeap} (hI : AInv w S β H) (e : Evo w S β H w' S' β' H') {d : D} {v : Value} (h : Rel w S β d v) : Rel w' S' β' d v :=
  h.keep (fun b hb => e.frame b (hI.old b hb) (hI.notMut hb)) e.sub e.bk e.shape

end Go.Proofs.YtlkffgmejcgdbaaDoor

/- The abstract operations: what each operation of the loaded code gives, and what must hold that it does. Of no program. -/
namespace Go.Proofs.YtlkffgmejcgdbaaDoor
set_option linter.all false

/-- A type's shape, as far as operations ask for it. -/
inductive TD where
  | bool
  | int (k : IntKind)
  | str
  | ptr (e : TypeId)
  | slice (e : TypeId)
  | array (n : Nat) (e : TypeId)
  | struct (fs : List (Nat × TypeId))
  | iface
  | other
  | none

def TD.of : TypeDesc → TD
  | .bool => .bool
  | .int k => .int k
  | .string => .str
  | .pointer e => .ptr e
  | .slice e => .slice e
  | .array n e => .array n e
  | .struct fs => .struct (fs.toList.map fun f => (f.offset, f.type))
  | .interface _ => .iface
  | _ => .other

def TD.known : TD → Bool
  | .none => false
  | _ => true

def TD.conc : TD → Bool
  | .none | .other | .iface => false
  | _ => true

def TD.isSeq : TD → Bool
  | .slice _ | .str => true
  | _ => false

def TD.isAgg : TD → Bool
  | .array _ _ | .struct _ => true
  | _ => false

structure TyRow where
  td : TD
  size : Nat
  bytes : Nat
  zero : Value
  eq : Bool := false

abbrev Ty := TypeId → TyRow

mutual
def ofVal : Value → D
  | .bool b => .bool b
  | .int k n => .int k n
  | .string s => .str s.data.toList
  | .slice none _ _ => .nil
  | .pointer none => .nilp
  | .nilFunc => .nilf
  | .nilIface => .niface
  | .agg cs => .agg (ofVals cs.toList)
  | .func f _ _ => .fn f []
  | _ => .any
def ofVals : List Value → List D
  | [] => []
  | v :: vs => ofVal v :: ofVals vs
end

def okCell : Value → Bool
  | .bool _ | .pointer none | .nilFunc | .nilIface => true
  | .int k n => decide (k.min ≤ n) && decide (n ≤ k.max)
  | .string s => decide (s.size ≤ maxLen)
  | .slice none 0 0 => true
  | .func _ a b => a.isEmpty && b.isEmpty
  | _ => false

def okVal : Value → Bool
  | .agg cs => cs.toList.all okCell
  | v => okCell v

abbrev Env := List (Nat × D)

def get : Env → Nat → D
  | [], _ => .any
  | (k, d) :: r, t => bif k == t then d else get r t

def put (env : Env) (dst : Option Tmp) (d : D) : Env :=
  match dst with
  | some t => (t, d) :: env
  | none => env

def aeval (env : Env) : Operand → D
  | .tmp t => get env t
  | .const v => ofVal v
  | .func f => .fn (.func f) []
  | .global g => match glTy g with | some t => .cp [.iface t (.cp [])] | none => .any

/-- What an operation comes to: what it asks, its value, the blocks behind it. -/
structure R where
  ob : Prop
  d : D
  H : AHeap

def bad : R := ⟨False, .any, []⟩

def aInt (op : BinOp) (k : IntKind) (a : Int) (k' : IntKind) (b : Int) (H : AHeap) : R :=
  match op with
  | .add => ⟨k = k', .int k (k.wrap (a + b)), H⟩
  | .sub => ⟨k = k', .int k (k.wrap (a - b)), H⟩
  | .mul => ⟨k = k', .int k (k.wrap (a * b)), H⟩
  | .quo => ⟨k = k' ∧ b ≠ 0, .int k (k.wrap (a.tdiv b)), H⟩
  | .rem => ⟨k = k' ∧ b ≠ 0, .int k (a.tmod b), H⟩
  | .and => ⟨k = k', .int k (k.wrap (BitVec.ofInt k.bits a &&& BitVec.ofInt k.bits b).toNat), H⟩
  | .or => ⟨k = k', .int k (k.wrap (BitVec.ofInt k.bits a ||| BitVec.ofInt k.bits b).toNat), H⟩
  | .xor => ⟨k = k', .int k (k.wrap (BitVec.ofInt k.bits a ^^^ BitVec.ofInt k.bits b).toNat), H⟩
  | .andNot => ⟨k = k', .int k (k.wrap (BitVec.ofInt k.bits a &&& ~~~BitVec.ofInt k.bits b).toNat), H⟩
  | .shl => ⟨0 ≤ b, .int k (k.wrap (a * 2 ^ (min b.toNat k.bits))), H⟩
  | .shr => ⟨0 ≤ b, .int k (a.fdiv (2 ^ (min b.toNat k.bits))), H⟩
  | .eql => ⟨k = k', .bool (a == b), H⟩
  | .neq => ⟨k = k', .bool (a != b), H⟩
  | .lss => ⟨k = k', .bool (decide (a < b)), H⟩
  | .leq => ⟨k = k', .bool (decide (a ≤ b)), H⟩
  | .gtr => ⟨k = k', .bool (decide (a > b)), H⟩
  | .geq => ⟨k = k', .bool (decide (a ≥ b)), H⟩

def aStr (op : BinOp) (a b : List UInt8) (H : AHeap) : R :=
  match op with
  | .add => ⟨a.length + b.length ≤ maxLen, .str (a ++ b), H⟩
  | .eql => ⟨True, .bool (a == b), H⟩
  | .neq => ⟨True, .bool (!(a == b)), H⟩
  | .lss => ⟨True, .bool (Op.bytesLess a b), H⟩
  | .leq => ⟨True, .bool (Op.bytesLess a b || a == b), H⟩
  | .gtr => ⟨True, .bool (!(Op.bytesLess a b || a == b)), H⟩
  | .geq => ⟨True, .bool (!Op.bytesLess a b), H⟩
  | _ => bad

/-- Equality of two structs' or arrays' cells: integers, bools, strings alone. -/
def eqCells : List D → List D → Bool
  | [], [] => true
  | .int _ a :: xs, .int _ b :: ys => (a == b) && eqCells xs ys
  | .bool a :: xs, .bool b :: ys => (a == b) && eqCells xs ys
  | .str a :: xs, .str b :: ys => (a == b) && eqCells xs ys
  | _, _ => false

def sameCells : List D → List D → Bool
  | [], [] => true
  | .int k _ :: xs, .int k' _ :: ys => decide (k = k') && sameCells xs ys
  | .bool _ :: xs, .bool _ :: ys => sameCells xs ys
  | .str _ :: xs, .str _ :: ys => sameCells xs ys
  | _, _ => false

/-- A struct's fields, or an array, of one cell each: integers, bools, strings: which. -/
def flatTD (τ : Ty) : List (Nat × TypeId) → Nat → List D → Bool
  | [], _, [] => true
  | (off, t) :: fs, i, d :: ds => decide (off = i) && (match (τ t).td, d with
      | .int k, .int k' _ => decide (k = k')
      | .bool, .bool _ => true
      | .str, .str _ => true
      | _, _ => false) && flatTD τ fs (i + 1) ds
  | _, _, _ => false

/-- Is a slice nil? -/
def isNilD : D → Option D
  | .nil => some (.bool true)
  | .sl _ es _ => some (bif es.isEmpty then .bit else .bool false)
  | .ref _ _ len _ => some (bif len == 0 then .bit else .bool false)
  | .refc _ _ len _ _ => some (bif len == 0 then .bit else .bool false)
  | _ => none
def notD : D → D
  | .bool b => .bool (!b)
  | d => d
def aNilB (τ : Ty) (op : BinOp) (t : TypeId) (x y : D) (H : AHeap) : R :=
  match y with
  | .nil => (match isNilD x with
    | some r => (match op with
      | .eql => ⟨∃ e, (τ t).td = .slice e, r, H⟩
      | .neq => ⟨∃ e, (τ t).td = .slice e, notD r, H⟩
      | _ => bad)
    | none => bad)
  | _ => bad

/-- Of interfaces: held against nil; two integers of one type. -/
def aIf (τ : Ty) (op : BinOp) (t : TypeId) (x y : D) (H : AHeap) : R :=
  match x with
  | .iface tx dx => (match y with
    | .niface => (match op with
      | .eql => ⟨(τ t).td = .iface, .bool false, H⟩
      | .neq => ⟨(τ t).td = .iface, .bool true, H⟩
      | _ => bad)
    | .iface ty dy => (match dx with
      | .int k a => (match dy with
        | .int k' b => (match op with
          | .eql => ⟨(τ t).td = .iface ∧ tx = ty ∧ k = k' ∧ (τ tx).td = .int k ∧ (τ tx).eq = true, .bool (a == b), H⟩
          | _ => bad)
        | _ => bad)
      | _ => bad)
    | _ => bad)
  | _ => bad

def aNilX (τ : Ty) (op : BinOp) (t : TypeId) (x y : D) (H : AHeap) : R :=
  match y with
  | .niface | .iface _ _ => aIf τ op t x y H
  | _ => aNilB τ op t x y H

def aBin (τ : Ty) (op : BinOp) (t : TypeId) (x y : D) (H : AHeap) : R :=
  match x with
  | .int k a => (match y with | .int k' b => aInt op k a k' b H | _ => bad)
  | .str a => (match y with | .str b => aStr op a b H | _ => bad)
  | .bool a => (match y with
    | .bool b => (match op with
      | .eql => ⟨(τ t).td = .bool, .bool (a == b), H⟩
      | .neq => ⟨(τ t).td = .bool, .bool (!(a == b)), H⟩
      | _ => bad)
    | _ => bad)
  | .agg xs => (match y with
    | .agg ys => (match op with
      | .eql => ⟨∃ fs, (τ t).td = .struct fs ∧ (τ t).eq = true ∧ flatTD τ fs 0 xs = true ∧ flatTD τ fs 0 ys = true, .bool (eqCells xs ys), H⟩
      | .neq => ⟨∃ fs, (τ t).td = .struct fs ∧ (τ t).eq = true ∧ flatTD τ fs 0 xs = true ∧ flatTD τ fs 0 ys = true, .bool (!eqCells xs ys), H⟩
      | _ => bad)
    | _ => bad)
  | x => aNilX τ op t x y H

def constOp : Operand → Bool
  | .const _ => true
  | _ => false

/-- Two nil interfaces may be held against each other where one of them is the literal nil. -/
def aBinC (τ : Ty) (op : BinOp) (t : TypeId) (x y : D) (c : Bool) (H : AHeap) : R :=
  match x with
  | .niface => (match y with
    | .niface => (match op with
      | .eql => ⟨(τ t).td = .iface ∧ c = true, .bool true, H⟩
      | .neq => ⟨(τ t).td = .iface ∧ c = true, .bool false, H⟩
      | _ => bad)
    | _ => bad)
  | x => aBin τ op t x y H

def aUn (op : UnOp) (x : D) (H : AHeap) : R :=
  match op, x with
  | .neg, .int k n => ⟨True, .int k (k.wrap (0 - n)), H⟩
  | .xor, .int k n => ⟨True, .int k (k.wrap (BitVec.ofInt k.bits (if k.signed then -1 else k.max) ^^^ BitVec.ofInt k.bits n).toNat), H⟩
  | .not, .bool b => ⟨True, .bool (!b), H⟩
  | .not, .bit => ⟨True, .bit, H⟩
  | _, _ => bad

def byteD (b : UInt8) : D := .int .u8 b.toNat
def unbyte : D → UInt8
  | .int _ n => UInt8.ofNat n.toNat
  | _ => 0
def isByte : D → Bool
  | .int .u8 _ => true
  | _ => false

/-- The cells of what a block is told to hold. -/
def Blk.cells : Blk → Option (List D)
  | .live cs | .froz cs => some cs
  | _ => none

def cellsAt (H : AHeap) (b : Nat) : Option (List D) := (H[b]?).bind Blk.cells

/-- The cells of a slice's or a string's elements, and how many elements. -/
def elemCells (H : AHeap) : D → Option (List D × Nat)
  | .nil => some ([], 0)
  | .str s => some (s.map byteD, s.length)
  | .sl _ es _ => some (es.flatMap D.cells, es.length)
  | .ref b o len sz => match cellsAt H b with
    | some cs => some ((cs.drop o).take (len * sz), len)
    | none => none
  | .refc b o len sz _ => match cellsAt H b with
    | some cs => some ((cs.drop o).take (len * sz), len)
    | none => none
  | _ => none

def aConv (τ : Ty) (src dst : TypeId) (x : D) (slot : Nat) (H : AHeap) : R :=
  match (τ dst).td with
  | .int k => (match x with | .int _ n => ⟨(τ src).td.known = true, .int k (k.wrap n), H⟩ | _ => bad)
  | .str => (match x with
    | .str s => ⟨(τ src).td = .str, .str s, H⟩
    | .nil => ⟨∃ e, (τ src).td = .slice e ∧ (τ e).td = .int .u8, .str [], H⟩
    | .sl sz es _ => ⟨(∃ e, (τ src).td = .slice e ∧ (τ e).td = .int .u8) ∧ sz = 1 ∧ es.all isByte = true, .str (es.map unbyte), H⟩
    | .ref b o len sz => (match cellsAt H b with
      | some cs => ⟨(∃ e, (τ src).td = .slice e ∧ (τ e).td = .int .u8) ∧ sz = 1 ∧ o + len ≤ cs.length ∧ ((cs.drop o).take len).all isByte = true, .str (((cs.drop o).take len).map unbyte), H⟩
      | none => bad)
    | _ => bad)
  | .slice e => (match x with
    | .str s => ⟨(τ e).td = .int .u8 ∧ (τ e).size = 1 ∧ (τ src).td = .str, .ref slot 0 s.length 1, H.set slot (.live (s.map byteD))⟩
    | _ => bad)
  | _ => bad

def asNat? : Option D → Option (Option Int)
  | none => some none
  | some (.int _ n) => some (some n)
  | _ => none

def cutTight (tight : Bool) : Option Int → Option Int → Bool
  | some m, some h => decide (m = h)
  | _, none => tight
  | none, some _ => false

def aSlice (τ : Ty) (t : TypeId) (x : D) (lo hi mx : Option D) (H : AHeap) : R :=
  match asNat? lo, asNat? hi, asNat? mx with
  | some l, some h, some m =>
    (match x with
    | .str s => ⟨(τ t).td = .str ∧ mx.isNone = true ∧ 0 ≤ l.getD 0 ∧ l.getD 0 ≤ h.getD s.length ∧ h.getD s.length ≤ s.length, .str ((s.take (h.getD s.length).toNat).drop (l.getD 0).toNat), H⟩
    | .nil => ⟨(∃ e, (τ t).td = .slice e ∧ (τ e).td.known = true) ∧ l.getD 0 = 0 ∧ h.getD 0 = 0 ∧ m.getD 0 = 0 ∧ (hi.isNone = true → mx.isNone = true), .nil, H⟩
    | .sl sz es tight =>
      ⟨(∃ e, (τ t).td = .slice e ∧ (τ e).size = sz ∧ (τ e).td.known = true) ∧ 0 ≤ l.getD 0 ∧ l.getD 0 ≤ h.getD es.length ∧ h.getD es.length ≤ m.getD es.length ∧ m.getD es.length ≤ es.length ∧ (hi.isNone = true → mx.isNone = true),
        .sl sz ((es.take (h.getD es.length).toNat).drop (l.getD 0).toNat) (cutTight tight m h), H⟩
    | .ref b o len sz =>
      ⟨(∃ e, (τ t).td = .slice e ∧ (τ e).size = sz ∧ (τ e).td.known = true) ∧ 0 ≤ l.getD 0 ∧ l.getD 0 ≤ h.getD len ∧ h.getD len ≤ m.getD len ∧ m.getD len ≤ len ∧ (hi.isNone = true → mx.isNone = true),
        .ref b (o + (l.getD 0).toNat * sz) ((h.getD len).toNat - (l.getD 0).toNat) sz, H⟩
    | .refc b o len sz c =>
      ⟨(∃ e, (τ t).td = .slice e ∧ (τ e).size = sz ∧ (τ e).td.known = true) ∧ 0 ≤ l.getD 0 ∧ l.getD 0 ≤ h.getD len ∧ h.getD len ≤ m.getD c ∧ m.getD c ≤ c ∧ (hi.isNone = true → mx.isNone = true),
        .refc b (o + (l.getD 0).toNat * sz) ((h.getD len).toNat - (l.getD 0).toNat) sz ((m.getD c).toNat - (l.getD 0).toNat), H⟩
    | .ptr b o => (match (τ t).td with
      | .array n e => ⟨0 ≤ l.getD 0 ∧ l.getD 0 ≤ h.getD n ∧ h.getD n ≤ n ∧ mx.isNone = true ∧ n ≤ maxLen ∧ (τ e).td.known = true ∧ 0 < n * (τ e).size ∧ (∃ cs, cellsAt H b = some cs ∧ o + n * (τ e).size ≤ cs.length),
          .ref b (o + (l.getD 0).toNat * (τ e).size) ((h.getD n).toNat - (l.getD 0).toNat) (τ e).size, H⟩
      | _ => bad)
    | _ => bad)
  | _, _, _ => bad

def aIndexAddr (τ : Ty) (t : TypeId) (x ix : D) (H : AHeap) : R :=
  match ix with
  | .int _ i => (match (τ t).td with
    | .slice e => (match x with
      | .sl sz es _ => ⟨0 ≤ i ∧ i < es.length ∧ sz = (τ e).size ∧ (τ e).td.known = true, .cp (es.getD i.toNat .any).cells, H⟩
      | .ref b o len sz => ⟨0 ≤ i ∧ i < len ∧ sz = (τ e).size ∧ (τ e).td.known = true, .ptr b (o + i.toNat * sz), H⟩
      | _ => bad)
    | .array n e => (match x with
      | .ptr b o => ⟨0 ≤ i ∧ i < n ∧ (τ e).td.known = true, .ptr b (o + i.toNat * (τ e).size), H⟩
      | .cp cs => ⟨0 ≤ i ∧ i < n ∧ (τ e).td.known = true, .cp (cs.drop (i.toNat * (τ e).size)), H⟩
      | _ => bad)
    | _ => bad)
  | _ => bad

def aFieldAddr (τ : Ty) (t : TypeId) (x : D) (f : Nat) (H : AHeap) : R :=
  match (τ t).td with
  | .struct fs => (match fs[f]? with
    | some (off, ft) => (match x with
      | .ptr b o => ⟨(τ ft).size ≠ 0 ∧ (τ ft).td.known = true, .ptr b (o + off), H⟩
      | .cp cs => ⟨(τ ft).size ≠ 0 ∧ (τ ft).td.known = true, .cp (cs.drop off), H⟩
      | _ => bad)
    | none => bad)
  | _ => bad

/-- A part of cells, as a value of a type. -/
def partD (r : TyRow) (cs : List D) (off : Nat) : D :=
  if r.td.isAgg then .agg ((cs.drop off).take r.size) else cs.getD off .any

def partOb (r : TyRow) (cs : List D) (off : Nat) : Prop :=
  r.td.known = true ∧ if r.td.isAgg then off + r.size ≤ cs.length else off < cs.length

def aField (τ : Ty) (t : TypeId) (x : D) (f : Nat) (H : AHeap) : R :=
  match (τ t).td with
  | .struct fs => (match fs[f]? with
    | some (off, ft) => (match x with
      | .agg cs => ⟨partOb (τ ft) cs off, partD (τ ft) cs off, H⟩
      | _ => bad)
    | none => bad)
  | _ => bad

def aIndex (τ : Ty) (t : TypeId) (x ix : D) (H : AHeap) : R :=
  match ix with
  | .int _ i => (match x with
    | .str s => ⟨(τ t).td = .str ∧ 0 ≤ i ∧ i < s.length, byteD (s.getD i.toNat 0), H⟩
    | .agg cs => (match (τ t).td with
      | .array n e => ⟨0 ≤ i ∧ i < n ∧ partOb (τ e) cs (i.toNat * (τ e).size), partD (τ e) cs (i.toNat * (τ e).size), H⟩
      | _ => bad)
    | _ => bad)
  | _ => bad

def aLoad (τ : Ty) (t : TypeId) (x : D) (H : AHeap) : R :=
  match x with
  | .ptr b o => (match cellsAt H b with
    | some cs => ⟨partOb (τ t) cs o, partD (τ t) cs o, H⟩
    | none => bad)
  | .cp cs => ⟨partOb (τ t) cs 0, partD (τ t) cs 0, H⟩
  | _ => bad

/-- 'vs' in the place of what stands from 'o' on. -/
def splice {α : Type} (cs : List α) (o : Nat) (vs : List α) : List α := cs.take o ++ vs ++ cs.drop (o + vs.length)

def aStore (τ : Ty) (t : TypeId) (x v : D) (H : AHeap) : R :=
  match x with
  | .ptr b o => (match H[b]? with
    | some (.live cs) => ⟨(τ t).td.known = true ∧ v.cells.length = (τ t).size ∧ v.cells.all D.one = true ∧ o + v.cells.length ≤ cs.length, .any, H.set b (.live (splice cs o v.cells))⟩
    | _ => bad)
  | _ => bad

def aAlloc (τ : Ty) (t : TypeId) (slot : Nat) (H : AHeap) : R := ⟨(τ t).td.known = true ∧ okVal (τ t).zero = true, .ptr slot 0, H.set slot (.live (ofVal (τ t).zero).cells)⟩

def aBox (v : D) (slot : Nat) (H : AHeap) : R := ⟨v.cells.all D.one = true, .ptr slot 0, H.set slot (.live v.cells)⟩

def fillD (place : Nat → Option (Nat × Nat)) : List (Nat × D) → List D → Option (List D)
  | [], cs => some cs
  | (i, v) :: rest, cs =>
    match place i with
    | none => none
    | some (off, size) => if v.cells.length = size ∧ off + size ≤ cs.length ∧ v.cells.all D.one = true then fillD place rest (splice cs off v.cells) else none

def aBuild (τ : Ty) (t : TypeId) (parts : List (Nat × D)) (H : AHeap) : R :=
  match (τ t).td with
  | .struct fs => (match fillD (fun i => (fs[i]?).map fun f => (f.1, (τ f.2).size)) parts (ofVal (τ t).zero).cells with
    | some cs => ⟨okVal (τ t).zero = true ∧ (fs.all fun f => (τ f.2).td.known) = true, .agg cs, H⟩
    | none => bad)
  | .array _ e => (match fillD (fun i => some (i * (τ e).size, (τ e).size)) parts (ofVal (τ t).zero).cells with
    | some cs => ⟨okVal (τ t).zero = true ∧ (τ e).td.known = true, .agg cs, H⟩
    | none => bad)
  | _ => bad

def aBuildSlice (τ : Ty) (t : TypeId) (n : Nat) (parts : List (Nat × D)) (slot : Nat) (H : AHeap) : R :=
  match (τ t).td with
  | .slice e => (match fillD (fun i => some (i * (τ e).size, (τ e).size)) parts ((List.replicate n (ofVal (τ e).zero).cells).flatten) with
    | some cs => ⟨(τ e).td.known = true ∧ n ≤ maxLen ∧ okVal (τ e).zero = true ∧ n * (τ e).size ≤ 2 ^ 24 ∧ (ofVal (τ e).zero).cells.length = (τ e).size, .ref slot 0 n (τ e).size, H.set slot (.live cs)⟩
    | none => bad)
  | _ => bad

def aMakeSlice (τ : Ty) (t : TypeId) (len cap : D) (slot : Nat) (H : AHeap) : R :=
  match (τ t).td with
  | .slice e => (match len with
    | .int _ l => (match cap with
      | .int _ c => ⟨0 ≤ l ∧ l ≤ c ∧ c ≤ 9223372036854775807 ∧ (τ e).bytes * c ≤ 281474976710656 ∧ (τ e).td.known = true ∧ okVal (τ e).zero = true ∧ (ofVal (τ e).zero).cells.length = (τ e).size,
          .ref slot 0 l.toNat (τ e).size, H.set slot (.live ((List.replicate l.toNat (ofVal (τ e).zero).cells).flatten))⟩
      | _ => bad)
    | _ => bad)
  | _ => bad

def aLen (τ : Ty) (t : TypeId) (x : D) (H : AHeap) : R :=
  match (τ t).td with
  | .str => (match x with | .str s => ⟨True, .int .i64 s.length, H⟩ | _ => bad)
  | .array n _ => ⟨n ≤ maxLen, .int .i64 n, H⟩
  | .slice _ => (match x with
    | .sl _ es _ => ⟨True, .int .i64 es.length, H⟩
    | .ref _ _ len _ => ⟨True, .int .i64 len, H⟩
    | .refc _ _ len _ _ => ⟨True, .int .i64 len, H⟩
    | .nil => ⟨True, .int .i64 0, H⟩
    | _ => bad)
  | _ => bad

def aCap (τ : Ty) (t : TypeId) (x : D) (H : AHeap) : R :=
  match (τ t).td with
  | .slice _ => (match x with
    | .refc _ _ _ _ c => ⟨True, .int .i64 c, H⟩
    | .nil => ⟨True, .int .i64 0, H⟩
    | _ => bad)
  | _ => bad

def aMax : D → List D → Option D
  | .int k x, [] => some (.int k x)
  | .int k x, .int k' y :: r => if k = k' then aMax (.int k (if y > x then y else x)) r else none
  | _, _ => none
def aMin : D → List D → Option D
  | .int k x, [] => some (.int k x)
  | .int k x, .int k' y :: r => if k = k' then aMin (.int k (if y < x then y else x)) r else none
  | _, _ => none

/-- Elements out of cells. -/
def chunk (agg : Bool) (sz : Nat) : Nat → List D → List D
  | 0, _ => []
  | n + 1, cs => (if agg then .agg (cs.take sz) else cs.getD 0 .any) :: chunk agg sz n (cs.drop sz)

/-- So many zeros more, where there is no room: a new block. -/
def aAppendZ (τ : Ty) (t t' : TypeId) (s : D) (kk : Int) (slot : Nat) (H : AHeap) : R :=
  match (τ t).td with
  | .slice e => (match s with
    | .refc b o len sz c => (match H[b]? with
      | some (.live cs) => ⟨0 < kk ∧ c < len + kk.toNat ∧ sz = (τ e).size ∧ o + len * sz ≤ cs.length ∧ (len + kk.toNat) * (τ e).bytes ≤ 140737488355328 ∧ len + kk.toNat ≤ maxLen ∧ (τ e).td.known = true ∧ okVal (τ e).zero = true ∧ (ofVal (τ e).zero).cells.length = (τ e).size ∧ 0 < (τ e).size ∧ ∃ k, (τ t').td = .int k,
          .ref slot 0 (len + kk.toNat) sz, H.set slot (.live ((cs.drop o).take (len * sz) ++ (List.replicate kk.toNat (ofVal (τ e).zero).cells).flatten))⟩
      | _ => bad)
    | _ => bad)
  | _ => bad

def aAppend (τ : Ty) (ts : List TypeId) (s x : D) (slot : Nat) (H : AHeap) : R :=
  match ts with
  | [t, t'] => (match x with
    | .int _ kk => aAppendZ τ t t' s kk slot H
    | x => (match (τ t).td with
    | .slice e => (match elemCells H x with
      | some (xs, n) => (match s with
        | .nil => ⟨xs.all D.one = true ∧ xs.length = n * (τ e).size ∧ n * (τ e).bytes ≤ 140737488355328 ∧ n ≤ maxLen ∧ (τ e).td.known = true ∧ (τ t').td.isSeq = true ∧ okVal (τ e).zero = true ∧ (ofVal (τ e).zero).cells.length = (τ e).size,
            .ref slot 0 n (τ e).size, H.set slot (.live xs)⟩
        | .ref b o len sz => (match H[b]? with
          | some (.live cs) => ⟨xs.all D.one = true ∧ xs.length = n * (τ e).size ∧ sz = (τ e).size ∧ o + len * sz ≤ cs.length ∧ (len + n) * (τ e).bytes ≤ 140737488355328 ∧ len + n ≤ maxLen ∧ (τ e).td.known = true ∧ (τ t').td.isSeq = true ∧ okVal (τ e).zero = true ∧ (ofVal (τ e).zero).cells.length = (τ e).size ∧ b ≠ slot,
              .ref slot 0 (len + n) sz, (H.set b .dead).set slot (.live ((cs.drop o).take (len * sz) ++ xs))⟩
          | _ => bad)
        | .sl sz es true => bif es.isEmpty then ⟨xs.all D.one = true ∧ xs.length = n * (τ e).size ∧ n * (τ e).bytes ≤ 140737488355328 ∧ n ≤ maxLen ∧ (τ e).td.known = true ∧ (τ t').td.isSeq = true ∧ okVal (τ e).zero = true ∧ (ofVal (τ e).zero).cells.length = (τ e).size,
            .ref slot 0 n (τ e).size, H.set slot (.live xs)⟩
          else ⟨xs.all D.one = true ∧ xs.length = n * (τ e).size ∧ sz = (τ e).size ∧ (es.length + n) * (τ e).bytes ≤ 140737488355328 ∧ es.length + n ≤ maxLen ∧ (τ e).td.known = true ∧ (τ t').td.isSeq = true ∧ okVal (τ e).zero = true ∧ (ofVal (τ e).zero).cells.length = (τ e).size ∧ ((τ e).td.isAgg = false → (τ e).size = 1),
            .sl sz (es ++ chunk (τ e).td.isAgg sz n xs) false, H⟩
        | .refc b o len sz c => (match H[b]? with
          | some (.live cs) => bif decide (len + n ≤ c) then
              ⟨xs.all D.one = true ∧ xs.length = n * (τ e).size ∧ sz = (τ e).size ∧ o + len * sz ≤ cs.length ∧ (len + n) * (τ e).bytes ≤ 140737488355328 ∧ len + n ≤ maxLen ∧ (τ e).td.known = true ∧ (τ t').td.isSeq = true ∧ okVal (τ e).zero = true ∧ (ofVal (τ e).zero).cells.length = (τ e).size ∧ b ≠ slot,
                .refc b o (len + n) sz c, H.set b (.live (splice cs (o + len * sz) xs))⟩
            else ⟨xs.all D.one = true ∧ xs.length = n * (τ e).size ∧ sz = (τ e).size ∧ o + len * sz ≤ cs.length ∧ (len + n) * (τ e).bytes ≤ 140737488355328 ∧ len + n ≤ maxLen ∧ (τ e).td.known = true ∧ (τ t').td.isSeq = true ∧ okVal (τ e).zero = true ∧ (ofVal (τ e).zero).cells.length = (τ e).size ∧ b ≠ slot,
                .ref slot 0 (len + n) sz, H.set slot (.live ((cs.drop o).take (len * sz) ++ xs))⟩
          | _ => bad)
        | _ => bad)
      | none => bad)
    | _ => bad))
  | _ => bad

/-- What a copy asks of its source: all of it, or as much as it takes. -/
def copyOb (src : D) (xl n m sz : Nat) : Prop :=
  match src with
  | .refc _ _ _ z _ => z = sz ∧ m * sz ≤ xl
  | _ => xl = n * sz

def aCopy (τ : Ty) (ts : List TypeId) (dst src : D) (H : AHeap) : R :=
  match ts with
  | t :: _ => (match (τ t).td with
    | .slice e => (match dst with
      | .ref b o len sz => (match H[b]?, elemCells H src with
        | some (.live cs), some (xs, n) =>
          ⟨xs.length = n * (τ e).size ∧ sz = (τ e).size ∧ o + len * sz ≤ cs.length ∧ (τ e).td.known = true,
            .int .i64 (min n len : Nat), H.set b (.live (splice cs o (xs.take (min n len * sz))))⟩
        | _, _ => bad)
      | .refc b o len sz c => (match H[b]?, elemCells H src with
        | some (.live cs), some (xs, n) =>
          ⟨copyOb src xs.length n (min n len) (τ e).size ∧ sz = (τ e).size ∧ o ≤ cs.length ∧ (τ e).td.known = true,
            .int .i64 (min n len : Nat), H.set b (.live (splice cs o (xs.take (min n len * sz))))⟩
        | _, _ => bad)
      | _ => bad)
    | _ => bad)
  | _ => bad

def aClear (τ : Ty) (t : TypeId) (x : D) (H : AHeap) : R :=
  match (τ t).td with
  | .slice e => (match x with
    | .refc b o len sz _ => (match H[b]? with
      | some (.live cs) => ⟨sz = (τ e).size ∧ o + len * sz ≤ cs.length ∧ (τ e).td.known = true ∧ okVal (τ e).zero = true ∧ (ofVal (τ e).zero).cells.length = (τ e).size,
          .tup [], H.set b (.live (splice cs o (List.replicate len (ofVal (τ e).zero).cells).flatten))⟩
      | _ => bad)
    | _ => bad)
  | _ => bad

def aBuiltin (τ : Ty) (b : Builtin) (ts : List TypeId) (args : List D) (slot : Nat) (H : AHeap) : R :=
  match b with
  | .len => (match ts, args with | [t], [x] => aLen τ t x H | _, _ => bad)
  | .max => (match args with | x :: r => (match aMax x r with | some d => ⟨True, d, H⟩ | none => bad) | _ => bad)
  | .min => (match args with | x :: r => (match aMin x r with | some d => ⟨True, d, H⟩ | none => bad) | _ => bad)
  | .append => (match args with | [s, x] => aAppend τ ts s x slot H | _ => bad)
  | .copy => (match args with | [d, s] => aCopy τ ts d s H | _ => bad)
  | .cap => (match ts, args with | [t], [x] => aCap τ t x H | _, _ => bad)
  | .clear => (match ts, args with | [t], [x] => aClear τ t x H | _, _ => bad)
  | _ => bad

def aop (τ : Ty) (ev : Operand → D) (slot : Nat) (H : AHeap) : Op → R
  | .move x | .assign x => ⟨True, ev x, H⟩
  | .pick c a b => (match ev c with | .bool true => ⟨True, ev a, H⟩ | .bool false => ⟨True, ev b, H⟩ | _ => bad)
  | .alloc t => aAlloc τ t slot H
  | .box _ v => aBox (ev v) slot H
  | .build t ps => aBuild τ t (ps.toList.map fun p => (p.1, ev p.2)) H
  | .buildSlice t n ps => aBuildSlice τ t n (ps.toList.map fun p => (p.1, ev p.2)) slot H
  | .load t a => aLoad τ t (ev a) H
  | .store t a v => aStore τ t (ev a) (ev v) H
  | .nilCheck x => (match ev x with | .ptr b o => ⟨True, .ptr b o, H⟩ | .cp cs => ⟨True, .cp cs, H⟩ | .fn (.func f) cap => ⟨True, .fn (.func f) cap, H⟩ | _ => bad)
  | .binOp op t x y _ => aBinC τ op t (ev x) (ev y) (constOp x || constOp y) H
  | .makeInterface t x => ⟨(τ t).td.conc = true, .iface t (ev x), H⟩
  | .unOp op _ x => aUn op (ev x) H
  | .convert src dst x => aConv τ src dst (ev x) slot H
  | .makeFunc (.func f) first cap => ⟨first = #[], .fn (.func f) (cap.toList.map ev), H⟩
  | .makeSlice t l c => aMakeSlice τ t (ev l) (ev c) slot H
  | .slice t x lo hi mx => aSlice τ t (ev x) (lo.map ev) (hi.map ev) (mx.map ev) H
  | .fieldAddr t x f => aFieldAddr τ t (ev x) f H
  | .field t x f => aField τ t (ev x) f H
  | .indexAddr t x i => aIndexAddr τ t (ev x) (ev i) H
  | .index t x i => aIndex τ t (ev x) (ev i) H
  | .extract x i => (match ev x with | .tup ds => ⟨i < ds.length, ds.getD i .any, H⟩ | _ => bad)
  | .call { callee := .builtin b, args, argTypes } => aBuiltin τ b argTypes.toList (args.toList.map ev) slot H
  | _ => bad

end Go.Proofs.YtlkffgmejcgdbaaDoor

/- How the abstract heap goes with the world: a new block, a block written, a block moved. Of no program. -/
namespace Go.Proofs.YtlkffgmejcgdbaaDoor
set_option linter.all false

theorem ofVals_eq (vs : List Value) : ofVals vs = vs.map ofVal := by
  induction vs with
  | nil => rfl
  | cons v vs ih => rw [ofVals, ih, List.map_cons]

theorem okCell_one {v : Value} (h : okCell v = true) : v.oneCell' = true := by
  cases v <;> simp [okCell, Value.oneCell'] at *

theorem ofCell_rel (w : World) (S : Nat → Prop) (β : Bmap) {v : Value} (h : okCell v = true) : Rel w S β (ofVal v) v := by
  cases v with
  | bool b => simp only [ofVal]; exact .bool b
  | int k n =>
    simp [okCell] at h
    simp only [ofVal]
    exact .int k n h.1 h.2
  | string s =>
    simp [okCell] at h
    obtain ⟨⟨l⟩⟩ := s
    simp only [ofVal]
    exact .str l (by simpa [ByteArray.size] using h)
  | pointer a =>
    cases a with
    | none => simp only [ofVal]; exact .nilp
    | some a => simp [okCell] at h
  | slice a l c =>
    cases a with
    | some a => simp [okCell] at h
    | none =>
      match l, c, h with
      | 0, 0, _ => simp only [ofVal]; exact .nil
  | func f a b =>
    simp [okCell] at h
    obtain ⟨rfl, rfl⟩ := h
    simp only [ofVal]
    exact .fn f [] #[] rfl (by simp)
  | nilFunc => simp only [ofVal]; exact .nilf
  | nilIface => simp only [ofVal]; exact .niface
  | _ => simp [okCell] at h

theorem ofVal_rel (w : World) (S : Nat → Prop) (β : Bmap) {v : Value} (h : okVal v = true) : Rel w S β (ofVal v) v := by
  cases v with
  | agg cs =>
    simp only [okVal, List.all_eq_true] at h
    simp only [ofVal, ofVals_eq]
    refine .agg _ _ (by simp) (fun i v hv => okCell_one (h v ?_)) (fun i d v hd hv => ?_)
    · have := Array.mem_of_getElem? hv; simpa using this
    · simp only [List.getElem?_map] at hd
      rw [show cs.toList[i]? = some v by simpa using hv] at hd
      simp at hd
      subst hd
      exact ofCell_rel w S β (h v (by have := Array.mem_of_getElem? hv; simpa using this))
  | _ => exact ofCell_rel w S β (by simpa [okVal] using h)

theorem Rel.one {w : World} {S : Nat → Prop} {β : Bmap} {d : D} {v : Value} (h : Rel w S β d v) (h1 : d.one = true) : v.oneCell' = true := by
  cases h <;> simp_all [D.one, Value.oneCell']

theorem Rel.cells_of {w : World} {S : Nat → Prop} {β : Bmap} {d : D} {v : Value} (h : Rel w S β d v) (h1 : d.cells.all D.one = true) :
    v.cells.size = d.cells.length ∧ ∀ (i : Nat) (x : D), d.cells[i]? = some x → ∃ u, v.cells[i]? = some u ∧ u.oneCell' = true ∧ Rel w S β x u := by
  by_cases ha : ∃ cs, d = .agg cs
  · obtain ⟨cs, rfl⟩ := ha
    cases h with
    | agg _ vs e h0 h2 =>
      refine ⟨e, fun i x hx => ?_⟩
      simp only [D.cells] at hx
      have hlt : i < vs.size := by rw [e]; exact (List.getElem?_eq_some_iff.1 hx).1
      exact ⟨vs[i], by simp [Value.cells, hlt], h0 i _ (by simp [hlt]), h2 i x _ hx (by simp [hlt])⟩
  · have hd : d.cells = [d] := by
      cases d <;> first | rfl | exact absurd ⟨_, rfl⟩ ha
    have h1' : d.one = true := by simpa [hd] using h1
    have hv := h.one h1'
    have hvc : v.cells = #[v] := by cases v <;> first | rfl | simp [Value.oneCell'] at hv
    rw [hd, hvc]
    refine ⟨rfl, fun i x hx => ?_⟩
    match i, hx with
    | 0, hx => simp at hx; subst hx; exact ⟨v, rfl, hv, h⟩

/-- THE ONE STEP OF THE ABSTRACT HEAP: at most one block of memory is another one now, and abstract block 'slot' is told of it. -/
theorem AInv.step {w w' : World} {S : Nat → Prop} {β β' : Bmap} {H H1 : AHeap} (hI : AInv w S β H) (slot blk off : Nat) (vs : Array Value) (T : TypeId) (fr : Nat × Nat) (ds : List D)
    (hos : w'.os = w.os) (hout : w'.output = w.output) (hsz : w.heap.size ≤ w'.heap.size)
    (hother : ∀ b, b < w.heap.size → b ≠ blk → w'.heap[b]? = w.heap[b]?)
    (hshape : ∀ b x, w.shape? b = some x → w'.shape? b = some x)
    (hblk : w.heap.size ≤ blk ∨ Mut β H blk)
    (hnew : w'.heap[blk]? = some (.cells vs T fr)) (hfr : fr.2 ≤ fr.1 ∨ vs.size ≤ fr.1)
    (hlen1 : H1.length = H.length) (hslot : slot < H.length)
    (hlive : ∀ b' c, b' ≠ slot → H1[b']? = some (.live c) → H[b']? = some (.live c) ∧ ∀ off', ¬ Bk β b' (some (blk, off')))
    (hfroz : ∀ b' c, b' ≠ slot → H1[b']? = some (.froz c) → H[b']? = some (.froz c))
    (hvoid : ∀ b', b' ≠ slot → H1[b']? = some Blk.void → H[b']? = some Blk.void)
    (hβlen : β'.length = β.length) (hβother : ∀ b', b' ≠ slot → β'[b']? = β[b']?) (hβslot : Bk β' slot (some (blk, off))) (hβmono : ∀ x, Bk β slot x → Bk β' slot x)
    (hds : ∀ (i : Nat) (d : D), ds[i]? = some d → ∃ v, vs[off + i]? = some v ∧ v.oneCell' = true ∧ Rel w S β d v) :
    AInv w' S β' (H1.set slot (.live ds)) ∧ Evo w S β H w' S β' (H1.set slot (.live ds)) := by
  have hnS : ¬ S blk := fun h => by
    rcases hblk with h' | h'
    · have := hI.old blk h; omega
    · exact hI.notMut h h'
  have hbk : ∀ b x, Bk β b x → Bk β' b x := fun b x h => by
    by_cases hb : b = slot
    · subst hb; exact hβmono x h
    · unfold Bk; rw [hβother b hb]; exact h
  have hS : ∀ b, S b → w'.heap[b]? = w.heap[b]? := fun b hb => hother b (hI.old b hb) (fun e => hnS (e ▸ hb))
  have keep : ∀ {d v}, Rel w S β d v → Rel w' S β' d v := fun h => h.keep hS (fun _ h => h) hbk hshape
  have lies : ∀ {cs b0 o vs0 T0 fr0}, b0 ≠ blk → Lies w S β cs b0 o vs0 T0 fr0 → Lies w' S β' cs b0 o vs0 T0 fr0 := fun hne h =>
    ⟨by rw [hother _ (Array.getElem?_eq_some_iff.1 h.heap).1 hne]; exact h.heap, h.one, fun i d hd => let ⟨v, h1, h2⟩ := h.cell i d hd; ⟨v, h1, keep h2⟩⟩
  have hget : ∀ b', b' ≠ slot → (H1.set slot (.live ds))[b']? = H1[b']? := fun b' hb => List.getElem?_set_ne (Ne.symm hb)
  have hgets : (H1.set slot (.live ds))[slot]? = some (.live ds) := List.getElem?_set_self (by omega)
  have hlies : Lies w' S β' ds blk off vs T fr := ⟨hnew, fun i v hi hv => by
      obtain ⟨v', h1, h2, _⟩ := hds i _ (List.getElem?_eq_getElem hi)
      rw [hv] at h1; cases h1; exact h2, fun i d hd => let ⟨v, h1, _, h2⟩ := hds i d hd; ⟨v, h1, keep h2⟩⟩
  have hM : ∀ b, Mut β' (H1.set slot (.live ds)) b → Mut β H b ∨ w.heap.size ≤ b := by
    rintro b ⟨i, cs, o, hl, hk⟩
    by_cases hi : i = slot
    · subst hi
      unfold Bk at hk hβslot
      rw [hβslot] at hk
      cases hk
      exact hblk.symm
    · rw [hget i hi] at hl
      exact .inl ⟨i, cs, o, (hlive i cs hi hl).1, by unfold Bk at *; rw [hβother i hi] at hk; exact hk⟩
  refine ⟨⟨by simp [hβlen, hlen1, hI.len], ?_, ?_, ?_, hI.old.evo hS (fun _ h => h) (fun b hb => Nat.lt_of_lt_of_le (hI.old b hb) hsz), ?_⟩, ⟨hos, hout, hsz, fun b hb hm => hother b hb (fun e => ?_), hshape, fun _ h => h, hbk, fun _ h => .inl h, hM⟩⟩
  · intro b cs hb
    by_cases hbs : b = slot
    · subst hbs
      rw [hgets] at hb
      cases hb
      exact .inr ⟨blk, off, vs, T, fr, hβslot, hnS, hfr, hlies⟩
    · rw [hget b hbs] at hb
      obtain ⟨h1, h2⟩ := hlive b cs hbs hb
      rcases hI.live b cs h1 with ⟨h3, h4⟩ | ⟨b0, o, vs0, T0, fr0, h3, h4, h5, h6⟩
      · exact .inl ⟨h3, hbk _ _ h4⟩
      · exact .inr ⟨b0, o, vs0, T0, fr0, hbk _ _ h3, h4, h5, lies (fun e => h2 o (e ▸ h3)) h6⟩
  · intro b cs hb
    by_cases hbs : b = slot
    · subst hbs; rw [hgets] at hb; cases hb
    · rw [hget b hbs] at hb
      rcases hI.froz b cs (hfroz b cs hbs hb) with ⟨h3, h4⟩ | ⟨b0, o, vs0, T0, fr0, h3, h4, h6⟩
      · exact .inl ⟨h3, hbk _ _ h4⟩
      · exact .inr ⟨b0, o, vs0, T0, fr0, hbk _ _ h3, h4, lies (fun e => hnS (e ▸ h4)) h6⟩
  · intro b b' cs cs' k o o' hb hb' hk hk'
    by_cases e : b = slot
    · by_cases e' : b' = slot
      · rw [e, e']
      · exfalso
        subst e
        rw [hget b' e'] at hb'
        unfold Bk at hk hk' hβslot
        rw [hβslot] at hk; cases hk
        rw [hβother b' e'] at hk'
        exact (hlive b' cs' e' hb').2 o' hk'
    · by_cases e' : b' = slot
      · exfalso
        subst e'
        rw [hget b e] at hb
        unfold Bk at hk hk' hβslot
        rw [hβslot] at hk'; cases hk'
        rw [hβother b e] at hk
        exact (hlive b cs e hb).2 o hk
      · rw [hget b e] at hb
        rw [hget b' e'] at hb'
        unfold Bk at hk hk'
        rw [hβother b e] at hk
        rw [hβother b' e'] at hk'
        exact hI.apart b b' cs cs' k o o' (hlive b cs e hb).1 (hlive b' cs' e' hb').1 hk hk'
  · intro b hb
    by_cases hbs : b = slot
    · subst hbs; rw [hgets] at hb; cases hb
    · rw [hget b hbs] at hb
      rw [hβother b hbs]
      exact hI.void b (hvoid b hbs hb)
  · subst e
    rcases hblk with h | h
    · omega
    · exact hm h

/-- A new block, told as 'slot'. -/
theorem AInv.alloc {w : World} {S : Nat → Prop} {β : Bmap} {H : AHeap} (hI : AInv w S β H) (slot : Nat) (hv : H[slot]? = some Blk.void) (vs : Array Value) (T : TypeId) (ds : List D)
    (hds : ∀ (i : Nat) (d : D), ds[i]? = some d → ∃ v, vs[i]? = some v ∧ v.oneCell' = true ∧ Rel w S β d v) :
    ∃ β', AInv (w.alloc (.cells vs T)) S β' (H.set slot (.live ds)) ∧ Evo w S β H (w.alloc (.cells vs T)) S β' (H.set slot (.live ds)) ∧ Bk β' slot (some (w.heap.size, 0)) := by
  have hlt : slot < H.length := (List.getElem?_eq_some_iff.1 hv).1
  have hβv := hI.void slot hv
  refine ⟨β.set slot (some (some (w.heap.size, 0))), ?_⟩
  have hb' : Bk (β.set slot (some (some (w.heap.size, 0)))) slot (some (w.heap.size, 0)) := by
    unfold Bk; exact List.getElem?_set_self (by rw [hI.len]; exact hlt)
  have := hI.step (w' := w.alloc (.cells vs T)) (β' := β.set slot (some (some (w.heap.size, 0)))) (H1 := H) slot w.heap.size 0 vs T (0, 0) ds rfl rfl (by simp)
    (fun b hb _ => by first | exact heap_alloc_old w _ b hb | exact heap_alloc_old w _ hb)
    (fun b x h => by
      have : b ≠ w.heap.size := fun e => by subst e; simp [World.shape?] at h
      simp only [World.shape?, World.alloc, Array.getElem?_push, this, if_false] at h ⊢
      exact h)
    (.inl (Nat.le_refl _)) (heap_alloc_new w _) (.inl (Nat.le_refl _)) rfl hlt
    (fun b' c hne hl => ⟨hl, fun off' hk => by
      rcases hI.live b' c hl with ⟨_, h⟩ | ⟨b0, o, vs0, T0, fr0, h3, _, _, h6⟩
      · unfold Bk at *; rw [hk] at h; cases h
      · unfold Bk at *; rw [hk] at h3; cases h3
        have := (Array.getElem?_eq_some_iff.1 h6.heap).1
        omega⟩)
    (fun _ _ _ h => h) (fun _ _ h => h) (by simp) (fun b' hne => List.getElem?_set_ne (Ne.symm hne)) hb'
    (fun x h => by unfold Bk at h; rw [hβv] at h; cases h)
    (fun i d hd => by simpa using hds i d hd)
  exact ⟨this.1, this.2, hb'⟩

theorem AInv.sameHeap {w w' : World} {S : Nat → Prop} {β : Bmap} {H : AHeap} (hI : AInv w S β H) (hh : w'.heap = w.heap) (hos : w'.os = w.os) (hout : w'.output = w.output) :
    AInv w' S β H ∧ Evo w S β H w' S β H := by
  have keep : ∀ {d v}, Rel w S β d v → Rel w' S β d v := fun h => h.keep (fun b _ => by rw [hh]) (fun _ h => h) (fun _ _ h => h) (fun b x h => by simpa [World.shape?, hh] using h)
  have lies : ∀ {cs b0 o vs0 T0 fr0}, Lies w S β cs b0 o vs0 T0 fr0 → Lies w' S β cs b0 o vs0 T0 fr0 := fun h =>
    ⟨by rw [hh]; exact h.heap, h.one, fun i d hd => let ⟨v, h1, h2⟩ := h.cell i d hd; ⟨v, h1, keep h2⟩⟩
  refine ⟨⟨hI.len, fun b cs h => ?_, fun b cs h => ?_, hI.apart, hI.old.evo (fun b _ => by rw [hh]) (fun _ h => h) (fun b h => by rw [hh]; exact hI.old b h), hI.void⟩,
    ⟨hos, hout, by rw [hh]; exact Nat.le_refl _, fun b _ _ => by rw [hh], fun b x h => by simpa [World.shape?, hh] using h, fun _ h => h, fun _ _ h => h, fun _ h => .inl h, fun _ h => .inl h⟩⟩
  · rcases hI.live b cs h with h | ⟨b0, o, vs0, T0, fr0, h3, h4, h5, h6⟩
    · exact .inl h
    · exact .inr ⟨b0, o, vs0, T0, fr0, h3, h4, h5, lies h6⟩
  · rcases hI.froz b cs h with h | ⟨b0, o, vs0, T0, fr0, h3, h4, h6⟩
    · exact .inl h
    · exact .inr ⟨b0, o, vs0, T0, fr0, h3, h4, lies h6⟩

/-- A new block that is never written again, told by no name: 'S' has it. -/
theorem AInv.allocPure {w : World} {S : Nat → Prop} {β : Bmap} {H : AHeap} (hI : AInv w S β H) (o : Obj) :
    AInv (w.alloc o) (fun b => S b ∨ b = w.heap.size) β H ∧ Evo w S β H (w.alloc o) (fun b => S b ∨ b = w.heap.size) β H := by
  have hold : ∀ b, b < w.heap.size → (w.alloc o).heap[b]? = w.heap[b]? := fun b hb => by first | exact heap_alloc_old w o b hb | exact heap_alloc_old w o hb
  have hshape : ∀ b x, w.shape? b = some x → (w.alloc o).shape? b = some x := fun b x h => by
    have : b ≠ w.heap.size := fun e => by subst e; simp [World.shape?] at h
    simp only [World.shape?, World.alloc, Array.getElem?_push, this, if_false] at h ⊢
    exact h
  have keep : ∀ {d v}, Rel w S β d v → Rel (w.alloc o) (fun b => S b ∨ b = w.heap.size) β d v := fun h => h.keep (fun b hb => hold b (hI.old b hb)) (fun _ h => .inl h) (fun _ _ h => h) hshape
  have lies : ∀ {cs b0 o1 vs0 T0 fr0}, Lies w S β cs b0 o1 vs0 T0 fr0 → Lies (w.alloc o) (fun b => S b ∨ b = w.heap.size) β cs b0 o1 vs0 T0 fr0 := fun h =>
    ⟨by rw [hold _ (Array.getElem?_eq_some_iff.1 h.heap).1]; exact h.heap, h.one, fun i d hd => let ⟨v, h1, h2⟩ := h.cell i d hd; ⟨v, h1, keep h2⟩⟩
  refine ⟨⟨hI.len, fun b cs h => ?_, fun b cs h => ?_, hI.apart, hI.old.evo (fun b hb => hold b (hI.old b hb)) (fun _ h => .inl h) (fun b h => ?_), hI.void⟩,
    ⟨rfl, rfl, by simp, fun b hb _ => hold b hb, hshape, fun _ h => .inl h, fun _ _ h => h, fun b h => ?_, fun _ h => .inl h⟩⟩
  · rcases hI.live b cs h with h | ⟨b0, o, vs0, T0, fr0, h3, h4, h5, h6⟩
    · exact .inl h
    · exact .inr ⟨b0, o, vs0, T0, fr0, h3, fun hs => by
        rcases hs with hs | hs
        · exact h4 hs
        · have := (Array.getElem?_eq_some_iff.1 h6.heap).1; omega, h5, lies h6⟩
  · rcases hI.froz b cs h with h | ⟨b0, o, vs0, T0, fr0, h3, h4, h6⟩
    · exact .inl h
    · exact .inr ⟨b0, o, vs0, T0, fr0, h3, .inl h4, lies h6⟩
  · rcases h with h | h
    · have := hI.old b h; simp; omega
    · simp; omega
  · rcases h with h | h
    · exact .inl h
    · exact .inr (.inr (by omega))

end Go.Proofs.YtlkffgmejcgdbaaDoor

/- The abstract operations are sound, first part: what touches no memory. Of no program. -/
namespace Go.Proofs.YtlkffgmejcgdbaaDoor
set_option linter.all false

structure TyAt (P : Program) (τ : Ty) (t : TypeId) : Prop where
  und : (P.underlying t).map TD.of = some (τ t).td
  info : ∃ i, P.info? t = some i ∧ i.zero = some (τ t).zero ∧ i.size = (τ t).size ∧ i.bytes = (τ t).bytes
  cmp : (τ t).eq = true → (τ t).td.isAgg = false → (P.info? t).map (·.comparable) = some true
  eqv : (τ t).eq = true → (τ t).td.isAgg = true → P.stoodInHeld t = false ∧ P.eqGuardType P.depth t = false ∧ P.underlying t = some (.struct (P.fieldsOf t)) ∧ (P.fieldsOf t).toList.all (fun f => f.name != "_") = true

def TyOk (P : Program) (τ : Ty) : Prop := ∀ t, (τ t).td.known = true → TyAt P τ t

section
variable {P : Program} {τ : Ty}

theorem TyAt.int {t : TypeId} (h : TyAt P τ t) {k : IntKind} (e : (τ t).td = .int k) : P.underlying t = some (.int k) := by
  have := h.und; rw [e] at this
  cases hu : P.underlying t with
  | none => rw [hu] at this; cases this
  | some d => rw [hu] at this; cases d <;> simp [TD.of] at this; rw [this]
theorem TyAt.bool {t : TypeId} (h : TyAt P τ t) (e : (τ t).td = .bool) : P.underlying t = some .bool := by
  have := h.und; rw [e] at this
  cases hu : P.underlying t with
  | none => rw [hu] at this; cases this
  | some d => rw [hu] at this; cases d <;> simp [TD.of] at this; rfl
theorem TyAt.str {t : TypeId} (h : TyAt P τ t) (e : (τ t).td = .str) : P.underlying t = some .string := by
  have := h.und; rw [e] at this
  cases hu : P.underlying t with
  | none => rw [hu] at this; cases this
  | some d => rw [hu] at this; cases d <;> simp [TD.of] at this; rfl
theorem TyAt.slice {t : TypeId} (h : TyAt P τ t) {x : TypeId} (e : (τ t).td = .slice x) : P.underlying t = some (.slice x) := by
  have := h.und; rw [e] at this
  cases hu : P.underlying t with
  | none => rw [hu] at this; cases this
  | some d => rw [hu] at this; cases d <;> simp [TD.of] at this; rw [this]
theorem TyAt.array {t : TypeId} (h : TyAt P τ t) {n : Nat} {x : TypeId} (e : (τ t).td = .array n x) : P.underlying t = some (.array n x) := by
  have := h.und; rw [e] at this
  cases hu : P.underlying t with
  | none => rw [hu] at this; cases this
  | some d => rw [hu] at this; cases d <;> simp [TD.of] at this; rw [this.1, this.2]
theorem TyAt.struct {t : TypeId} (h : TyAt P τ t) {fs : List (Nat × TypeId)} (e : (τ t).td = .struct fs) :
    ∃ g, P.underlying t = some (.struct g) ∧ g.toList.map (fun f => (f.offset, f.type)) = fs := by
  have := h.und; rw [e] at this
  cases hu : P.underlying t with
  | none => rw [hu] at this; cases this
  | some d => rw [hu] at this; cases d <;> simp [TD.of] at this; exact ⟨_, rfl, this⟩

theorem TyAt.run_isAgg {t : TypeId} (h : TyAt P τ t) (w : World) : (isAgg t).run P w = .ok (τ t).td.isAgg w := by
  have hu := h.und
  cases hd : P.underlying t with
  | none => rw [hd] at hu; cases hu
  | some d =>
    rw [hd] at hu
    simp only [Option.map_some, Option.some.injEq] at hu
    rw [← hu]
    cases d <;> simp [isAgg, run_underlying hd, TD.of, TD.isAgg]

theorem TyAt.run_sizeOf {t : TypeId} (h : TyAt P τ t) (w : World) : (sizeOf t).run P w = .ok (τ t).size w := by
  obtain ⟨i, h1, h2, h3, h4⟩ := h.info
  simp [sizeOf, typeInfo, h1, h3]
theorem TyAt.run_zero {t : TypeId} (h : TyAt P τ t) (w : World) : (zeroValue t).run P w = .ok (τ t).zero w := by
  obtain ⟨i, h1, h2, h3, h4⟩ := h.info
  simp [zeroValue, typeInfo, h1, h2]

theorem TD.known_of {d e : TD} (h : d = e) (he : e.known = true) : d.known = true := h ▸ he

/-- The run of 's' comes to what 'r' tells, if what 'r' asks holds. -/
def OpOk (P : Program) (w : World) (S : Nat → Prop) (β : Bmap) (H : AHeap) (s : Sem Value) (r : R) : Prop :=
  r.ob → ∃ v w' S' β', s.run P w = .ok v w' ∧ AInv w' S' β' r.H ∧ Evo w S β H w' S' β' r.H ∧ Rel w' S' β' r.d v

variable {w : World} {S : Nat → Prop} {β : Bmap} {H : AHeap}

theorem OpOk.same (hI : AInv w S β H) {s : Sem Value} {ob : Prop} {d : D} (h : ob → ∃ v, s.run P w = .ok v w ∧ Rel w S β d v) : OpOk P w S β H s ⟨ob, d, H⟩ := fun ho =>
  let ⟨v, h1, h2⟩ := h ho
  ⟨v, w, S, β, h1, hI, Evo.refl _ _ _ _, h2⟩

theorem OpOk.bad {s : Sem Value} : OpOk P w S β H s bad := fun h => h.elim

theorem Rel.wrapped (k : IntKind) (n : Int) : Rel w S β (.int k (k.wrap n)) (.int k (k.wrap n)) := .int _ _ (wrap_within k n).1 (wrap_within k n).2

theorem tmod_within {k : IntKind} {a b : Int} (h1 : k.min ≤ a) (h2 : a ≤ k.max) : k.min ≤ a.tmod b ∧ a.tmod b ≤ k.max := by
  have hmin : k.min ≤ 0 := by cases k <;> decide
  have hmax : 0 ≤ k.max := by cases k <;> decide
  rcases Int.le_total 0 a with h | h
  · have := Int.tmod_nonneg b h
    have h3 : a.tmod b ≤ a := by
      have e := Int.natAbs_tmod a b
      have := Nat.mod_le a.natAbs b.natAbs
      omega
    omega
  · have h3 : a ≤ a.tmod b ∧ a.tmod b ≤ 0 := by
      have e : a.tmod b = - ((-a).tmod b) := by rw [Int.neg_tmod]; omega
      have h4 := Int.tmod_nonneg b (show 0 ≤ -a by omega)
      have h5 : (-a).tmod b ≤ -a := by
        have e := Int.natAbs_tmod (-a) b
        have := Nat.mod_le (-a).natAbs b.natAbs
        omega
      omega
    omega

theorem fdiv_within {k : IntKind} {a : Int} (n : Nat) (h1 : k.min ≤ a) (h2 : a ≤ k.max) : k.min ≤ a.fdiv (2 ^ n) ∧ a.fdiv (2 ^ n) ≤ k.max := by
  have hmin : k.min ≤ 0 := by cases k <;> decide
  have hmax : 0 ≤ k.max := by cases k <;> decide
  have hp : (0 : Int) < 2 ^ n := Int.pow_pos (by decide)
  rw [Int.fdiv_eq_ediv_of_nonneg _ (Int.le_of_lt hp)]
  rcases Int.le_total 0 a with h | h
  · have h3 := Int.ediv_nonneg h (Int.le_of_lt hp)
    have h4 := Int.ediv_le_self (2 ^ n) h
    omega
  · have h3 : a / 2 ^ n ≤ 0 := by
      have := Int.ediv_le_ediv hp h
      simpa using this
    have h4 : a ≤ a / 2 ^ n := by
      rw [Int.le_ediv_iff_mul_le hp]
      have : a * 2 ^ n ≤ a * 1 := Int.mul_le_mul_of_nonpos_left h (by omega)
      omega
    omega

theorem int_ok (hI : AInv w S β H) (op : BinOp) (t : TypeId) (X Y : Operand) (k k' : IntKind) (a b : Int) (h1 : k.min ≤ a) (h2 : a ≤ k.max) :
    OpOk P w S β H (do eqGuard op t X Y (.int k a) (.int k' b); binOp op t (.int k a) (.int k' b)) (aInt op k a k' b H) := by
  cases op <;> simp only [aInt] <;> refine OpOk.same hI fun ho => ?_
  case shl =>
    refine ⟨_, ?_, Rel.wrapped k _⟩
    simp [eqGuard, binOp, Op.shift, Int.not_lt.2 ho]
  case shr =>
    refine ⟨_, ?_, .int _ _ (fdiv_within _ h1 h2).1 (fdiv_within _ h1 h2).2⟩
    simp [eqGuard, binOp, Op.shift, Int.not_lt.2 ho]
  case quo =>
    obtain ⟨rfl, hb⟩ := ho
    refine ⟨_, ?_, Rel.wrapped k _⟩
    simp [eqGuard, binOp, Op.intDiv, hb]
  case rem =>
    obtain ⟨rfl, hb⟩ := ho
    refine ⟨_, ?_, .int _ _ (tmod_within h1 h2).1 (tmod_within h1 h2).2⟩
    simp [eqGuard, binOp, Op.intDiv, hb]
  all_goals
    subst ho
    first
      | (refine ⟨_, ?_, Rel.wrapped k _⟩; simp [eqGuard, binOp, Op.intArith, Op.intBits, Op.intCmp]; done)
      | (refine ⟨_, ?_, .bool _⟩; simp [eqGuard, binOp, Op.intArith, Op.intBits, Op.intCmp]; done)

theorem str_ok (hI : AInv w S β H) (op : BinOp) (t : TypeId) (X Y : Operand) (a b : List UInt8) (h1 : a.length ≤ maxLen) (h2 : b.length ≤ maxLen) :
    OpOk P w S β H (do eqGuard op t X Y (.string ⟨⟨a⟩⟩) (.string ⟨⟨b⟩⟩); binOp op t (.string ⟨⟨a⟩⟩) (.string ⟨⟨b⟩⟩)) (aStr op a b H) := by
  have ea : (⟨⟨a⟩⟩ : ByteArray).toList = a := ByteArray.toList_mk a
  have eb : (⟨⟨b⟩⟩ : ByteArray).toList = b := ByteArray.toList_mk b
  cases op <;> simp only [aStr] <;> first
    | exact OpOk.bad
    | (refine OpOk.same hI fun ho => ?_)
  case add =>
    refine ⟨.string ⟨⟨a ++ b⟩⟩, ?_, .str _ (by simpa using ho)⟩
    have hs : (⟨⟨a⟩⟩ : ByteArray).size + (⟨⟨b⟩⟩ : ByteArray).size ≤ 9223372036854775807 := by
      simp only [ByteArray.size, List.size_toArray, maxLen] at *; omega
    have := run_string_add_sum (P := P) (w := w) ⟨⟨a⟩⟩ ⟨⟨b⟩⟩ hs
    have e2 := ByteArray.mk_append_mk a b
    simp only [e2] at this
    simp [eqGuard, binOp, this]
  all_goals
    refine ⟨_, ?_, .bool _⟩
    simp [eqGuard, binOp, Op.stringOp, ea, eb]

end
end Go.Proofs.YtlkffgmejcgdbaaDoor

/- The abstract operations are sound, second part: equality, conversions of numbers, slices, places, loads. Of no program. -/
namespace Go.Proofs.YtlkffgmejcgdbaaDoor
set_option linter.all false
section
variable {P : Program} {τ : Ty} {w : World} {S : Nat → Prop} {β : Bmap} {H : AHeap}

theorem part_one (hT : TyOk P τ) {t : TypeId} (hk : (τ t).td.known = true) (ha : (τ t).td.isAgg = false) (cs : Array Value) (off : Nat) (v : Value) (h : cs[off]? = some v) (w : World) :
    (part t cs off).run P w = .ok v w := by
  simp [part, (hT t hk).run_isAgg, ha, h]

/-- Cells of one kind each, read off a value's cells. -/
theorem eqFields_ok (hT : TyOk P τ) (xs ys : List D) (vx vy : Array Value)
    (hx : ∀ (i : Nat) (d : D) (v : Value), xs[i]? = some d → vx[i]? = some v → Rel w S β d v) (hy : ∀ (i : Nat) (d : D) (v : Value), ys[i]? = some d → vy[i]? = some v → Rel w S β d v)
    (lx : vx.size = xs.length) (ly : vy.size = ys.length) (n : Nat) :
    ∀ (g : List Field) (i : Nat), g.all (fun f => f.name != "_") = true → flatTD τ (g.map fun f => (f.offset, f.type)) i (xs.drop i) = true → flatTD τ (g.map fun f => (f.offset, f.type)) i (ys.drop i) = true →
      (Op.eqFields (n + 1) vx vy g).run P w = .ok (eqCells (xs.drop i) (ys.drop i)) w := by
  intro g
  induction g with
  | nil =>
    intro i _ h1 h2
    cases hxs : xs.drop i with
    | cons _ _ => rw [hxs] at h1; simp [flatTD] at h1
    | nil =>
      cases hys : ys.drop i with
      | cons _ _ => rw [hys] at h2; simp [flatTD] at h2
      | nil => simp [Op.eqFields, eqCells]
  | cons f g ih =>
    intro i hn h1 h2
    simp only [List.all_cons, Bool.and_eq_true] at hn
    cases hxs : xs.drop i with
    | nil => rw [hxs] at h1; simp [flatTD] at h1
    | cons dx rx =>
      cases hys : ys.drop i with
      | nil => rw [hys] at h2; simp [flatTD] at h2
      | cons dy ry =>
        rw [hxs] at h1
        rw [hys] at h2
        simp only [List.map_cons, flatTD, Bool.and_eq_true, decide_eq_true_eq] at h1 h2
        have exi : xs[i]? = some dx := by
          have := congrArg (·[0]?) hxs
          simpa using this
        have eyi : ys[i]? = some dy := by
          have := congrArg (·[0]?) hys
          simpa using this
        have exr : xs.drop (i + 1) = rx := by
          have := congrArg List.tail hxs
          simpa [List.tail_drop] using this
        have eyr : ys.drop (i + 1) = ry := by
          have := congrArg List.tail hys
          simpa [List.tail_drop] using this
        obtain ⟨u, hu⟩ : ∃ u, vx[i]? = some u := ⟨vx[i]'(by rw [lx]; exact (List.getElem?_eq_some_iff.1 exi).1), by simp⟩
        obtain ⟨v, hv⟩ : ∃ v, vy[i]? = some v := ⟨vy[i]'(by rw [ly]; exact (List.getElem?_eq_some_iff.1 eyi).1), by simp⟩
        have rx1 := hx i dx u exi hu
        have ry1 := hy i dy v eyi hv
        have ih' := ih (i + 1) hn.2 (by rw [exr]; exact h1.2) (by rw [eyr]; exact h2.2)
        rw [exr, eyr] at ih'
        have hname : f.name ≠ "_" := by simpa using hn.1
        obtain ⟨⟨hoff, hk⟩, _⟩ := h1
        obtain ⟨⟨_, hk2⟩, _⟩ := h2
        have p1 : ∀ hkn : (τ f.type).td.known = true, (τ f.type).td.isAgg = false → (part f.type vx f.offset).run P w = .ok u w := fun hkn ha => part_one hT hkn ha vx f.offset _ (by rw [hoff]; exact hu) w
        have p2 : ∀ hkn : (τ f.type).td.known = true, (τ f.type).td.isAgg = false → (part f.type vy f.offset).run P w = .ok v w := fun hkn ha => part_one hT hkn ha vy f.offset _ (by rw [hoff]; exact hv) w
        cases htd : (τ f.type).td with
        | int k =>
          have hkn : (τ f.type).td.known = true := by rw [htd]; rfl
          have q1 := p1 hkn (by rw [htd]; rfl)
          have q2 := p2 hkn (by rw [htd]; rfl)
          rw [htd] at hk hk2
          cases rx1 <;> simp at hk
          cases ry1 <;> simp at hk2
          subst hk; subst hk2
          simp only [Op.eqFields, hname, ne_eq, not_false_eq_true, if_true, Sem.run_bind, q1, q2, Result.andThen_ok, run_equalIn_int w n f.type _ _ _ _ ((hT _ hkn).int htd), eqCells, Sem.run_ite, ih', Sem.run_pure]
          split <;> simp_all
        | bool =>
          have hkn : (τ f.type).td.known = true := by rw [htd]; rfl
          have q1 := p1 hkn (by rw [htd]; rfl)
          have q2 := p2 hkn (by rw [htd]; rfl)
          rw [htd] at hk hk2
          cases rx1 <;> simp at hk
          cases ry1 <;> simp at hk2
          simp only [Op.eqFields, hname, ne_eq, not_false_eq_true, if_true, Sem.run_bind, q1, q2, Result.andThen_ok, run_equalIn_bool' w n f.type _ _ ((hT _ hkn).bool htd), eqCells, Sem.run_ite, ih', Sem.run_pure]
          split <;> simp_all
        | str =>
          have hkn : (τ f.type).td.known = true := by rw [htd]; rfl
          have q1 := p1 hkn (by rw [htd]; rfl)
          have q2 := p2 hkn (by rw [htd]; rfl)
          rw [htd] at hk hk2
          cases rx1 <;> simp at hk
          cases ry1 <;> simp at hk2
          simp only [Op.eqFields, hname, ne_eq, not_false_eq_true, if_true, Sem.run_bind, q1, q2, Result.andThen_ok, run_equalIn_string w n f.type _ _ ((hT _ hkn).str htd), eqCells, Sem.run_ite, ih', Sem.run_pure, ByteArray.toList_mk]
          split <;> simp_all
        | _ => rw [htd] at hk; simp at hk

theorem eq_nil (w : World) (d : Nat) {t e : TypeId} (a : Option Addr) (l c : Nat) (h : P.underlying t = some (.slice e)) : (Op.equalIn (d + 1) t (.slice a l c) (.slice none 0 0)).run P w = .ok a.isNone w := by
  cases a <;> simp [Op.equalIn, run_underlying h]

theorem nil_ok (hT : TyOk P τ) (hI : AInv w S β H) (op : BinOp) (t : TypeId) (X Y : Operand) {x y : D} {vx vy : Value} (hx : Rel w S β x vx) (hy : Rel w S β y vy) :
    OpOk P w S β H (do eqGuard op t X Y vx vy; binOp op t vx vy) (aNilB τ op t x y H) := by
  unfold aNilB
  cases hy <;> simp only <;> first | exact OpOk.bad | skip
  have key : ∀ (a : Option Addr) (n c : Nat) (r : D), vx = .slice a n c → (∀ S β, Rel w S β r (.bool a.isNone)) → (∀ S β, Rel w S β (notD r) (.bool (!a.isNone))) →
      OpOk P w S β H (do eqGuard op t X Y vx (.slice none 0 0); binOp op t vx (.slice none 0 0)) (match op with
      | .eql => ⟨∃ e, (τ t).td = .slice e, r, H⟩
      | .neq => ⟨∃ e, (τ t).td = .slice e, notD r, H⟩
      | _ => bad) := by
    intro a n c r e h1 h2
    subst e
    cases op <;> simp only <;> first | exact OpOk.bad | skip
    all_goals
      refine OpOk.same hI fun ho => ?_
      obtain ⟨e, htd⟩ := ho
      have hu := (hT t (by rw [htd]; rfl)).slice htd
    · refine ⟨_, ?_, h1 S β⟩
      have := eq_nil (P := P) w 9999 a n c hu
      simp [eqGuard, binOp, Op.equal, Op.maxDepth, this]
    · refine ⟨_, ?_, h2 S β⟩
      have := eq_nil (P := P) w 9999 a n c hu
      simp [eqGuard, binOp, Op.equal, Op.maxDepth, this]
  cases hx <;> simp only [isNilD] <;> first | exact OpOk.bad | skip
  · exact key none 0 0 _ rfl (fun _ _ => .bool true) (fun _ _ => .bool false)
  · exact key none 0 0 _ rfl (fun _ _ => .bit true) (fun _ _ => .bit false)
  · rename_i sz es tight ad cap vf h1 h2 h3 h4 h5 h6
    cases es.isEmpty
    · exact key (some ad) es.length cap _ rfl (fun _ _ => .bool false) (fun _ _ => .bool true)
    · exact key (some ad) es.length cap _ rfl (fun _ _ => .bit false) (fun _ _ => .bit true)
  · rename_i b o len sz blk off cap h1 h2 h3 T n h4 h5
    cases (len == 0)
    · exact key _ len cap _ rfl (fun _ _ => .bool false) (fun _ _ => .bool true)
    · exact key _ len cap _ rfl (fun _ _ => .bit false) (fun _ _ => .bit true)
  · rename_i b o sz a
    exact key a 0 0 _ rfl (fun _ _ => .bit _) (fun _ _ => .bit _)
  · rename_i b o len sz cap blk off h1 h2 h3 T n h4 h5
    cases (len == 0)
    · exact key _ len cap _ rfl (fun _ _ => .bool false) (fun _ _ => .bool true)
    · exact key _ len cap _ rfl (fun _ _ => .bit false) (fun _ _ => .bit true)
  · rename_i b o sz a
    exact key a 0 0 _ rfl (fun _ _ => .bit _) (fun _ _ => .bit _)

theorem TyAt.iface {t : TypeId} (h : TyAt P τ t) (e : (τ t).td = .iface) : ∃ ms, P.underlying t = some (.interface ms) := by
  have := h.und; rw [e] at this
  cases hu : P.underlying t with
  | none => rw [hu] at this; cases this
  | some d => rw [hu] at this; cases d <;> simp [TD.of] at this; exact ⟨_, rfl⟩

theorem if_ok (hT : TyOk P τ) (hI : AInv w S β H) (op : BinOp) (t : TypeId) (X Y : Operand) {x y : D} {vx vy : Value} (hx : Rel w S β x vx) (hy : Rel w S β y vy) :
    OpOk P w S β H (do eqGuard op t X Y vx vy; binOp op t vx vy) (aIf τ op t x y H) := by
  unfold aIf
  cases hx <;> simp only <;> first | exact OpOk.bad | skip
  rename_i tx dx ux hdx
  cases hy <;> simp only <;> first | exact OpOk.bad | skip
  · cases op <;> simp only <;> first | exact OpOk.bad | skip
    all_goals
      refine OpOk.same hI fun ho => ⟨_, ?_, .bool _⟩
      obtain ⟨ms, hu⟩ := (hT t (by rw [ho]; rfl)).iface ho
      have h0 : (Op.equalIn (9999 + 1) t (.iface tx ux) .nilIface).run P w = .ok false w := by
        rw [Op.equalIn]
        simp [run_underlying hu]
      simp [eqGuard, binOp, Op.equal, Op.maxDepth, h0]
  · rename_i ty dy uy hdy
    cases hdx <;> simp only <;> first | exact OpOk.bad | skip
    cases hdy <;> simp only <;> first | exact OpOk.bad | skip
    cases op <;> simp only <;> first | exact OpOk.bad | skip
    rename_i k a h1 h2 k' b h3 h4
    refine OpOk.same hI fun ho => ⟨_, ?_, .bool _⟩
    obtain ⟨ho, rfl, rfl, htx, heq⟩ := ho
    obtain ⟨ms, hu⟩ := (hT t (by rw [ho]; rfl)).iface ho
    have hx := hT tx (by rw [htx]; rfl)
    have h0 := Lib.run_eql_iface_int (P := P) w a b hu (hx.cmp heq (by rw [htx]; rfl)) (hx.int htx) (k := k)
    simp [eqGuard, h0]

theorem nilX_ok (hT : TyOk P τ) (hI : AInv w S β H) (op : BinOp) (t : TypeId) (X Y : Operand) {x y : D} {vx vy : Value} (hx : Rel w S β x vx) (hy : Rel w S β y vy) :
    OpOk P w S β H (do eqGuard op t X Y vx vy; binOp op t vx vy) (aNilX τ op t x y H) := by
  cases y <;> simp only [aNilX] <;> first | exact nil_ok hT hI op t X Y hx hy | exact if_ok hT hI op t X Y hx hy

theorem bin_ok (hT : TyOk P τ) (hI : AInv w S β H) (op : BinOp) (t : TypeId) (X Y : Operand) {x y : D} {vx vy : Value} (hx : Rel w S β x vx) (hy : Rel w S β y vy) :
    OpOk P w S β H (do eqGuard op t X Y vx vy; binOp op t vx vy) (aBin τ op t x y H) := by
  have hx0 := hx
  cases hx with
  | int k a h1 h2 =>
    cases hy <;> simp only [aBin] <;> first | exact OpOk.bad | exact int_ok hI op t X Y k _ a _ h1 h2
  | str a h1 =>
    cases hy <;> simp only [aBin] <;> first | exact OpOk.bad | (rename_i h2; exact str_ok hI op t X Y a _ h1 h2)
  | bool a =>
    cases hy <;> simp only [aBin] <;> first | exact OpOk.bad | skip
    rename_i b
    cases op <;> simp only <;> first | exact OpOk.bad | skip
    all_goals
      refine OpOk.same hI fun ho => ⟨_, ?_, .bool _⟩
      have hu := (hT t (by rw [ho]; rfl)).bool ho
      have := run_equalIn_bool' (P := P) w 9999 t a b hu
      simp [eqGuard, binOp, Op.equal, Op.maxDepth, this]
  | agg xs vx lx ox rx =>
    cases hy <;> simp only [aBin] <;> first | exact OpOk.bad | skip
    rename_i ys vy ly oy ry
    cases op <;> simp only <;> first | exact OpOk.bad | skip
    all_goals
      refine OpOk.same hI fun ho => ⟨_, ?_, .bool _⟩
      obtain ⟨fs, htd, heq, f1, f2⟩ := ho
      have hta := hT t (by rw [htd]; rfl)
      obtain ⟨e1, e2, e3, e4⟩ := hta.eqv heq (by rw [htd]; rfl)
      obtain ⟨g, hg, hgf⟩ := hta.struct htd
      rw [e3] at hg
      cases hg
      have := eqFields_ok (P := P) hT xs ys vx vy rx ry lx ly 9998 (P.fieldsOf t).toList 0 e4 (by rw [hgf]; simpa using f1) (by rw [hgf]; simpa using f2)
      simp only [Sem.run_bind, run_eqGuard_agg _ _ _ _ _ _ _ e2, Result.andThen_ok, run_eql_struct, run_neq_struct, run_equalIn_struct w 9999 t vx vy e3 e1, this]
      simp
  | _ => simp only [aBin]; exact nilX_ok hT hI op t X Y (by first | exact hx0 | assumption) hy

theorem binC_ok (hT : TyOk P τ) (hI : AInv w S β H) (op : BinOp) (t : TypeId) (X Y : Operand) {x y : D} {vx vy : Value} (hx : Rel w S β x vx) (hy : Rel w S β y vy) :
    OpOk P w S β H (do eqGuard op t X Y vx vy; binOp op t vx vy) (aBinC τ op t x y (constOp X || constOp Y) H) := by
  by_cases h : x = .niface ∧ y = .niface
  · obtain ⟨rfl, rfl⟩ := h
    cases hx
    cases hy
    cases op <;> simp only [aBinC] <;> first | exact OpOk.bad | skip
    all_goals
      refine OpOk.same hI fun ho => ⟨_, ?_, .bool _⟩
      obtain ⟨ho, hc⟩ := ho
      obtain ⟨ms, hu⟩ := (hT t (by rw [ho]; rfl)).iface ho
      have h0 : (Op.equalIn (9999 + 1) t .nilIface .nilIface).run P w = .ok true w := by
        rw [Op.equalIn]
        simp [run_underlying hu]
      cases X <;> cases Y <;> simp_all [constOp, eqGuard, binOp, Op.equal, Op.maxDepth]
  · have hxx := hx
    cases x <;> simp only [aBinC] <;> first | exact bin_ok hT hI op t X Y hx hy | skip
    cases y <;> simp only <;> first | exact OpOk.bad | exact absurd ⟨rfl, rfl⟩ h

theorem un_ok (hI : AInv w S β H) (op : UnOp) {x : D} {v : Value} (hx : Rel w S β x v) : OpOk P w S β H (Op.unary op v) (aUn op x H) := by
  cases op <;> cases hx <;> simp only [aUn] <;> first | exact OpOk.bad | skip
  · refine OpOk.same hI fun _ => ⟨_, ?_, Rel.wrapped _ _⟩
    simp only [Op.unary, Op.intArith, Sem.run_pure]
  · refine OpOk.same hI fun _ => ⟨_, ?_, Rel.wrapped _ _⟩
    simp only [Op.unary, Op.intBits, Sem.run_pure]
  · refine OpOk.same hI fun _ => ⟨_, ?_, .bool _⟩
    simp only [Op.unary, Sem.run_pure]
  · rename_i b
    refine OpOk.same hI fun _ => ⟨.bool (!b), ?_, .bit _⟩
    simp only [Op.unary, Sem.run_pure]
end
end Go.Proofs.YtlkffgmejcgdbaaDoor

/- The abstract operations are sound, third part: places, parts, loads, slices. Of no program. -/
namespace Go.Proofs.YtlkffgmejcgdbaaDoor
set_option linter.all false
section
variable {P : Program} {τ : Ty} {w : World} {S : Nat → Prop} {β : Bmap} {H : AHeap}

theorem addr_add (a : Addr) (m j : Nat) : (a.add m).add j = a.add (m + j) := by
  unfold Addr.add
  by_cases hm : m = 0
  · subst hm; simp
  · by_cases hj : j = 0
    · subst hj; simp [hm]
    · simp [hm, hj, Nat.add_assoc]

theorem addr_block (a : Addr) (m : Nat) : (a.add m).block = a.block := by unfold Addr.add; split <;> rfl

theorem addr_at (b o m : Nat) : (⟨b, o, none⟩ : Addr).add m = ⟨b, o + m, none⟩ := by unfold Addr.add; split <;> simp_all

theorem part_ok (hT : TyOk P τ) {t : TypeId} {cs : List D} {vs : Array Value} (hr : Rel w S β (.agg cs) (.agg vs)) {off : Nat} (ho : partOb (τ t) cs off) :
    ∃ v, (part t vs off).run P w = .ok v w ∧ Rel w S β (partD (τ t) cs off) v := by
  obtain ⟨hk, ho⟩ := ho
  have ht := hT t hk
  cases hr with
  | agg _ _ h1 h0 h2 =>
  cases ha : (τ t).td.isAgg with
  | true =>
    rw [ha, if_pos rfl] at ho
    refine ⟨.agg (vs.extract off (off + (τ t).size)), by simp [part, ht.run_isAgg, ha, ht.run_sizeOf], ?_⟩
    simp only [partD, ha, if_true]
    refine .agg _ _ (by simp; omega) (fun i v hv => ?_) (fun i d v hd hv => ?_)
    · rw [Array.getElem?_extract] at hv
      split at hv
      · exact h0 _ _ hv
      · cases hv
    · rw [Array.getElem?_extract] at hv
      rw [List.getElem?_take, List.getElem?_drop] at hd
      split at hv
      · split at hd
        · exact h2 _ _ _ hd hv
        · cases hd
      · cases hv
  | false =>
    rw [ha] at ho
    simp only [Bool.false_eq_true, if_false] at ho
    have hlt : off < vs.size := by omega
    refine ⟨vs[off], by simp [part, ht.run_isAgg, ha, hlt], ?_⟩
    simp only [partD, ha, Bool.false_eq_true, if_false]
    exact h2 off _ _ (by simp [List.getD, List.getElem?_eq_getElem ho]) (by simp [hlt])

theorem loadVar_ok (hT : TyOk P τ) {t : TypeId} {cs : List D} {a : Addr} (hc : ∀ (j : Nat) (d : D), cs[j]? = some d → ∃ v, w.cell? (a.add j) = some v ∧ v.oneCell' = true ∧ Rel w S β d v) (ho : partOb (τ t) cs 0) :
    ∃ v, (loadVar t a).run P w = .ok v w ∧ Rel w S β (partD (τ t) cs 0) v := by
  obtain ⟨hk, ho⟩ := ho
  have ht := hT t hk
  cases ha : (τ t).td.isAgg with
  | true =>
    rw [ha, if_pos rfl] at ho
    have hex : ∀ j, ∃ v, j < cs.length → w.cell? (a.add j) = some v ∧ v.oneCell' = true ∧ ∃ d, cs[j]? = some d ∧ Rel w S β d v := fun j => by
      by_cases hj : j < cs.length
      · obtain ⟨v, h1, h2, h3⟩ := hc j _ (List.getElem?_eq_getElem hj)
        exact ⟨v, fun _ => ⟨h1, h2, _, List.getElem?_eq_getElem hj, h3⟩⟩
      · exact ⟨undef, fun h => absurd h hj⟩
    let f : Nat → Value := fun j => Classical.choose (hex j)
    have hf : ∀ j, j < cs.length → w.cell? (a.add j) = some (f j) ∧ (f j).oneCell' = true ∧ ∃ d, cs[j]? = some d ∧ Rel w S β d (f j) := fun j => Classical.choose_spec (hex j)
    have hl := run_loadCells (P := P) w a (τ t).size f (fun j hj => (hf j (by omega)).1)
    refine ⟨.agg ((List.range (τ t).size).map f).toArray, by simp [loadVar, ht.run_isAgg, ha, ht.run_sizeOf, hl], ?_⟩
    simp only [partD, ha, if_true, List.drop_zero]
    refine .agg _ _ (by simp; omega) (fun i v hv => ?_) (fun i d v hd hv => ?_)
    · simp only [List.getElem?_toArray, List.getElem?_map] at hv
      by_cases hi : i < (τ t).size
      · simp [hi] at hv; subst hv; exact (hf i (by omega)).2.1
      · simp [hi] at hv
    · simp only [List.getElem?_toArray, List.getElem?_map] at hv
      rw [List.getElem?_take] at hd
      by_cases hi : i < (τ t).size
      · simp [hi] at hv hd
        subst hv
        obtain ⟨_, _, d', h1, h2⟩ := hf i (by omega)
        rw [hd] at h1; cases h1; exact h2
      · simp [hi] at hd
  | false =>
    rw [ha] at ho
    simp only [Bool.false_eq_true, if_false] at ho
    obtain ⟨v, h1, h2, h3⟩ := hc 0 _ (List.getElem?_eq_getElem ho)
    have ha0 : a.add 0 = a := by unfold Addr.add; simp
    rw [ha0] at h1
    refine ⟨v, by simp [loadVar, ht.run_isAgg, ha, h1], ?_⟩
    simp only [partD, ha, Bool.false_eq_true, if_false]
    simpa [List.getD, List.getElem?_eq_getElem ho] using h3

theorem partD_drop (r : TyRow) (cs : List D) (o : Nat) : partD r cs o = partD r (cs.drop o) 0 := by
  simp [partD, List.getD, List.getElem?_drop]

theorem partOb_drop {r : TyRow} {cs : List D} {o : Nat} (h : partOb r cs o) : partOb r (cs.drop o) 0 := by
  refine ⟨h.1, ?_⟩
  have h2 := h.2
  cases ha : r.td.isAgg <;> simp [ha] at h2 ⊢ <;> omega

/-- What is told of a block's cells is so. -/
theorem AInv.cellsAt (hI : AInv w S β H) {b : Nat} {cs : List D} (h : cellsAt H b = some cs) {blk off : Nat} (hk : Bk β b (some (blk, off))) :
    ∀ (j : Nat) (d : D), cs[j]? = some d → ∃ v, w.cell? ⟨blk, off + j, none⟩ = some v ∧ v.oneCell' = true ∧ Rel w S β d v := by
  intro j d hd
  unfold Go.Proofs.YtlkffgmejcgdbaaDoor.cellsAt at h
  cases hb : H[b]? with
  | none => rw [hb] at h; cases h
  | some x =>
    rw [hb] at h
    simp only [Option.bind_some] at h
    have key : (cs = [] ∧ Bk β b none) ∨ ∃ blk off vs T fr, Bk β b (some (blk, off)) ∧ Lies w S β cs blk off vs T fr := by
      cases x with
      | live c =>
        simp only [Blk.cells, Option.some.injEq] at h
        subst h
        rcases hI.live b c hb with h | ⟨b1, o1, vs, T, fr, h1, _, _, h2⟩
        · exact .inl h
        · exact .inr ⟨b1, o1, vs, T, fr, h1, h2⟩
      | froz c =>
        simp only [Blk.cells, Option.some.injEq] at h
        subst h
        rcases hI.froz b c hb with h | ⟨b1, o1, vs, T, fr, h1, _, h2⟩
        · exact .inl h
        · exact .inr ⟨b1, o1, vs, T, fr, h1, h2⟩
      | void => simp [Blk.cells] at h
      | dead => simp [Blk.cells] at h
    rcases key with ⟨rfl, _⟩ | ⟨b1, o1, vs, T, fr, h1, h2⟩
    · simp at hd
    · unfold Bk at hk h1
      rw [hk] at h1
      cases h1
      obtain ⟨v, hv, hr⟩ := h2.cell j d hd
      exact ⟨v, by simp [World.cell?, h2.heap, hv], h2.one j v (List.getElem?_eq_some_iff.1 hd).1 hv, hr⟩

theorem load_ok (hT : TyOk P τ) (hI : AInv w S β H) {t : TypeId} {x : D} {v : Value} (hx : Rel w S β x v) : OpOk P w S β H (Instr.loadAt t v) (aLoad τ t x H) := by
  cases hx with
  | ptr b o blk off hk =>
    simp only [aLoad]
    cases hc : Go.Proofs.YtlkffgmejcgdbaaDoor.cellsAt H b with
    | none => exact OpOk.bad
    | some cs =>
      refine OpOk.same hI fun ho => ?_
      have := loadVar_ok (P := P) hT (w := w) (S := S) (β := β) (t := t) (cs := cs.drop o) (a := ⟨blk, off + o, none⟩) (fun j d hd => by
        rw [List.getElem?_drop] at hd
        obtain ⟨v, h1, h2, h3⟩ := hI.cellsAt hc hk (o + j) d hd
        exact ⟨v, by rw [addr_at, Nat.add_assoc]; exact h1, h2, h3⟩) (partOb_drop ho)
      obtain ⟨v, h1, h2⟩ := this
      rw [partD_drop]
      exact ⟨v, by simpa [Instr.loadAt, Instr.sureAddr] using h1, h2⟩
  | cp cs ad vf h1 h2 =>
    simp only [aLoad]
    refine OpOk.same hI fun ho => ?_
    obtain ⟨v, h3, h4⟩ := loadVar_ok (P := P) hT (w := w) (S := S) (β := β) (t := t) (cs := cs) (a := ad) (fun j d hd =>
      ⟨vf j, (h1 j (List.getElem?_eq_some_iff.1 hd).1).2.1, (h1 j (List.getElem?_eq_some_iff.1 hd).1).2.2, h2 j d hd⟩) ho
    exact ⟨v, by simpa [Instr.loadAt, Instr.sureAddr] using h3, h4⟩
  | _ => simp only [aLoad]; exact OpOk.bad

theorem field_ok (hT : TyOk P τ) (hI : AInv w S β H) {t : TypeId} {x : D} {v : Value} (f : Nat) (hx : Rel w S β x v) : OpOk P w S β H (Instr.field t v f) (aField τ t x f H) := by
  cases htd : (τ t).td <;> simp only [aField, htd] <;> first | exact OpOk.bad | skip
  rename_i fs
  cases hf : fs[f]? with
  | none => exact OpOk.bad
  | some g =>
    obtain ⟨off, ft⟩ := g
    cases hx <;> simp only <;> first | exact OpOk.bad | skip
    rename_i cs vs h1 h0 h2
    refine OpOk.same hI fun ho => ?_
    obtain ⟨g, hg, hgf⟩ := (hT t (by rw [htd]; rfl)).struct htd
    have hg2 : g[f]?.map (fun f => (f.offset, f.type)) = some (off, ft) := by
      rw [← hf, ← hgf]; simp
    cases hgf' : g[f]? with
    | none => rw [hgf'] at hg2; cases hg2
    | some fl =>
      rw [hgf'] at hg2
      simp only [Option.map_some, Option.some.injEq, Prod.mk.injEq] at hg2
      obtain ⟨rfl, rfl⟩ := hg2
      obtain ⟨v, h3, h4⟩ := part_ok (P := P) hT (.agg cs vs h1 h0 h2) ho
      exact ⟨v, by simp [Instr.field, run_underlying hg, hgf', asAgg, h3], h4⟩

theorem fieldAddr_ok (hT : TyOk P τ) (hI : AInv w S β H) {t : TypeId} {x : D} {v : Value} (f : Nat) (hx : Rel w S β x v) : OpOk P w S β H (Instr.fieldAt t v f) (aFieldAddr τ t x f H) := by
  cases htd : (τ t).td <;> simp only [aFieldAddr, htd] <;> first | exact OpOk.bad | skip
  rename_i fs
  cases hf : fs[f]? with
  | none => exact OpOk.bad
  | some g =>
    obtain ⟨off, ft⟩ := g
    obtain ⟨g, hg, hgf⟩ := (hT t (by rw [htd]; rfl)).struct htd
    have hg2 : g[f]?.map (fun f => (f.offset, f.type)) = some (off, ft) := by
      rw [← hf, ← hgf]; simp
    cases hgf' : g[f]? with
    | none => rw [hgf'] at hg2; cases hg2
    | some fl =>
      rw [hgf'] at hg2
      simp only [Option.map_some, Option.some.injEq, Prod.mk.injEq] at hg2
      obtain ⟨rfl, rfl⟩ := hg2
      have key : (τ fl.type).size ≠ 0 → (τ fl.type).td.known = true → ∀ a : Addr, (Instr.fieldAt t (.pointer (some a)) f).run P w = .ok (.pointer (some (a.add fl.offset))) w := fun hs hk a => by
        simp [Instr.fieldAt, run_underlying hg, hgf', Instr.sureAddr, fieldPlace, (hT _ hk).run_sizeOf, hs]
      cases hx <;> simp only <;> first | exact OpOk.bad | skip
      · rename_i cs ad vf h1 h2
        refine OpOk.same hI fun ho => ?_
        refine ⟨_, key ho.1 ho.2 ad, ?_⟩
        refine .cp _ _ (fun j => vf (fl.offset + j)) (fun j hj => ?_) (fun j d hd => h2 _ d (by rwa [List.getElem?_drop] at hd))
        have := h1 (fl.offset + j) (by simp at hj; omega)
        exact ⟨by rw [addr_block]; exact this.1, by rw [addr_add]; exact this.2.1, this.2.2⟩
      · rename_i b o blk off hk
        refine OpOk.same hI fun ho => ?_
        refine ⟨_, key ho.1 ho.2 _, ?_⟩
        rw [addr_at, Nat.add_assoc]
        exact .ptr b _ blk off hk

theorem indexAddr_ok (hT : TyOk P τ) (hI : AInv w S β H) {t : TypeId} {x ix : D} {v vi : Value} (hx : Rel w S β x v) (hi : Rel w S β ix vi) : OpOk P w S β H (Instr.indexAt t v vi) (aIndexAddr τ t x ix H) := by
  cases hi <;> simp only [aIndexAddr] <;> first | exact OpOk.bad | skip
  rename_i k i hi1 hi2
  cases htd : (τ t).td <;> simp only <;> first | exact OpOk.bad | skip
  · rename_i e
    have hu := (hT t (by rw [htd]; rfl)).slice htd
    cases hx <;> simp only <;> first | exact OpOk.bad | skip
    · refine OpOk.same hI fun ho => ?_
      obtain ⟨h0, h1, _⟩ := ho
      simp at h1; omega
    · rename_i sz es tight ad cap vf h1 h2 h3 h4 h5 h6
      refine OpOk.same hI fun ho => ?_
      obtain ⟨p0, p1, ps, hk⟩ := ho
      have hs := (hT e hk).run_sizeOf w
      refine ⟨.pointer (some (ad.add (i.toNat * (τ e).size))), ?_, ?_⟩
      · simp [Instr.indexAt, asIntOf, run_underlying hu, p0, p1, hs]
      · have hlt : i.toNat < es.length := by omega
        have hget : es[i.toNat]? = some es[i.toNat] := List.getElem?_eq_getElem hlt
        have hgd : es.getD i.toNat .any = es[i.toNat] := by simp [List.getD, hget]
        rw [hgd]
        have hlen := h4 _ (List.getElem_mem hlt)
        rw [← ps]
        refine .cp _ _ (fun j => vf (i.toNat * sz + j)) (fun j hj => ?_) (fun j d hd => h6 i.toNat _ j d hget hd)
        have hb : i.toNat * sz + j < es.length * sz := by
          have : (i.toNat + 1) * sz ≤ es.length * sz := Nat.mul_le_mul_right _ hlt
          rw [Nat.add_mul] at this
          omega
        have := h5 _ hb
        exact ⟨by rw [addr_block]; exact this.1, by rw [addr_add]; exact this.2.1, this.2.2⟩
    · rename_i b o len sz blk off cap h1 h2 h3 T n h4 h5
      refine OpOk.same hI fun ho => ?_
      obtain ⟨p0, p1, ps, hk⟩ := ho
      have hs := (hT e hk).run_sizeOf w
      refine ⟨.pointer (some ((⟨blk, off + o, none⟩ : Addr).add (i.toNat * (τ e).size))), ?_, ?_⟩
      · simp [Instr.indexAt, asIntOf, run_underlying hu, p0, p1, hs]
      · rw [addr_at, Nat.add_assoc, ps]
        exact .ptr b _ blk off h1
    · refine OpOk.same hI fun ho => ?_
      obtain ⟨h0, h1, _⟩ := ho
      simp at h1; omega
  · rename_i n e
    have hu := (hT t (by rw [htd]; rfl)).array htd
    have key : 0 ≤ i → i < n → (τ e).td.known = true → ∀ a : Addr, (Instr.indexAt t (.pointer (some a)) (.int k i)).run P w = .ok (.pointer (some (a.add (i.toNat * (τ e).size)))) w := fun p0 p1 hk a => by
      have hs := (hT e hk).run_sizeOf w
      simp [Instr.indexAt, asIntOf, run_underlying hu, p0, p1, hs, Instr.sureAddr]
    cases hx <;> simp only <;> first | exact OpOk.bad | skip
    · rename_i cs ad vf h1 h2
      refine OpOk.same hI fun ho => ?_
      refine ⟨_, key ho.1 ho.2.1 ho.2.2 ad, ?_⟩
      refine .cp _ _ (fun j => vf (i.toNat * (τ e).size + j)) (fun j hj => ?_) (fun j d hd => h2 _ d (by rwa [List.getElem?_drop] at hd))
      have := h1 (i.toNat * (τ e).size + j) (by simp at hj; omega)
      exact ⟨by rw [addr_block]; exact this.1, by rw [addr_add]; exact this.2.1, this.2.2⟩
    · rename_i b o blk off hk
      refine OpOk.same hI fun ho => ?_
      refine ⟨_, key ho.1 ho.2.1 ho.2.2 _, ?_⟩
      rw [addr_at, Nat.add_assoc]
      exact .ptr b _ blk off hk

end
end Go.Proofs.YtlkffgmejcgdbaaDoor

/- The abstract operations are sound, fourth part: indexes, lengths, cuts. Of no program. -/
namespace Go.Proofs.YtlkffgmejcgdbaaDoor
set_option linter.all false
section
variable {P : Program} {τ : Ty} {w : World} {S : Nat → Prop} {β : Bmap} {H : AHeap}

theorem byteD_rel (b : UInt8) : Rel w S β (byteD b) (.int .u8 b.toNat) := by
  have := b.toNat_lt
  exact .int .u8 _ (by simp [IntKind.min, IntKind.signed]) (by simp [IntKind.max, IntKind.signed, IntKind.bits]; omega)

theorem index_ok (hT : TyOk P τ) (hI : AInv w S β H) {t : TypeId} {x ix : D} {v vi : Value} (hx : Rel w S β x v) (hi : Rel w S β ix vi) : OpOk P w S β H (Instr.index t v vi) (aIndex τ t x ix H) := by
  cases hi <;> simp only [aIndex] <;> first | exact OpOk.bad | skip
  rename_i k i hi1 hi2
  cases hx <;> simp only <;> first | exact OpOk.bad | skip
  · rename_i s hs
    refine OpOk.same hI fun ho => ?_
    obtain ⟨htd, p0, p1⟩ := ho
    have hu := (hT t (by rw [htd]; rfl)).str htd
    have hlt : i.toNat < s.length := by omega
    refine ⟨.int .u8 (s.getD i.toNat 0).toNat, ?_, byteD_rel _⟩
    have hg : (⟨⟨s⟩⟩ : ByteArray)[i.toNat]? = some (s.getD i.toNat 0) := by
      rw [ByteArray.getElem?_lt' _ _ (by simpa [ByteArray.size] using hlt)]
      simp [List.getD, List.getElem?_eq_getElem hlt]
      rfl
    simp [Instr.index, asIntOf, run_underlying hu, p0, hg]
  · rename_i cs vs h1 h0 h2
    cases htd : (τ t).td <;> simp only <;> first | exact OpOk.bad | skip
    rename_i n e
    have hu := (hT t (by rw [htd]; rfl)).array htd
    refine OpOk.same hI fun ho => ?_
    obtain ⟨p0, p1, hp⟩ := ho
    have hs := (hT e hp.1).run_sizeOf w
    obtain ⟨v, h3, h4⟩ := part_ok (P := P) hT (.agg cs vs h1 h0 h2) hp
    exact ⟨v, by simp [Instr.index, asIntOf, run_underlying hu, p0, p1, hs, h3], h4⟩

theorem goInt_rel {n : Nat} (h : n ≤ maxLen) : Rel w S β (.int .i64 n) (goInt n) := by
  unfold maxLen at h
  exact .int .i64 _ (by simp [IntKind.min, IntKind.signed, IntKind.bits] <;> omega) (by simp [IntKind.max, IntKind.signed, IntKind.bits] <;> omega)

theorem len_ok (hT : TyOk P τ) (hI : AInv w S β H) {t ty : TypeId} {x : D} {v : Value} (hx : Rel w S β x v) : OpOk P w S β H (Builtin.len_ #[t] ty #[v]) (aLen τ t x H) := by
  cases htd : (τ t).td <;> simp only [aLen, htd] <;> first | exact OpOk.bad | skip
  · have hu := (hT t (by rw [htd]; rfl)).str htd
    cases hx <;> simp only <;> first | exact OpOk.bad | skip
    rename_i s hs
    refine OpOk.same hI fun _ => ⟨_, ?_, goInt_rel hs⟩
    have hsz : (⟨⟨s⟩⟩ : ByteArray).size = s.length := rfl
    simp [Builtin.len_, run_underlying hu, hsz]
  · have hu := (hT t (by rw [htd]; rfl)).slice htd
    cases hx <;> simp only <;> first | exact OpOk.bad | skip
    · refine OpOk.same hI fun _ => ⟨_, ?_, goInt_rel (Nat.zero_le _)⟩
      simp [Builtin.len_, run_underlying hu]
    · refine OpOk.same hI fun _ => ⟨_, ?_, goInt_rel (Nat.zero_le _)⟩
      simp [Builtin.len_, run_underlying hu]
    · rename_i sz es tight ad cap vf h1 h2 h3 h4 h5 h6
      refine OpOk.same hI fun _ => ⟨_, ?_, goInt_rel (Nat.le_trans h1 h2)⟩
      simp [Builtin.len_, run_underlying hu]
    · rename_i b o len sz blk off cap h1 h2 h3 T n h4 h5
      refine OpOk.same hI fun _ => ⟨_, ?_, goInt_rel (Nat.le_trans h2 h3)⟩
      simp [Builtin.len_, run_underlying hu]
    · refine OpOk.same hI fun _ => ⟨_, ?_, goInt_rel (Nat.zero_le _)⟩
      simp [Builtin.len_, run_underlying hu]
    · rename_i b o len sz cap blk off h1 h2 h3 T n h4 h5
      refine OpOk.same hI fun _ => ⟨_, ?_, goInt_rel (Nat.le_trans h2 h3)⟩
      simp [Builtin.len_, run_underlying hu]
    · refine OpOk.same hI fun _ => ⟨_, ?_, goInt_rel (Nat.zero_le _)⟩
      simp [Builtin.len_, run_underlying hu]
  · have hu := (hT t (by rw [htd]; rfl)).array htd
    refine OpOk.same hI fun ho => ⟨_, ?_, goInt_rel ho⟩
    simp [Builtin.len_, run_underlying hu]

theorem cap_ok (hT : TyOk P τ) (hI : AInv w S β H) {t ty : TypeId} {x : D} {v : Value} (hx : Rel w S β x v) : OpOk P w S β H (Builtin.cap_ #[t] ty #[v]) (aCap τ t x H) := by
  cases htd : (τ t).td <;> simp only [aCap, htd] <;> first | exact OpOk.bad | skip
  have hu := (hT t (by rw [htd]; rfl)).slice htd
  cases hx <;> simp only <;> first | exact OpOk.bad | skip
  · refine OpOk.same hI fun _ => ⟨_, ?_, goInt_rel (Nat.zero_le _)⟩
    simp [Builtin.cap_, run_underlying hu]
  · rename_i b o len sz cap blk off h1 h2 h3 T n h4 h5
    refine OpOk.same hI fun _ => ⟨_, ?_, goInt_rel h3⟩
    simp [Builtin.cap_, run_underlying hu]
  · refine OpOk.same hI fun _ => ⟨_, ?_, goInt_rel (Nat.zero_le _)⟩
    simp [Builtin.cap_, run_underlying hu]

theorem max_ok : ∀ (ds : List D) (vs : List Value) (x : D) (v : Value), Rel w S β x v → vs.length = ds.length → (∀ (i : Nat) (d : D) (v : Value), ds[i]? = some d → vs[i]? = some v → Rel w S β d v) →
    ∀ d, aMax x ds = some d → ∃ r, (vs.foldlM Builtin.max2 v).run P w = .ok r w ∧ Rel w S β d r
  | [], [], x, v, hx, _, _, d, h => by
    cases hx with
    | int k a h1 h2 =>
      simp only [aMax, Option.some.injEq] at h
      subst h
      exact ⟨_, rfl, .int _ _ h1 h2⟩
    | _ => simp [aMax] at h
  | y :: ds, u :: vs, x, v, hx, hl, hr, d, h => by
    have hy := hr 0 y u rfl rfl
    cases hx with
    | int k a h1 h2 =>
      cases hy with
      | int k' b h3 h4 =>
        simp only [aMax] at h
        split at h
        · rename_i hk
          subst hk
          have := max_ok ds vs (.int k (if b > a then b else a)) (.int k (if b > a then b else a)) (.int _ _ (by split <;> assumption) (by split <;> assumption)) (by simpa using hl) (fun i d v h5 h6 => hr (i + 1) d v (by simpa using h5) (by simpa using h6)) d h
          obtain ⟨r, h5, h6⟩ := this
          exact ⟨r, by simpa [List.foldlM, Builtin.max2] using h5, h6⟩
        · cases h
      | _ => simp [aMax] at h
    | _ => simp [aMax] at h
  | [], _ :: _, _, _, _, hl, _, _, _ => by simp at hl
  | _ :: _, [], _, _, _, hl, _, _, _ => by simp at hl

theorem min_ok : ∀ (ds : List D) (vs : List Value) (x : D) (v : Value), Rel w S β x v → vs.length = ds.length → (∀ (i : Nat) (d : D) (v : Value), ds[i]? = some d → vs[i]? = some v → Rel w S β d v) →
    ∀ d, aMin x ds = some d → ∃ r, (vs.foldlM Builtin.min2 v).run P w = .ok r w ∧ Rel w S β d r
  | [], [], x, v, hx, _, _, d, h => by
    cases hx with
    | int k a h1 h2 =>
      simp only [aMin, Option.some.injEq] at h
      subst h
      exact ⟨_, rfl, .int _ _ h1 h2⟩
    | _ => simp [aMin] at h
  | y :: ds, u :: vs, x, v, hx, hl, hr, d, h => by
    have hy := hr 0 y u rfl rfl
    cases hx with
    | int k a h1 h2 =>
      cases hy with
      | int k' b h3 h4 =>
        simp only [aMin] at h
        split at h
        · rename_i hk
          subst hk
          have := min_ok ds vs (.int k (if b < a then b else a)) (.int k (if b < a then b else a)) (.int _ _ (by split <;> assumption) (by split <;> assumption)) (by simpa using hl) (fun i d v h5 h6 => hr (i + 1) d v (by simpa using h5) (by simpa using h6)) d h
          obtain ⟨r, h5, h6⟩ := this
          exact ⟨r, by simpa [List.foldlM, Builtin.min2] using h5, h6⟩
        · cases h
      | _ => simp [aMin] at h
    | _ => simp [aMin] at h
  | [], _ :: _, _, _, _, hl, _, _, _ => by simp at hl
  | _ :: _, [], _, _, _, hl, _, _, _ => by simp at hl

/-- An operand that may be left out: a number. -/
inductive OptRel (w : World) (S : Nat → Prop) (β : Bmap) : Option D → Option Value → Prop
  | none : OptRel w S β none none
  | some (d : D) (v : Value) (h : Rel w S β d v) : OptRel w S β (some d) (some v)

inductive OInt : Option Int → Option Value → Prop
  | none : OInt none none
  | some (k : IntKind) (n : Int) : OInt (some n) (some (.int k n))

theorem OptRel.int {o : Option D} {v : Option Value} (h : OptRel w S β o v) {x : Option Int} (e : asNat? o = Option.some x) : OInt x v ∧ o.isNone = x.isNone := by
  cases h with
  | none => simp [asNat?] at e; subst e; exact ⟨.none, rfl⟩
  | some d v h => cases h <;> simp [asNat?] at e; subst e; exact ⟨.some _ _, rfl⟩

theorem sliceBounds_ok {isS : Bool} {len cap : Nat} {l h m : Option Int} {vl vh vm : Option Value} (hl : OInt l vl) (hh : OInt h vh) (hm : OInt m vm)
    (h0 : 0 ≤ l.getD 0) (h1 : l.getD 0 ≤ h.getD len) (h2 : h.getD len ≤ m.getD cap) (h3 : m.getD cap ≤ cap) (h4 : h.isNone = true → m.isNone = true) :
    (Instr.sliceBounds isS len cap vl vh vm).run P w = .ok ((l.getD 0).toNat, (h.getD len).toNat, (m.getD cap).toNat) w := by
  have sb : ∀ (k : IntKind) (n : Int) (y : Nat) (c : BoundsCode), 0 ≤ n → n ≤ y → (Instr.sliceBound (.int k n) y c).run P w = .ok n.toNat w := fun k n y c a b => by
    simp [Instr.sliceBound, asIntOf, a, b]
  cases hm with
  | none =>
    simp only [Option.getD_none] at h2 h3
    cases hh with
    | none =>
      simp only [Option.getD_none] at h1 h2
      cases hl with
      | none => simp [Instr.sliceBounds]
      | some kl nl => simp only [Option.getD_some] at h0 h1; simp [Instr.sliceBounds, sb _ _ _ _ h0 h1]
    | some kh nh =>
      simp only [Option.getD_some] at h1 h2
      cases hl with
      | none => simp only [Option.getD_none] at h0 h1; simp [Instr.sliceBounds, sb _ _ _ _ h1 h2]
      | some kl nl =>
        simp only [Option.getD_some] at h0 h1
        simp [Instr.sliceBounds, sb _ nh _ _ (by omega) h2, sb _ nl nh.toNat _ h0 (by omega)]
  | some km nm =>
    cases hh with
    | none => simp at h4
    | some kh nh =>
      simp only [Option.getD_some] at h1 h2 h3
      cases hl with
      | none =>
        simp only [Option.getD_none] at h0 h1
        simp [Instr.sliceBounds, sb _ nm _ _ (by omega) h3, sb _ nh nm.toNat _ h1 (by omega)]
      | some kl nl =>
        simp only [Option.getD_some] at h0 h1
        simp [Instr.sliceBounds, sb _ nm _ _ (by omega) h3, sb _ nh nm.toNat _ (by omega) (by omega), sb _ nl nh.toNat _ h0 (by omega)]

theorem cut_sl (sz : Nat) (es : List D) (tight tight' : Bool) {v : Value} (hx : Rel w S β (.sl sz es tight) v) (l h : Nat) (m : Nat → Nat) (hl : l ≤ h) (hh : h ≤ es.length) (hm : ∀ cap, es.length ≤ cap → h ≤ m cap ∧ m cap ≤ cap)
    (ht : tight' = true → ∀ cap, es.length ≤ cap → (tight = true → cap = es.length) → m cap = h) :
    ∃ a cap, v = .slice a es.length cap ∧ es.length ≤ cap ∧ Rel w S β (.sl sz ((es.take h).drop l) tight') (.slice (if m cap = l then a else a.map (·.add (l * sz))) (h - l) (m cap - l)) := by
  have hlen : ((es.take h).drop l).length = h - l := by simp; omega
  cases hx with
  | slNone =>
    simp only [List.length_nil] at *
    have h1 := hm 0 (by omega)
    refine ⟨none, 0, rfl, Nat.le_refl _, ?_⟩
    have : l = 0 := by omega
    subst this
    have : h = 0 := by omega
    subst this
    have : m 0 = 0 := by omega
    rw [this]
    simpa using Rel.slNone sz tight'
  | sl _ _ _ ad cap vf h1 h2 h3 h4 h5 h6 =>
    refine ⟨some ad, cap, rfl, h1, ?_⟩
    have hm' := hm cap h1
    have mem : ∀ e, e ∈ (es.take h).drop l → e ∈ es := fun e he => List.mem_of_mem_take (List.mem_of_mem_drop he)
    have get : ∀ (i : Nat) (e : D), ((es.take h).drop l)[i]? = some e → es[l + i]? = some e := fun i e he => by
      rw [List.getElem?_drop, List.getElem?_take] at he
      split at he
      · exact he
      · cases he
    have tt : tight' = true → m cap - l = ((es.take h).drop l).length := fun e => by rw [hlen, ht e cap h1 h3]
    rw [← hlen]
    split
    · rename_i hml
      have he : (es.take h).drop l = [] := List.eq_nil_of_length_eq_zero (by omega)
      have := Rel.sl (w := w) (S := S) (β := β) sz ((es.take h).drop l) tight' ad (m cap - l) vf (by omega) (by omega) tt (fun e he => h4 e (mem e he))
        (fun i hi => by rw [he] at hi; simp at hi) (fun i e j d he' _ => by rw [he] at he'; simp at he')
      exact this
    · simp only [Option.map_some]
      refine Rel.sl (w := w) (S := S) (β := β) sz ((es.take h).drop l) tight' (ad.add (l * sz)) (m cap - l) (fun i => vf (l * sz + i)) (by omega) (by omega) tt (fun e he => h4 e (mem e he)) (fun i hi => ?_) (fun i e j d he hd => ?_)
      · rw [hlen] at hi
        have hb : l * sz + i < es.length * sz := by
          have h7 : (l + (h - l)) * sz ≤ es.length * sz := Nat.mul_le_mul_right _ (by omega)
          rw [Nat.add_mul] at h7
          omega
        have := h5 _ hb
        exact ⟨by rw [addr_block]; exact this.1, by rw [addr_add]; exact this.2.1, this.2.2⟩
      · have := h6 (l + i) e j d (get i e he) hd
        rw [Nat.add_mul, Nat.add_assoc] at this
        exact this

theorem slice_ok (hT : TyOk P τ) (hI : AInv w S β H) {t : TypeId} {x : D} {lo hi mx : Option D} {v : Value} {vl vh vm : Option Value} (hx : Rel w S β x v) (hlo : OptRel w S β lo vl) (hhi : OptRel w S β hi vh) (hmx : OptRel w S β mx vm) :
    OpOk P w S β H (Instr.sliceAt t v vl vh vm) (aSlice τ t x lo hi mx H) := by
  unfold aSlice
  cases e1 : asNat? lo with
  | none => exact OpOk.bad
  | some l =>
  cases e2 : asNat? hi with
  | none => exact OpOk.bad
  | some h =>
  cases e3 : asNat? mx with
  | none => exact OpOk.bad
  | some m =>
  obtain ⟨il, nl⟩ := hlo.int e1
  obtain ⟨ih, nh⟩ := hhi.int e2
  obtain ⟨im, nm⟩ := hmx.int e3
  cases x <;> simp only <;> first | exact OpOk.bad | skip
  · -- a string
    rename_i s
    cases hx with
    | str _ hs =>
    refine OpOk.same hI fun ho => ?_
    obtain ⟨htd, hmn, h0, h1, h2⟩ := ho
    have hu := (hT t (by rw [htd]; rfl)).str htd
    cases im with
    | some _ _ => rw [nm] at hmn; simp at hmn
    | none =>
    have hb := sliceBounds_ok (P := P) (w := w) (isS := false) (len := s.length) (cap := s.length) il ih .none h0 h1 (by simpa using h2) (by simp) (fun _ => rfl)
    refine ⟨.string ⟨⟨(s.take (h.getD s.length).toNat).drop (l.getD 0).toNat⟩⟩, ?_, .str _ ?_⟩
    · have hsz : (⟨⟨s⟩⟩ : ByteArray).size = s.length := rfl
      have hex : (⟨⟨s⟩⟩ : ByteArray).extract (l.getD 0).toNat (h.getD s.length).toNat = ⟨⟨(s.take (h.getD s.length).toNat).drop (l.getD 0).toNat⟩⟩ := by
        have := Lib.extract_data (⟨⟨s⟩⟩ : ByteArray) (l.getD 0).toNat (h.getD s.length).toNat
        have e : ∀ (b : ByteArray) (r : List UInt8), b.data.toList = r → b = ⟨⟨r⟩⟩ := fun ⟨⟨x⟩⟩ r h => by simp at h; rw [h]
        refine e _ _ ?_
        rw [this, List.drop_take]
      simp [Instr.sliceAt, Instr.slice, run_underlying hu, hsz, hb, hex]
    · simp; omega
  · -- nil
    cases hx with
    | nil =>
    refine OpOk.same hI fun ho => ?_
    obtain ⟨⟨e, htd, hke⟩, h0, h1, h2, h3⟩ := ho
    have hu := (hT t (by rw [htd]; rfl)).slice htd
    have hb := sliceBounds_ok (P := P) (w := w) (isS := true) (len := 0) (cap := 0) il ih im (by omega) (by simp; omega) (by simp; omega) (by simp; omega) (by rw [nh, nm] at h3; exact h3)
    refine ⟨.slice none 0 0, ?_, .nil⟩
    have e1 : (l.getD 0).toNat = 0 := by omega
    have e2 : (h.getD ((0 : Nat) : Int)).toNat = 0 := by simp; omega
    have e3 : (m.getD ((0 : Nat) : Int)).toNat = 0 := by simp; omega
    rw [e1, e2, e3] at hb
    simp [Instr.sliceAt, Instr.slice, run_underlying hu, hb, (hT e hke).run_sizeOf]
  · -- a slice for good
    rename_i sz es tight
    refine OpOk.same hI fun ho => ?_
    obtain ⟨⟨e, htd, hsz, hke⟩, h0, h1, h2, h3, h4⟩ := ho
    have hu := (hT t (by rw [htd]; rfl)).slice htd
    have hmc : ∀ cap, es.length ≤ cap → h.getD es.length ≤ m.getD cap ∧ m.getD cap ≤ cap := fun cap hc => by
      cases m with
      | none => simp only [Option.getD_none] at h2 h3 ⊢; omega
      | some mm => simp only [Option.getD_some] at h2 h3 ⊢; omega
    obtain ⟨a, cap, rfl, hc, hrel⟩ := cut_sl sz es tight (cutTight tight m h) hx (l.getD 0).toNat (h.getD es.length).toNat (fun cap => (m.getD cap).toNat) (by omega) (by omega)
      (fun cap hc => by have := hmc cap hc; omega)
      
      (fun ht cap hc htc => by
        cases m with
        | none =>
          cases h with
          | none => simp only [cutTight] at ht; simp [htc ht]
          | some hh => simp [cutTight] at ht
        | some mm =>
          cases h with
          | none => rw [nh, nm] at h4; simp at h4
          | some hh => simp [cutTight] at ht; simp [ht])
    have hb := sliceBounds_ok (P := P) (w := w) (isS := true) (len := es.length) (cap := cap) il ih im h0 h1 (hmc cap hc).1 (hmc cap hc).2 (by rw [nh, nm] at h4; exact h4)
    refine ⟨_, ?_, hrel⟩
    simp [Instr.sliceAt, Instr.slice, run_underlying hu, hb, (hT e hke).run_sizeOf, hsz]
  · -- a slice into a block
    rename_i b o len sz
    refine OpOk.same hI fun ho => ?_
    obtain ⟨⟨e, htd, hsz, hke⟩, h0, h1, h2, h3, h4⟩ := ho
    have hu := (hT t (by rw [htd]; rfl)).slice htd
    have hmc : ∀ cap : Nat, len ≤ cap → h.getD len ≤ m.getD cap ∧ m.getD cap ≤ cap := fun cap hc => by
      cases m with
      | none => simp only [Option.getD_none] at h2 h3 ⊢; omega
      | some mm => simp only [Option.getD_some] at h2 h3 ⊢; omega
    cases hx with
    | ref _ _ _ _ blk off cap g1 g2 g3 T n g4 g5 =>
      have hb := sliceBounds_ok (P := P) (w := w) (isS := true) (len := len) (cap := cap) il ih im h0 h1 (hmc cap g2).1 (hmc cap g2).2 (by rw [nh, nm] at h4; exact h4)
      have hm := hmc cap g2
      refine ⟨_, by simp [Instr.sliceAt, Instr.slice, run_underlying hu, hb, (hT e hke).run_sizeOf, hsz]; rfl, ?_⟩
      split
      · rename_i hml
        have e1 : (h.getD len).toNat - (l.getD 0).toNat = 0 := by omega
        have e2 : (m.getD cap).toNat - (l.getD 0).toNat = 0 := by omega
        rw [e1, e2]
        exact .refEmpty _ _ _ _
      · rw [addr_at, Nat.add_assoc]
        refine .ref b _ _ sz blk off _ g1 (by omega) (by omega) T n g4 ?_
        have h7 : ((m.getD cap).toNat - (l.getD 0).toNat) * sz + (l.getD 0).toNat * sz ≤ cap * sz := by
          rw [← Nat.add_mul]; exact Nat.mul_le_mul_right _ (by omega)
        omega
    | refEmpty _ _ _ a =>
      have hb := sliceBounds_ok (P := P) (w := w) (isS := true) (len := 0) (cap := 0) il ih im h0 h1 (hmc 0 (Nat.le_refl _)).1 (hmc 0 (Nat.le_refl _)).2 (by rw [nh, nm] at h4; exact h4)
      have hm := hmc 0 (Nat.le_refl _)
      have e1 : (l.getD 0).toNat = 0 := by omega
      have e2 : (h.getD ((0 : Nat) : Int)).toNat = 0 := by omega
      have e3 : (m.getD ((0 : Nat) : Int)).toNat = 0 := by omega
      rw [e1, e2, e3] at hb
      refine ⟨.slice a 0 0, by simp [Instr.sliceAt, Instr.slice, run_underlying hu, hb, (hT e hke).run_sizeOf], ?_⟩
      rw [e1, e2]
      exact .refEmpty _ _ _ _
  · -- a slice into a block, its capacity told
    rename_i b o len sz c
    refine OpOk.same hI fun ho => ?_
    obtain ⟨⟨e, htd, hsz, hke⟩, h0, h1, h2, h3, h4⟩ := ho
    have hu := (hT t (by rw [htd]; rfl)).slice htd
    cases hx with
    | refc _ _ _ _ _ blk off g1 g2 g3 T n g4 g5 =>
      have hb := sliceBounds_ok (P := P) (w := w) (isS := true) (len := len) (cap := c) il ih im h0 h1 h2 h3 (by rw [nh, nm] at h4; exact h4)
      refine ⟨_, by simp [Instr.sliceAt, Instr.slice, run_underlying hu, hb, (hT e hke).run_sizeOf, hsz]; rfl, ?_⟩
      split
      · rename_i hml
        have e1 : (h.getD len).toNat - (l.getD 0).toNat = 0 := by omega
        have e2 : (m.getD c).toNat - (l.getD 0).toNat = 0 := by omega
        rw [e1, e2]
        exact .refcEmpty _ _ _ _
      · rw [addr_at, Nat.add_assoc]
        refine .refc b _ _ sz _ blk off g1 (by omega) (by omega) T n g4 ?_
        have h7 : ((m.getD c).toNat - (l.getD 0).toNat) * sz + (l.getD 0).toNat * sz ≤ c * sz := by
          rw [← Nat.add_mul]; exact Nat.mul_le_mul_right _ (by omega)
        omega
    | refcEmpty _ _ _ a =>
      have hb := sliceBounds_ok (P := P) (w := w) (isS := true) (len := 0) (cap := 0) il ih im h0 h1 h2 h3 (by rw [nh, nm] at h4; exact h4)
      have e1 : (l.getD 0).toNat = 0 := by omega
      have e2 : (h.getD ((0 : Nat) : Int)).toNat = 0 := by omega
      have e3 : (m.getD ((0 : Nat) : Int)).toNat = 0 := by omega
      rw [e1, e2, e3] at hb
      refine ⟨.slice a 0 0, by simp [Instr.sliceAt, Instr.slice, run_underlying hu, hb, (hT e hke).run_sizeOf], ?_⟩
      rw [e1, e2, e3]
      exact .refcEmpty _ _ _ _
  · -- an array in a block
    rename_i b o
    cases htd : (τ t).td <;> simp only <;> first | exact OpOk.bad | skip
    rename_i n e
    refine OpOk.same hI fun ho => ?_
    obtain ⟨h0, h1, h2, hmn, hn, hke, hpos, cs, hcs, hfit⟩ := ho
    have hu := (hT t (by rw [htd]; rfl)).array htd
    cases hx with
    | ptr _ _ blk off hk =>
    cases im with
    | some _ _ => rw [nm] at hmn; simp at hmn
    | none =>
    have hb := sliceBounds_ok (P := P) (w := w) (isS := false) (len := n) (cap := n) il ih .none h0 h1 (by simpa using h2) (by simp) (fun _ => rfl)
    simp only [Option.getD_none, Int.toNat_natCast] at hb
    refine ⟨_, by simp [Instr.sliceAt, Instr.sureAddr, run_underlying hu, hb, (hT e hke).run_sizeOf]; rfl, ?_⟩
    split
    · rename_i hml
      have e1 : (h.getD n).toNat - (l.getD 0).toNat = 0 := by omega
      have e2 : n - (l.getD 0).toNat = 0 := by omega
      rw [e1, e2]
      exact .refEmpty _ _ _ _
    · rw [addr_at, Nat.add_assoc]
      have hlast : cs.length - 1 < cs.length := by omega
      obtain ⟨v, hv, _⟩ := hI.cellsAt hcs hk (cs.length - 1) _ (List.getElem?_eq_getElem hlast)
      have hsh : ∃ T m, w.shape? blk = some (T, m) ∧ off + (cs.length - 1) < m := by
        unfold World.cell? at hv
        cases hh : w.heap[blk]? with
        | none => rw [hh] at hv; cases hv
        | some ob =>
          rw [hh] at hv
          cases ob <;> simp at hv
          rename_i c T fr
          refine ⟨T, c.size, by simp [World.shape?, hh], ?_⟩
          rcases Nat.lt_or_ge (off + (cs.length - 1)) c.size with h' | h'
          · exact h'
          · simp [Array.getElem?_eq_none h'] at hv
      obtain ⟨T, mm, hsh, hlt⟩ := hsh
      refine .ref b _ _ _ blk off _ hk (by omega) (by omega) T mm hsh ?_
      have h7 : (n - (l.getD 0).toNat) * (τ e).size + (l.getD 0).toNat * (τ e).size ≤ n * (τ e).size := by
        rw [← Nat.add_mul]; exact Nat.mul_le_mul_right _ (by omega)
      omega
end
end Go.Proofs.YtlkffgmejcgdbaaDoor

/- The abstract operations are sound, fifth part: stores, new blocks. Of no program. -/
namespace Go.Proofs.YtlkffgmejcgdbaaDoor
set_option linter.all false

theorem splice_get {α : Type} (cs : List α) (o : Nat) (vs : List α) (h : o + vs.length ≤ cs.length) (i : Nat) :
    (splice cs o vs)[i]? = if i < o then cs[i]? else if i < o + vs.length then vs[i - o]? else cs[i]? := by
  unfold splice
  have hl : (cs.take o).length = o := by simp; omega
  by_cases h1 : i < o
  · rw [if_pos h1, List.append_assoc, List.getElem?_append_left (by omega), List.getElem?_take_of_lt h1]
  · rw [if_neg h1]
    by_cases h2 : i < o + vs.length
    · rw [if_pos h2, List.append_assoc, List.getElem?_append_right (by omega), hl, List.getElem?_append_left (by omega)]
    · rw [if_neg h2, List.getElem?_append_right (by simp; omega), List.getElem?_drop]
      congr 1
      simp
      omega

theorem splice_get' {α : Type} (cs : List α) (o : Nat) (vs : List α) (h : o ≤ cs.length) (i : Nat) :
    (splice cs o vs)[i]? = if i < o then cs[i]? else if i < o + vs.length then vs[i - o]? else cs[i]? := by
  unfold splice
  have hl : (cs.take o).length = o := by simp; omega
  by_cases h1 : i < o
  · rw [if_pos h1, List.append_assoc, List.getElem?_append_left (by omega), List.getElem?_take_of_lt h1]
  · rw [if_neg h1]
    by_cases h2 : i < o + vs.length
    · rw [if_pos h2, List.append_assoc, List.getElem?_append_right (by omega), hl, List.getElem?_append_left (by omega)]
    · rw [if_neg h2, List.getElem?_append_right (by simp; omega), List.getElem?_drop]
      congr 1
      simp
      omega

theorem set_self {α : Type} {l : List α} {i : Nat} {x : α} (h : l[i]? = some x) : l.set i x = l := by
  apply List.ext_getElem?
  intro j
  rw [List.getElem?_set]
  split
  · rename_i e; subst e
    split
    · exact h.symm
    · rename_i hj; rw [List.getElem?_eq_none (by omega)]
  · rfl

theorem splice_length {α : Type} (cs : List α) (o : Nat) (vs : List α) (h : o + vs.length ≤ cs.length) : (splice cs o vs).length = cs.length := by
  simp [splice]
  omega

theorem run_storeCells_any (P : Program) (g o : Nat) (t : TypeId) (fz : Nat × Nat) : ∀ (vs : List Value) (i : Nat) (cur : Array Value) (w : World), w.heap[g]? = some (.cells cur t fz) → (fz.2 ≤ fz.1 ∨ cur.size ≤ fz.1) → o + i + vs.length ≤ cur.size → (∀ v ∈ vs, v.oneCell' = true) →
    (storeCells ⟨g, o, none⟩ vs i).run P w = .ok () (w.setRow g (splice cur.toList (o + i) vs).toArray)
  | [], i, cur, w, hg, _, _, _ => by
    simp only [splice, storeCells, List.append_nil, List.length_nil, Nat.add_zero, List.take_append_drop, Array.toArray_toList]
    rw [setRow_self w g cur t fz hg]
    rfl
  | v :: rest, i, cur, w, hg, hfz, hl, h1 => by
    have hi : o + i < cur.size := by simp at hl; omega
    have hadd : (⟨g, o, none⟩ : Addr).add i = ⟨g, o + i, none⟩ := addr_at g o i
    have hcell : w.cell? ⟨g, o + i, none⟩ = some cur[o + i] := by simp [World.cell?, hg, hi]
    have hfro : w.frozen? ⟨g, o + i, none⟩ = false := by
      obtain ⟨lo, hi'⟩ := fz
      simp only [World.frozen?, hg, Bool.and_eq_false_iff, decide_eq_false_iff_not]
      simp only at hfz
      omega
    have hst : (store ((⟨g, o, none⟩ : Addr).add i) v).run P w = .ok () (w.setRow g (cur.setIfInBounds (o + i) v)) := by
      rw [hadd, run_store P w _ v _ (h1 v (by simp)), hcell]
      simp [hfro, setCell_eq_setRow w g (o + i) cur t fz v hg]
    have ih := run_storeCells_any P g o t fz rest (i + 1) (cur.setIfInBounds (o + i) v) (w.setRow g (cur.setIfInBounds (o + i) v)) (setRow_heap w g cur _ t _ hg) (by simpa using hfz) (by simp at hl ⊢; omega) (fun x hx => h1 x (by simp [hx]))
    simp only [storeCells, Sem.run_bind, hst, Result.andThen_ok, ih, setRow_setRow]
    congr 3
    have e := list_seg_step cur.toList (o + i) v rest (by simp at hl ⊢; omega)
    simpa [splice, Array.toList_setIfInBounds, Nat.add_assoc] using e

section
variable {P : Program} {τ : Ty} {w : World} {S : Nat → Prop} {β : Bmap} {H : AHeap}

theorem AInv.lt (hI : AInv w S β H) {b : Nat} {x : Option (Nat × Nat)} (h : Bk β b x) : b < H.length := by
  rw [← hI.len]; exact (List.getElem?_eq_some_iff.1 h).1

theorem set_none_of_void (hI : AInv w S β H) {slot : Nat} (h : H[slot]? = some Blk.void) : β[slot]? = some none := hI.void slot h

/-- Cells written into a block of one's own. -/
theorem AInv.write (hI : AInv w S β H) {b : Nat} {cs : List D} (hb : H[b]? = some (.live cs)) {blk off : Nat} (hk : Bk β b (some (blk, off))) (o : Nat) (ds : List D) (us : List Value) (hne : cs ≠ [] ∨ ds ≠ [] )
    (hlen : us.length = ds.length) (hfit : o + ds.length ≤ cs.length) (hrel : ∀ (i : Nat) (d : D), ds[i]? = some d → ∃ u, us[i]? = some u ∧ u.oneCell' = true ∧ Rel w S β d u) :
    ∃ w', (storeCells ⟨blk, off + o, none⟩ us).run P w = .ok () w' ∧ AInv w' S β (H.set b (.live (splice cs o ds))) ∧ Evo w S β H w' S β (H.set b (.live (splice cs o ds))) := by
  rcases hI.live b cs hb with ⟨rfl, hn⟩ | ⟨b1, o1, vs, T, fr, h1, h2, h3, h4⟩
  · unfold Bk at hk hn; rw [hk] at hn; cases hn
  · have e : b1 = blk ∧ o1 = off := by unfold Bk at hk h1; rw [hk] at h1; cases h1; exact ⟨rfl, rfl⟩
    obtain ⟨rfl, rfl⟩ := e
    have hcl : cs.length ≠ 0 → o1 + cs.length ≤ vs.size := fun hz => by
      obtain ⟨v, hv, _⟩ := h4.cell (cs.length - 1) _ (List.getElem?_eq_getElem (by omega))
      have := (Array.getElem?_eq_some_iff.1 hv).1
      omega
    have hcs : cs.length ≠ 0 := by
      intro hz
      rcases hne with h | h
      · exact h (List.eq_nil_of_length_eq_zero hz)
      · apply h; apply List.eq_nil_of_length_eq_zero; omega
    have hcl' := hcl hcs
    have hone : ∀ v ∈ us, v.oneCell' = true := fun v hv => by
      obtain ⟨i, hi, hv⟩ := List.mem_iff_getElem.1 hv
      obtain ⟨u, h5, h6, _⟩ := hrel i _ (List.getElem?_eq_getElem (by omega))
      rw [List.getElem?_eq_getElem hi] at h5
      cases h5; rw [← hv]; exact h6
    have hrun := run_storeCells_any P b1 (o1 + o) T fr us 0 vs w h4.heap h3 (by omega) hone
    refine ⟨_, hrun, ?_⟩
    have hblt : b < H.length := hI.lt hk
    have hsl : (splice vs.toList (o1 + o) us).length = vs.size := by rw [splice_length _ _ _ (by simp; omega)]; simp
    have hset : (H.set b .dead).set b (.live (splice cs o ds)) = H.set b (.live (splice cs o ds)) := by rw [List.set_set]
    rw [← hset]
    simp only [Nat.add_zero]
    refine hI.step (w' := w.setRow b1 (splice vs.toList (o1 + o) us).toArray) (β' := β) (H1 := H.set b .dead) b b1 o1 (splice vs.toList (o1 + o) us).toArray T fr (splice cs o ds) rfl rfl (by simp)
      (fun k _ hne => setRow_other w b1 k _ hne) (fun k x hx => ?_) (.inr ⟨b, cs, o1, hb, hk⟩) (setRow_heap w b1 vs _ T fr h4.heap) ?_ (by simp) hblt
      (fun b' c hne hl => ?_) (fun b' c hne hl => ?_) (fun b' hne hl => ?_) rfl (fun _ _ => rfl) hk (fun _ h => h) (fun i d hd => ?_)
    · by_cases hkb : k = b1
      · subst hkb
        simp only [World.shape?, h4.heap, setRow_heap w k vs _ T fr h4.heap] at hx ⊢
        simpa [hsl] using hx
      · simp only [World.shape?, setRow_other w b1 k _ hkb] at hx ⊢
        exact hx
    · simpa [hsl] using h3
    · rw [List.getElem?_set_ne (Ne.symm hne)] at hl
      refine ⟨hl, fun off' hk' => hne (hI.apart b' b c cs b1 off' o1 hl hb hk' hk)⟩
    · rwa [List.getElem?_set_ne (Ne.symm hne)] at hl
    · rwa [List.getElem?_set_ne (Ne.symm hne)] at hl
    · rw [splice_get cs o ds hfit] at hd
      simp only [List.getElem?_toArray]
      rw [splice_get vs.toList (o1 + o) us (by simp; omega)]
      by_cases c1 : i < o
      · rw [if_pos c1] at hd
        rw [if_pos (by omega)]
        obtain ⟨v, hv, hr⟩ := h4.cell i d hd
        exact ⟨v, by simpa using hv, h4.one i v (List.getElem?_eq_some_iff.1 hd).1 hv, hr⟩
      · rw [if_neg c1] at hd
        by_cases c2 : i < o + ds.length
        · rw [if_pos c2] at hd
          rw [if_neg (by omega), if_pos (by omega)]
          obtain ⟨u, h5, h6, h7⟩ := hrel _ d hd
          exact ⟨u, by rw [show o1 + i - (o1 + o) = i - o by omega]; exact h5, h6, h7⟩
        · rw [if_neg c2] at hd
          rw [if_neg (by omega), if_neg (by omega)]
          obtain ⟨v, hv, hr⟩ := h4.cell i d hd
          exact ⟨v, by simpa using hv, h4.one i v (List.getElem?_eq_some_iff.1 hd).1 hv, hr⟩

/-- Cells written into a block of one's own, from where it is told of on: it may be told of more behind. -/
theorem AInv.writeOn (hI : AInv w S β H) {b : Nat} {cs : List D} (hb : H[b]? = some (.live cs)) {blk off : Nat} (hk : Bk β b (some (blk, off))) (o : Nat) (ds : List D) (us : List Value) 
    (hlen : us.length = ds.length) (hfit : o ≤ cs.length) (hroom : ∃ T m, w.shape? blk = some (T, m) ∧ off + o + ds.length ≤ m) (hrel : ∀ (i : Nat) (d : D), ds[i]? = some d → ∃ u, us[i]? = some u ∧ u.oneCell' = true ∧ Rel w S β d u) :
    ∃ w', (storeCells ⟨blk, off + o, none⟩ us).run P w = .ok () w' ∧ AInv w' S β (H.set b (.live (splice cs o ds))) ∧ Evo w S β H w' S β (H.set b (.live (splice cs o ds))) := by
  rcases hI.live b cs hb with ⟨rfl, hn⟩ | ⟨b1, o1, vs, T, fr, h1, h2, h3, h4⟩
  · unfold Bk at hk hn; rw [hk] at hn; cases hn
  · have e : b1 = blk ∧ o1 = off := by unfold Bk at hk h1; rw [hk] at h1; cases h1; exact ⟨rfl, rfl⟩
    obtain ⟨rfl, rfl⟩ := e
    have hsz : o1 + o + ds.length ≤ vs.size := by
      obtain ⟨T2, m, hm, hle⟩ := hroom
      simp only [World.shape?, h4.heap, Option.some.injEq, Prod.mk.injEq] at hm
      omega
    have hone : ∀ v ∈ us, v.oneCell' = true := fun v hv => by
      obtain ⟨i, hi, hv⟩ := List.mem_iff_getElem.1 hv
      obtain ⟨u, h5, h6, _⟩ := hrel i _ (List.getElem?_eq_getElem (by omega))
      rw [List.getElem?_eq_getElem hi] at h5
      cases h5; rw [← hv]; exact h6
    have hrun := run_storeCells_any P b1 (o1 + o) T fr us 0 vs w h4.heap h3 (by omega) hone
    refine ⟨_, hrun, ?_⟩
    have hblt : b < H.length := hI.lt hk
    have hsl : (splice vs.toList (o1 + o) us).length = vs.size := by rw [splice_length _ _ _ (by simp; omega)]; simp
    have hset : (H.set b .dead).set b (.live (splice cs o ds)) = H.set b (.live (splice cs o ds)) := by rw [List.set_set]
    rw [← hset]
    simp only [Nat.add_zero]
    refine hI.step (w' := w.setRow b1 (splice vs.toList (o1 + o) us).toArray) (β' := β) (H1 := H.set b .dead) b b1 o1 (splice vs.toList (o1 + o) us).toArray T fr (splice cs o ds) rfl rfl (by simp)
      (fun k _ hne => setRow_other w b1 k _ hne) (fun k x hx => ?_) (.inr ⟨b, cs, o1, hb, hk⟩) (setRow_heap w b1 vs _ T fr h4.heap) ?_ (by simp) hblt
      (fun b' c hne hl => ?_) (fun b' c hne hl => ?_) (fun b' hne hl => ?_) rfl (fun _ _ => rfl) hk (fun _ h => h) (fun i d hd => ?_)
    · by_cases hkb : k = b1
      · subst hkb
        simp only [World.shape?, h4.heap, setRow_heap w k vs _ T fr h4.heap] at hx ⊢
        simpa [hsl] using hx
      · simp only [World.shape?, setRow_other w b1 k _ hkb] at hx ⊢
        exact hx
    · simpa [hsl] using h3
    · rw [List.getElem?_set_ne (Ne.symm hne)] at hl
      refine ⟨hl, fun off' hk' => hne (hI.apart b' b c cs b1 off' o1 hl hb hk' hk)⟩
    · rwa [List.getElem?_set_ne (Ne.symm hne)] at hl
    · rwa [List.getElem?_set_ne (Ne.symm hne)] at hl
    · rw [splice_get' cs o ds hfit] at hd
      simp only [List.getElem?_toArray]
      rw [splice_get vs.toList (o1 + o) us (by simp; omega)]
      by_cases c1 : i < o
      · rw [if_pos c1] at hd
        rw [if_pos (by omega)]
        obtain ⟨v, hv, hr⟩ := h4.cell i d hd
        exact ⟨v, by simpa using hv, h4.one i v (List.getElem?_eq_some_iff.1 hd).1 hv, hr⟩
      · rw [if_neg c1] at hd
        by_cases c2 : i < o + ds.length
        · rw [if_pos c2] at hd
          rw [if_neg (by omega), if_pos (by omega)]
          obtain ⟨u, h5, h6, h7⟩ := hrel _ d hd
          exact ⟨u, by rw [show o1 + i - (o1 + o) = i - o by omega]; exact h5, h6, h7⟩
        · rw [if_neg c2] at hd
          rw [if_neg (by omega), if_neg (by omega)]
          obtain ⟨v, hv, hr⟩ := h4.cell i d hd
          exact ⟨v, by simpa using hv, h4.one i v (List.getElem?_eq_some_iff.1 hd).1 hv, hr⟩

theorem AInv.voidEmpty (hI : AInv w S β H) (slot : Nat) (hv : H[slot]? = some Blk.void) (H1 : AHeap) (hH1 : H1 = H ∨ ∃ b, b ≠ slot ∧ H1 = H.set b .dead) :
    ∃ β', AInv w S β' (H1.set slot (.live [])) ∧ Evo w S β H w S β' (H1.set slot (.live [])) := by
  have hlt : slot < H.length := (List.getElem?_eq_some_iff.1 hv).1
  have hβv := hI.void slot hv
  have hbk : ∀ b x, Bk β b x → Bk (β.set slot (some none)) b x := fun b x h => by
    unfold Bk at *
    by_cases hb : b = slot
    · subst hb; rw [hβv] at h; cases h
    · rw [List.getElem?_set_ne (Ne.symm hb)]; exact h
  have hlen : H1.length = H.length := by rcases hH1 with rfl | ⟨b, _, rfl⟩ <;> simp
  have hget : ∀ (b' : Nat) (x : Blk), b' ≠ slot → (H1.set slot (.live []))[b']? = some x → x = Blk.dead ∨ H[b']? = some x := fun b' x hb h => by
    rw [List.getElem?_set_ne (Ne.symm hb)] at h
    rcases hH1 with rfl | ⟨b, _, rfl⟩
    · exact .inr h
    · by_cases e : b = b'
      · subst e
        by_cases hl : b < H.length
        · rw [List.getElem?_set_self hl] at h; cases h; exact .inl rfl
        · rw [List.set_eq_of_length_le (by omega)] at h; exact .inr h
      · rw [List.getElem?_set_ne e] at h; exact .inr h
  have hgets : (H1.set slot (.live []))[slot]? = some (.live []) := List.getElem?_set_self (by omega)
  have keep : ∀ {d v}, Rel w S β d v → Rel w S (β.set slot (some none)) d v := fun h => h.keep (fun _ _ => rfl) (fun _ h => h) hbk (fun _ _ h => h)
  have lies : ∀ {cs b0 o1 vs0 T0 fr0}, Lies w S β cs b0 o1 vs0 T0 fr0 → Lies w S (β.set slot (some none)) cs b0 o1 vs0 T0 fr0 := fun h =>
    ⟨h.heap, h.one, fun i d hd => let ⟨v, h1, h2⟩ := h.cell i d hd; ⟨v, h1, keep h2⟩⟩
  have hother : ∀ b', b' ≠ slot → (β.set slot (some none))[b']? = β[b']? := fun b' hb => List.getElem?_set_ne (Ne.symm hb)
  have hself : (β.set slot (some none))[slot]? = some (some none) := List.getElem?_set_self (by rw [hI.len]; exact hlt)
  refine ⟨β.set slot (some none), ⟨by simp [hlen, hI.len], fun b cs h => ?_, fun b cs h => ?_, fun b b' cs cs' blk off off' h h' k k' => ?_, hI.old, fun b h => ?_⟩,
    ⟨rfl, rfl, Nat.le_refl _, fun _ _ _ => rfl, fun _ _ h => h, fun _ h => h, hbk, fun _ h => .inl h, ?_⟩⟩
  · by_cases hb : b = slot
    · subst hb; rw [hgets] at h; cases h
      exact .inl ⟨rfl, hself⟩
    · rcases hget b _ hb h with h | h
      · cases h
      · rcases hI.live b cs h with ⟨h1, h2⟩ | ⟨b0, o, vs0, T0, fr0, h3, h4, h5, h6⟩
        · exact .inl ⟨h1, hbk _ _ h2⟩
        · exact .inr ⟨b0, o, vs0, T0, fr0, hbk _ _ h3, h4, h5, lies h6⟩
  · by_cases hb : b = slot
    · subst hb; rw [hgets] at h; cases h
    · rcases hget b _ hb h with h | h
      · cases h
      · rcases hI.froz b cs h with ⟨h1, h2⟩ | ⟨b0, o, vs0, T0, fr0, h3, h4, h6⟩
        · exact .inl ⟨h1, hbk _ _ h2⟩
        · exact .inr ⟨b0, o, vs0, T0, fr0, hbk _ _ h3, h4, lies h6⟩
  · have hb : b ≠ slot := fun e => by subst e; unfold Bk at k; rw [hself] at k; cases k
    have hb' : b' ≠ slot := fun e => by subst e; unfold Bk at k'; rw [hself] at k'; cases k'
    unfold Bk at k k'
    rw [hother b hb] at k
    rw [hother b' hb'] at k'
    rcases hget b _ hb h with h | h
    · cases h
    rcases hget b' _ hb' h' with h' | h'
    · cases h'
    exact hI.apart b b' cs cs' blk off off' h h' k k'
  · by_cases hb : b = slot
    · subst hb; rw [hgets] at h; cases h
    · rcases hget b _ hb h with h | h
      · cases h
      · rw [hother b hb]; exact hI.void b h
  · rintro b ⟨i, cs, o, h, k⟩
    have hb : i ≠ slot := fun e => by subst e; unfold Bk at k; rw [hself] at k; cases k
    unfold Bk at k
    rw [hother i hb] at k
    rcases hget i _ hb h with h | h
    · cases h
    · exact .inl ⟨i, cs, o, h, k⟩

theorem store_ok (hT : TyOk P τ) (hI : AInv w S β H) {t : TypeId} {x d : D} {v u : Value} (hx : Rel w S β x v) (hd : Rel w S β d u) (ho : (aStore τ t x d H).ob) :
    ∃ w', (Instr.storeAt t v u).run P w = .ok () w' ∧ AInv w' S β (aStore τ t x d H).H ∧ Evo w S β H w' S β (aStore τ t x d H).H := by
  cases hx with
  | ptr b o blk off hk =>
    cases hb : H[b]? with
    | none => simp [aStore, hb, bad] at ho
    | some bl =>
      cases bl with
      | live cs =>
        simp only [aStore, hb] at ho ⊢
        obtain ⟨hkn, hl, h1, hfit⟩ := ho
        obtain ⟨hs, hr⟩ := hd.cells_of h1
        have ht := hT t hkn
        by_cases hz : d.cells = []
        · rw [hz] at hl hs hfit ⊢
          have hu0 : u.cells = #[] := Array.eq_empty_of_size_eq_zero (by simpa using hs)
          have e : splice cs o ([] : List D) = cs := by simp [splice]
          rw [e]
          have e2 : H.set b (.live cs) = H := set_self hb
          rw [e2]
          refine ⟨w, ?_, hI, Evo.refl _ _ _ _⟩
          simp only [List.length_nil] at hl
          simp [Instr.storeAt, Instr.sureAddr, storeVar, ht.run_sizeOf, hu0, ← hl, storeCells]
        · obtain ⟨w', h3, h4, h5⟩ := hI.write (P := P) hb hk o d.cells u.cells.toList (.inr hz) (by simpa using hs) hfit (fun i d hd => by
            obtain ⟨u', h6, h7, h8⟩ := hr i d hd
            exact ⟨u', by simpa using h6, h7, h8⟩)
          refine ⟨w', ?_, h4, h5⟩
          have hsz : u.cells.size = (τ t).size := by rw [hs, hl]
          simp [Instr.storeAt, Instr.sureAddr, storeVar, ht.run_sizeOf, hsz, h3]
      | _ => simp [aStore, hb, bad] at ho
  | _ => simp [aStore, bad] at ho

theorem newVar_ok (hI : AInv w S β H) (t : TypeId) {d : D} {u : Value} (hd : Rel w S β d u) (h1 : d.cells.all D.one = true) {slot : Nat} (hv : H[slot]? = some Blk.void) :
    ∃ a w' β', (newVar t u).run P w = .ok a w' ∧ AInv w' S β' (H.set slot (.live d.cells)) ∧ Evo w S β H w' S β' (H.set slot (.live d.cells)) ∧ Rel w' S β' (.ptr slot 0) (.pointer (some a)) := by
  obtain ⟨hs, hr⟩ := hd.cells_of h1
  obtain ⟨β', h3, h4, h5⟩ := hI.alloc slot hv u.cells t d.cells (fun i d hd => hr i d hd)
  exact ⟨⟨w.heap.size, 0, none⟩, _, β', by simp [newVar, newRow], h3, h4, .ptr slot 0 w.heap.size 0 h5⟩

theorem ofVal_ones {v : Value} (h : okVal v = true) : (ofVal v).cells.all D.one = true := by
  have one : ∀ u, okCell u = true → (ofVal u).one = true ∧ (ofVal u).cells = [ofVal u] := fun u hu => by
    cases u with
    | pointer a => cases a <;> simp [okCell] at hu; simp [ofVal, D.one, D.cells]
    | slice a l c => cases a <;> simp [okCell] at hu; simp [ofVal, D.one, D.cells]
    | _ => first | (simp [okCell] at hu; done) | simp [ofVal, D.one, D.cells]
  cases v with
  | agg cs =>
    simp only [okVal, List.all_eq_true] at h
    simp only [ofVal, ofVals_eq, D.cells, List.all_eq_true, List.mem_map]
    rintro _ ⟨u, hu, rfl⟩
    exact (one u (h u hu)).1
  | _ =>
    have h' := one _ (by simpa [okVal] using h)
    rw [h'.2]
    simpa using h'.1

theorem alloc_ok (hT : TyOk P τ) (hI : AInv w S β H) {t : TypeId} {slot : Nat} (hv : H[slot]? = some Blk.void) : OpOk P w S β H (Instr.alloc t true (.tuple #[])) (aAlloc τ t slot H) := by
  intro ho
  obtain ⟨hk, ho⟩ := ho
  have ht := hT t hk
  obtain ⟨a, w', β', h1, h2, h3, h4⟩ := newVar_ok (P := P) hI t (ofVal_rel w S β ho) (ofVal_ones ho) hv
  exact ⟨.pointer (some a), w', S, β', by simp [Instr.alloc, ht.run_zero, h1], h2, h3, h4⟩

theorem box_ok (hI : AInv w S β H) {t : TypeId} {slot : Nat} (hv : H[slot]? = some Blk.void) {d : D} {u : Value} (hd : Rel w S β d u) : OpOk P w S β H (Instr.box t u) (aBox d slot H) := by
  intro ho
  obtain ⟨a, w', β', h1, h2, h3, h4⟩ := newVar_ok (P := P) hI t hd ho hv
  exact ⟨.pointer (some a), w', S, β', by simp [Instr.box, h1], h2, h3, h4⟩

end
end Go.Proofs.YtlkffgmejcgdbaaDoor
