/- The abstract operations: what each operation of the loaded code gives, and what must hold that it does. Of no program. -/
import Derived.Test.YtbabdalfkmdlhaaA1
namespace Go.Proofs.Ytbabdalfkmdlhaa
set_option linter.all false

/-- A type's shape, as far as operations ask for it. -/
inductive TD where
  | bool
  | int (k : IntKind)
  | str
  | ptr (e : TypeId)
  | slice (e : TypeId)
  | array (n : Nat) (e : TypeId)
  | struct (fs : List (Nat × TypeId))
  | other
  | none

def TD.of : TypeDesc → TD
  | .bool => .bool
  | .int k => .int k
  | .string => .str
  | .pointer e => .ptr e
  | .slice e => .slice e
  | .array n e => .array n e
  | .struct fs => .struct (fs.toList.map fun f => (f.offset, f.type))
  | _ => .other

def TD.known : TD → Bool
  | .none => false
  | _ => true

def TD.isSeq : TD → Bool
  | .slice _ | .str => true
  | _ => false

def TD.isAgg : TD → Bool
  | .array _ _ | .struct _ => true
  | _ => false

structure TyRow where
  td : TD
  size : Nat
  bytes : Nat
  zero : Value
  eq : Bool := false

abbrev Ty := TypeId → TyRow

mutual
def ofVal : Value → D
  | .bool b => .bool b
  | .int k n => .int k n
  | .string s => .str s.data.toList
  | .slice none _ _ => .nil
  | .pointer none => .nilp
  | .nilFunc => .nilf
  | .nilIface => .niface
  | .agg cs => .agg (ofVals cs.toList)
  | .func f _ _ => .fn f []
  | _ => .any
def ofVals : List Value → List D
  | [] => []
  | v :: vs => ofVal v :: ofVals vs
end

def okCell : Value → Bool
  | .bool _ | .pointer none | .nilFunc | .nilIface => true
  | .int k n => decide (k.min ≤ n) && decide (n ≤ k.max)
  | .string s => decide (s.size ≤ maxLen)
  | .slice none 0 0 => true
  | .func _ a b => a.isEmpty && b.isEmpty
  | _ => false

def okVal : Value → Bool
  | .agg cs => cs.toList.all okCell
  | v => okCell v

abbrev Env := List (Nat × D)

def get : Env → Nat → D
  | [], _ => .any
  | (k, d) :: r, t => bif k == t then d else get r t

def put (env : Env) (dst : Option Tmp) (d : D) : Env :=
  match dst with
  | some t => (t, d) :: env
  | none => env

def aeval (env : Env) : Operand → D
  | .tmp t => get env t
  | .const v => ofVal v
  | .func f => .fn (.func f) []
  | .global _ => .any

/-- What an operation comes to: what it asks, its value, the blocks behind it. -/
structure R where
  ob : Prop
  d : D
  H : AHeap

def bad : R := ⟨False, .any, []⟩

def aInt (op : BinOp) (k : IntKind) (a : Int) (k' : IntKind) (b : Int) (H : AHeap) : R :=
  match op with
  | .add => ⟨k = k', .int k (k.wrap (a + b)), H⟩
  | .sub => ⟨k = k', .int k (k.wrap (a - b)), H⟩
  | .mul => ⟨k = k', .int k (k.wrap (a * b)), H⟩
  | .quo => ⟨k = k' ∧ b ≠ 0, .int k (k.wrap (a.tdiv b)), H⟩
  | .rem => ⟨k = k' ∧ b ≠ 0, .int k (a.tmod b), H⟩
  | .and => ⟨k = k', .int k (k.wrap (BitVec.ofInt k.bits a &&& BitVec.ofInt k.bits b).toNat), H⟩
  | .or => ⟨k = k', .int k (k.wrap (BitVec.ofInt k.bits a ||| BitVec.ofInt k.bits b).toNat), H⟩
  | .xor => ⟨k = k', .int k (k.wrap (BitVec.ofInt k.bits a ^^^ BitVec.ofInt k.bits b).toNat), H⟩
  | .andNot => ⟨k = k', .int k (k.wrap (BitVec.ofInt k.bits a &&& ~~~BitVec.ofInt k.bits b).toNat), H⟩
  | .shl => ⟨0 ≤ b, .int k (k.wrap (a * 2 ^ (min b.toNat k.bits))), H⟩
  | .shr => ⟨0 ≤ b, .int k (a.fdiv (2 ^ (min b.toNat k.bits))), H⟩
  | .eql => ⟨k = k', .bool (a == b), H⟩
  | .neq => ⟨k = k', .bool (a != b), H⟩
  | .lss => ⟨k = k', .bool (decide (a < b)), H⟩
  | .leq => ⟨k = k', .bool (decide (a ≤ b)), H⟩
  | .gtr => ⟨k = k', .bool (decide (a > b)), H⟩
  | .geq => ⟨k = k', .bool (decide (a ≥ b)), H⟩

def aStr (op : BinOp) (a b : List UInt8) (H : AHeap) : R :=
  match op with
  | .add => ⟨a.length + b.length ≤ maxLen, .str (a ++ b), H⟩
  | .eql => ⟨True, .bool (a == b), H⟩
  | .neq => ⟨True, .bool (!(a == b)), H⟩
  | .lss => ⟨True, .bool (Op.bytesLess a b), H⟩
  | .leq => ⟨True, .bool (Op.bytesLess a b || a == b), H⟩
  | .gtr => ⟨True, .bool (!(Op.bytesLess a b || a == b)), H⟩
  | .geq => ⟨True, .bool (!Op.bytesLess a b), H⟩
  | _ => bad

/-- Equality of two structs' or arrays' cells: integers, bools, strings alone. -/
def eqCells : List D → List D → Bool
  | [], [] => true
  | .int _ a :: xs, .int _ b :: ys => (a == b) && eqCells xs ys
  | .bool a :: xs, .bool b :: ys => (a == b) && eqCells xs ys
  | .str a :: xs, .str b :: ys => (a == b) && eqCells xs ys
  | _, _ => false

def sameCells : List D → List D → Bool
  | [], [] => true
  | .int k _ :: xs, .int k' _ :: ys => decide (k = k') && sameCells xs ys
  | .bool _ :: xs, .bool _ :: ys => sameCells xs ys
  | .str _ :: xs, .str _ :: ys => sameCells xs ys
  | _, _ => false

/-- A struct's fields, or an array, of one cell each: integers, bools, strings: which. -/
def flatTD (τ : Ty) : List (Nat × TypeId) → Nat → List D → Bool
  | [], _, [] => true
  | (off, t) :: fs, i, d :: ds => decide (off = i) && (match (τ t).td, d with
      | .int k, .int k' _ => decide (k = k')
      | .bool, .bool _ => true
      | .str, .str _ => true
      | _, _ => false) && flatTD τ fs (i + 1) ds
  | _, _, _ => false

def aBin (τ : Ty) (op : BinOp) (t : TypeId) (x y : D) (H : AHeap) : R :=
  match x with
  | .int k a => (match y with | .int k' b => aInt op k a k' b H | _ => bad)
  | .str a => (match y with | .str b => aStr op a b H | _ => bad)
  | .bool a => (match y with
    | .bool b => (match op with
      | .eql => ⟨(τ t).td = .bool, .bool (a == b), H⟩
      | .neq => ⟨(τ t).td = .bool, .bool (!(a == b)), H⟩
      | _ => bad)
    | _ => bad)
  | .agg xs => (match y with
    | .agg ys => (match op with
      | .eql => ⟨∃ fs, (τ t).td = .struct fs ∧ (τ t).eq = true ∧ flatTD τ fs 0 xs = true ∧ flatTD τ fs 0 ys = true, .bool (eqCells xs ys), H⟩
      | .neq => ⟨∃ fs, (τ t).td = .struct fs ∧ (τ t).eq = true ∧ flatTD τ fs 0 xs = true ∧ flatTD τ fs 0 ys = true, .bool (!eqCells xs ys), H⟩
      | _ => bad)
    | _ => bad)
  | _ => bad

def aUn (op : UnOp) (x : D) (H : AHeap) : R :=
  match op, x with
  | .neg, .int k n => ⟨True, .int k (k.wrap (0 - n)), H⟩
  | .xor, .int k n => ⟨True, .int k (k.wrap (BitVec.ofInt k.bits (if k.signed then -1 else k.max) ^^^ BitVec.ofInt k.bits n).toNat), H⟩
  | .not, .bool b => ⟨True, .bool (!b), H⟩
  | _, _ => bad

def byteD (b : UInt8) : D := .int .u8 b.toNat
def unbyte : D → UInt8
  | .int _ n => UInt8.ofNat n.toNat
  | _ => 0
def isByte : D → Bool
  | .int .u8 _ => true
  | _ => false

/-- The cells of what a block is told to hold. -/
def Blk.cells : Blk → Option (List D)
  | .live cs | .froz cs => some cs
  | _ => none

def cellsAt (H : AHeap) (b : Nat) : Option (List D) := (H[b]?).bind Blk.cells

/-- The cells of a slice's or a string's elements, and how many elements. -/
def elemCells (H : AHeap) : D → Option (List D × Nat)
  | .nil => some ([], 0)
  | .str s => some (s.map byteD, s.length)
  | .sl _ es _ => some (es.flatMap D.cells, es.length)
  | .ref b o len sz => match cellsAt H b with
    | some cs => some ((cs.drop o).take (len * sz), len)
    | none => none
  | _ => none

def aConv (τ : Ty) (src dst : TypeId) (x : D) (slot : Nat) (H : AHeap) : R :=
  match (τ dst).td with
  | .int k => (match x with | .int _ n => ⟨(τ src).td.known = true, .int k (k.wrap n), H⟩ | _ => bad)
  | .str => (match x with
    | .str s => ⟨(τ src).td = .str, .str s, H⟩
    | .nil => ⟨∃ e, (τ src).td = .slice e ∧ (τ e).td = .int .u8, .str [], H⟩
    | .sl sz es _ => ⟨(∃ e, (τ src).td = .slice e ∧ (τ e).td = .int .u8) ∧ sz = 1 ∧ es.all isByte = true, .str (es.map unbyte), H⟩
    | .ref b o len sz => (match cellsAt H b with
      | some cs => ⟨(∃ e, (τ src).td = .slice e ∧ (τ e).td = .int .u8) ∧ sz = 1 ∧ o + len ≤ cs.length ∧ ((cs.drop o).take len).all isByte = true, .str (((cs.drop o).take len).map unbyte), H⟩
      | none => bad)
    | _ => bad)
  | .slice e => (match x with
    | .str s => ⟨(τ e).td = .int .u8 ∧ (τ e).size = 1 ∧ (τ src).td = .str, .ref slot 0 s.length 1, H.set slot (.live (s.map byteD))⟩
    | _ => bad)
  | _ => bad

def asNat? : Option D → Option (Option Int)
  | none => some none
  | some (.int _ n) => some (some n)
  | _ => none

def cutTight (tight : Bool) : Option Int → Option Int → Bool
  | some m, some h => decide (m = h)
  | _, none => tight
  | none, some _ => false

def aSlice (τ : Ty) (t : TypeId) (x : D) (lo hi mx : Option D) (H : AHeap) : R :=
  match asNat? lo, asNat? hi, asNat? mx with
  | some l, some h, some m =>
    (match x with
    | .str s => ⟨(τ t).td = .str ∧ mx.isNone = true ∧ 0 ≤ l.getD 0 ∧ l.getD 0 ≤ h.getD s.length ∧ h.getD s.length ≤ s.length, .str ((s.take (h.getD s.length).toNat).drop (l.getD 0).toNat), H⟩
    | .nil => ⟨(∃ e, (τ t).td = .slice e ∧ (τ e).td.known = true) ∧ l.getD 0 = 0 ∧ h.getD 0 = 0 ∧ m.getD 0 = 0 ∧ (hi.isNone = true → mx.isNone = true), .nil, H⟩
    | .sl sz es tight =>
      ⟨(∃ e, (τ t).td = .slice e ∧ (τ e).size = sz ∧ (τ e).td.known = true) ∧ 0 ≤ l.getD 0 ∧ l.getD 0 ≤ h.getD es.length ∧ h.getD es.length ≤ m.getD es.length ∧ m.getD es.length ≤ es.length ∧ (hi.isNone = true → mx.isNone = true),
        .sl sz ((es.take (h.getD es.length).toNat).drop (l.getD 0).toNat) (cutTight tight m h), H⟩
    | .ref b o len sz =>
      ⟨(∃ e, (τ t).td = .slice e ∧ (τ e).size = sz ∧ (τ e).td.known = true) ∧ 0 ≤ l.getD 0 ∧ l.getD 0 ≤ h.getD len ∧ h.getD len ≤ m.getD len ∧ m.getD len ≤ len ∧ (hi.isNone = true → mx.isNone = true),
        .ref b (o + (l.getD 0).toNat * sz) ((h.getD len).toNat - (l.getD 0).toNat) sz, H⟩
    | .ptr b o => (match (τ t).td with
      | .array n e => ⟨0 ≤ l.getD 0 ∧ l.getD 0 ≤ h.getD n ∧ h.getD n ≤ n ∧ mx.isNone = true ∧ n ≤ maxLen ∧ (τ e).td.known = true ∧ 0 < n * (τ e).size ∧ (∃ cs, cellsAt H b = some cs ∧ o + n * (τ e).size ≤ cs.length),
          .ref b (o + (l.getD 0).toNat * (τ e).size) ((h.getD n).toNat - (l.getD 0).toNat) (τ e).size, H⟩
      | _ => bad)
    | _ => bad)
  | _, _, _ => bad

def aIndexAddr (τ : Ty) (t : TypeId) (x ix : D) (H : AHeap) : R :=
  match ix with
  | .int _ i => (match (τ t).td with
    | .slice e => (match x with
      | .sl sz es _ => ⟨0 ≤ i ∧ i < es.length ∧ sz = (τ e).size ∧ (τ e).td.known = true, .cp (es.getD i.toNat .any).cells, H⟩
      | .ref b o len sz => ⟨0 ≤ i ∧ i < len ∧ sz = (τ e).size ∧ (τ e).td.known = true, .ptr b (o + i.toNat * sz), H⟩
      | _ => bad)
    | .array n e => (match x with
      | .ptr b o => ⟨0 ≤ i ∧ i < n ∧ (τ e).td.known = true, .ptr b (o + i.toNat * (τ e).size), H⟩
      | .cp cs => ⟨0 ≤ i ∧ i < n ∧ (τ e).td.known = true, .cp (cs.drop (i.toNat * (τ e).size)), H⟩
      | _ => bad)
    | _ => bad)
  | _ => bad

def aFieldAddr (τ : Ty) (t : TypeId) (x : D) (f : Nat) (H : AHeap) : R :=
  match (τ t).td with
  | .struct fs => (match fs[f]? with
    | some (off, ft) => (match x with
      | .ptr b o => ⟨(τ ft).size ≠ 0 ∧ (τ ft).td.known = true, .ptr b (o + off), H⟩
      | .cp cs => ⟨(τ ft).size ≠ 0 ∧ (τ ft).td.known = true, .cp (cs.drop off), H⟩
      | _ => bad)
    | none => bad)
  | _ => bad

/-- A part of cells, as a value of a type. -/
def partD (r : TyRow) (cs : List D) (off : Nat) : D :=
  if r.td.isAgg then .agg ((cs.drop off).take r.size) else cs.getD off .any

def partOb (r : TyRow) (cs : List D) (off : Nat) : Prop :=
  r.td.known = true ∧ if r.td.isAgg then off + r.size ≤ cs.length else off < cs.length

def aField (τ : Ty) (t : TypeId) (x : D) (f : Nat) (H : AHeap) : R :=
  match (τ t).td with
  | .struct fs => (match fs[f]? with
    | some (off, ft) => (match x with
      | .agg cs => ⟨partOb (τ ft) cs off, partD (τ ft) cs off, H⟩
      | _ => bad)
    | none => bad)
  | _ => bad

def aIndex (τ : Ty) (t : TypeId) (x ix : D) (H : AHeap) : R :=
  match ix with
  | .int _ i => (match x with
    | .str s => ⟨(τ t).td = .str ∧ 0 ≤ i ∧ i < s.length, byteD (s.getD i.toNat 0), H⟩
    | .agg cs => (match (τ t).td with
      | .array n e => ⟨0 ≤ i ∧ i < n ∧ partOb (τ e) cs (i.toNat * (τ e).size), partD (τ e) cs (i.toNat * (τ e).size), H⟩
      | _ => bad)
    | _ => bad)
  | _ => bad

def aLoad (τ : Ty) (t : TypeId) (x : D) (H : AHeap) : R :=
  match x with
  | .ptr b o => (match cellsAt H b with
    | some cs => ⟨partOb (τ t) cs o, partD (τ t) cs o, H⟩
    | none => bad)
  | .cp cs => ⟨partOb (τ t) cs 0, partD (τ t) cs 0, H⟩
  | _ => bad

/-- 'vs' in the place of what stands from 'o' on. -/
def splice {α : Type} (cs : List α) (o : Nat) (vs : List α) : List α := cs.take o ++ vs ++ cs.drop (o + vs.length)

def aStore (τ : Ty) (t : TypeId) (x v : D) (H : AHeap) : R :=
  match x with
  | .ptr b o => (match H[b]? with
    | some (.live cs) => ⟨(τ t).td.known = true ∧ v.cells.length = (τ t).size ∧ v.cells.all D.one = true ∧ o + v.cells.length ≤ cs.length, .any, H.set b (.live (splice cs o v.cells))⟩
    | _ => bad)
  | _ => bad

def aAlloc (τ : Ty) (t : TypeId) (slot : Nat) (H : AHeap) : R := ⟨(τ t).td.known = true ∧ okVal (τ t).zero = true, .ptr slot 0, H.set slot (.live (ofVal (τ t).zero).cells)⟩

def aBox (v : D) (slot : Nat) (H : AHeap) : R := ⟨v.cells.all D.one = true, .ptr slot 0, H.set slot (.live v.cells)⟩

def fillD (place : Nat → Option (Nat × Nat)) : List (Nat × D) → List D → Option (List D)
  | [], cs => some cs
  | (i, v) :: rest, cs =>
    match place i with
    | none => none
    | some (off, size) => if v.cells.length = size ∧ off + size ≤ cs.length ∧ v.cells.all D.one = true then fillD place rest (splice cs off v.cells) else none

def aBuild (τ : Ty) (t : TypeId) (parts : List (Nat × D)) (H : AHeap) : R :=
  match (τ t).td with
  | .struct fs => (match fillD (fun i => (fs[i]?).map fun f => (f.1, (τ f.2).size)) parts (ofVal (τ t).zero).cells with
    | some cs => ⟨okVal (τ t).zero = true ∧ (fs.all fun f => (τ f.2).td.known) = true, .agg cs, H⟩
    | none => bad)
  | .array _ e => (match fillD (fun i => some (i * (τ e).size, (τ e).size)) parts (ofVal (τ t).zero).cells with
    | some cs => ⟨okVal (τ t).zero = true ∧ (τ e).td.known = true, .agg cs, H⟩
    | none => bad)
  | _ => bad

def aBuildSlice (τ : Ty) (t : TypeId) (n : Nat) (parts : List (Nat × D)) (slot : Nat) (H : AHeap) : R :=
  match (τ t).td with
  | .slice e => (match fillD (fun i => some (i * (τ e).size, (τ e).size)) parts ((List.replicate n (ofVal (τ e).zero).cells).flatten) with
    | some cs => ⟨(τ e).td.known = true ∧ n ≤ maxLen ∧ okVal (τ e).zero = true ∧ n * (τ e).size ≤ 2 ^ 24 ∧ (ofVal (τ e).zero).cells.length = (τ e).size, .ref slot 0 n (τ e).size, H.set slot (.live cs)⟩
    | none => bad)
  | _ => bad

def aMakeSlice (τ : Ty) (t : TypeId) (len cap : D) (slot : Nat) (H : AHeap) : R :=
  match (τ t).td with
  | .slice e => (match len with
    | .int _ l => (match cap with
      | .int _ c => ⟨0 ≤ l ∧ l ≤ c ∧ c ≤ 9223372036854775807 ∧ (τ e).bytes * c ≤ 281474976710656 ∧ (τ e).td.known = true ∧ okVal (τ e).zero = true ∧ (ofVal (τ e).zero).cells.length = (τ e).size,
          .ref slot 0 l.toNat (τ e).size, H.set slot (.live ((List.replicate l.toNat (ofVal (τ e).zero).cells).flatten))⟩
      | _ => bad)
    | _ => bad)
  | _ => bad

def aLen (τ : Ty) (t : TypeId) (x : D) (H : AHeap) : R :=
  match (τ t).td with
  | .str => (match x with | .str s => ⟨True, .int .i64 s.length, H⟩ | _ => bad)
  | .array n _ => ⟨n ≤ maxLen, .int .i64 n, H⟩
  | .slice _ => (match x with
    | .sl _ es _ => ⟨True, .int .i64 es.length, H⟩
    | .ref _ _ len _ => ⟨True, .int .i64 len, H⟩
    | .nil => ⟨True, .int .i64 0, H⟩
    | _ => bad)
  | _ => bad

def aMax : D → List D → Option D
  | .int k x, [] => some (.int k x)
  | .int k x, .int k' y :: r => if k = k' then aMax (.int k (if y > x then y else x)) r else none
  | _, _ => none
def aMin : D → List D → Option D
  | .int k x, [] => some (.int k x)
  | .int k x, .int k' y :: r => if k = k' then aMin (.int k (if y < x then y else x)) r else none
  | _, _ => none

/-- Elements out of cells. -/
def chunk (agg : Bool) (sz : Nat) : Nat → List D → List D
  | 0, _ => []
  | n + 1, cs => (if agg then .agg (cs.take sz) else cs.getD 0 .any) :: chunk agg sz n (cs.drop sz)

def aAppend (τ : Ty) (ts : List TypeId) (s x : D) (slot : Nat) (H : AHeap) : R :=
  match ts with
  | [t, t'] =>
    (match (τ t).td with
    | .slice e => (match elemCells H x with
      | some (xs, n) => (match s with
        | .nil => ⟨xs.all D.one = true ∧ xs.length = n * (τ e).size ∧ n * (τ e).bytes ≤ 140737488355328 ∧ n ≤ maxLen ∧ (τ e).td.known = true ∧ (τ t').td.isSeq = true ∧ okVal (τ e).zero = true ∧ (ofVal (τ e).zero).cells.length = (τ e).size,
            .ref slot 0 n (τ e).size, H.set slot (.live xs)⟩
        | .ref b o len sz => (match H[b]? with
          | some (.live cs) => ⟨xs.all D.one = true ∧ xs.length = n * (τ e).size ∧ sz = (τ e).size ∧ o + len * sz ≤ cs.length ∧ (len + n) * (τ e).bytes ≤ 140737488355328 ∧ len + n ≤ maxLen ∧ (τ e).td.known = true ∧ (τ t').td.isSeq = true ∧ okVal (τ e).zero = true ∧ (ofVal (τ e).zero).cells.length = (τ e).size ∧ b ≠ slot,
              .ref slot 0 (len + n) sz, (H.set b .dead).set slot (.live ((cs.drop o).take (len * sz) ++ xs))⟩
          | _ => bad)
        | .sl sz es true => ⟨xs.all D.one = true ∧ xs.length = n * (τ e).size ∧ sz = (τ e).size ∧ (es.length + n) * (τ e).bytes ≤ 140737488355328 ∧ es.length + n ≤ maxLen ∧ (τ e).td.known = true ∧ (τ t').td.isSeq = true ∧ okVal (τ e).zero = true ∧ (ofVal (τ e).zero).cells.length = (τ e).size ∧ ((τ e).td.isAgg = false → (τ e).size = 1),
            .sl sz (es ++ chunk (τ e).td.isAgg sz n xs) false, H⟩
        | _ => bad)
      | none => bad)
    | _ => bad)
  | _ => bad

def aCopy (τ : Ty) (ts : List TypeId) (dst src : D) (H : AHeap) : R :=
  match ts with
  | t :: _ => (match (τ t).td with
    | .slice e => (match dst with
      | .ref b o len sz => (match H[b]?, elemCells H src with
        | some (.live cs), some (xs, n) =>
          ⟨xs.length = n * (τ e).size ∧ sz = (τ e).size ∧ o + len * sz ≤ cs.length ∧ (τ e).td.known = true,
            .int .i64 (min n len : Nat), H.set b (.live (splice cs o (xs.take (min n len * sz))))⟩
        | _, _ => bad)
      | _ => bad)
    | _ => bad)
  | _ => bad

def aBuiltin (τ : Ty) (b : Builtin) (ts : List TypeId) (args : List D) (slot : Nat) (H : AHeap) : R :=
  match b with
  | .len => (match ts, args with | [t], [x] => aLen τ t x H | _, _ => bad)
  | .max => (match args with | x :: r => (match aMax x r with | some d => ⟨True, d, H⟩ | none => bad) | _ => bad)
  | .min => (match args with | x :: r => (match aMin x r with | some d => ⟨True, d, H⟩ | none => bad) | _ => bad)
  | .append => (match args with | [s, x] => aAppend τ ts s x slot H | _ => bad)
  | .copy => (match args with | [d, s] => aCopy τ ts d s H | _ => bad)
  | _ => bad

def aop (τ : Ty) (ev : Operand → D) (slot : Nat) (H : AHeap) : Op → R
  | .move x | .assign x => ⟨True, ev x, H⟩
  | .pick c a b => (match ev c with | .bool true => ⟨True, ev a, H⟩ | .bool false => ⟨True, ev b, H⟩ | _ => bad)
  | .alloc t => aAlloc τ t slot H
  | .box _ v => aBox (ev v) slot H
  | .build t ps => aBuild τ t (ps.toList.map fun p => (p.1, ev p.2)) H
  | .buildSlice t n ps => aBuildSlice τ t n (ps.toList.map fun p => (p.1, ev p.2)) slot H
  | .load t a => aLoad τ t (ev a) H
  | .store t a v => aStore τ t (ev a) (ev v) H
  | .nilCheck x => (match ev x with | .ptr b o => ⟨True, .ptr b o, H⟩ | .cp cs => ⟨True, .cp cs, H⟩ | .fn (.func f) cap => ⟨True, .fn (.func f) cap, H⟩ | _ => bad)
  | .binOp op t x y _ => aBin τ op t (ev x) (ev y) H
  | .unOp op _ x => aUn op (ev x) H
  | .convert src dst x => aConv τ src dst (ev x) slot H
  | .makeFunc (.func f) first cap => ⟨first = #[], .fn (.func f) (cap.toList.map ev), H⟩
  | .makeSlice t l c => aMakeSlice τ t (ev l) (ev c) slot H
  | .slice t x lo hi mx => aSlice τ t (ev x) (lo.map ev) (hi.map ev) (mx.map ev) H
  | .fieldAddr t x f => aFieldAddr τ t (ev x) f H
  | .field t x f => aField τ t (ev x) f H
  | .indexAddr t x i => aIndexAddr τ t (ev x) (ev i) H
  | .index t x i => aIndex τ t (ev x) (ev i) H
  | .extract x i => (match ev x with | .tup ds => ⟨i < ds.length, ds.getD i .any, H⟩ | _ => bad)
  | .call { callee := .builtin b, args, argTypes } => aBuiltin τ b argTypes.toList (args.toList.map ev) slot H
  | _ => bad

end Go.Proofs.Ytbabdalfkmdlhaa
