/-
  No cell of these rows narrows 'for every input' (looked for: loops, veiled, ifaces, maps, wideKeys, modest, calm, conditions, laid).
  DERIVED. THE GIVEN ROWS OF THIS SEAT. 12 by the template 'for every input the law returns true; each argument reads behind the call as it read before'; 0 by the template 'total and deterministic' (their statements: YtlpbhmhkobhkeaaTotals.lean).
  GIVEN WITH THE SEED: the statements are not yours to turn. If you find one false, say at which input.
  Laid BY PROGRAM, IN A SANDBOX (cutbox-rows.mjs): the forced cells as the released guide's own fill.sh prints them over the translation f52c063c5ae19ee9… (all of the seat's roots in one cut). By AI agents, Wed Nov 11 2026. No macro, syntax, notation, axiom, sorry.
-/
import Derived.Test.YtlpbhmhkobhkeaaChecked
import GoSem.Claim
import GoSem.ClaimJoined
import GoSem.ClaimMapViews
import Derived.JoinedTies
import Derived.KernelRfl
namespace Go.Proofs.Ytlpbhmhkobhkeaa
/- THE CELL 'sum', in the pinned program and in every row, IS THE sha256 OF THE DUMP (.gsa) THAT YtlpbhmhkobhkeaaProg.lean LOADS. Nothing in Lean hashes anything: it is a label: what it is worth is what the hold of that sum in a sandbox is worth. -/
noncomputable def Try.pinned : Pinned := { name := "ytlpbhmhkobhkeaa", sum := "f52c063c5ae19ee98cc42b2246822f9dd16ef7e5999b59daa802197ce1c9fa69", checked := Try.checked }
namespace Rows
def none {H : Type} : Left H := { results := [], args := [] }

/-- 'wagonerlaw21.DetectTells': WHATEVER THE INPUT: true; the input reads as it did. -/
def detectTellsSpec : ChangeSpec := { name := "detectTells", fn := fun _ => fun
  | [d] => { results := [.lit (.bool true)], args := [d] }
  | _ => none }
def detectTellsRow : OpenClaim := { program := "ytlpbhmhkobhkeaa", sum := "f52c063c5ae19ee98cc42b2246822f9dd16ef7e5999b59daa802197ce1c9fa69", func := "wagoner/wagonerlaw21.DetectTells", spec := "detectTells", apart := false }
def DetectTellsSaid : Prop := detectTellsRow.holds Try.pinned (OpenSpec.ofChange detectTellsSpec)

/-- ITS FALSE NEIGHBOUR: 'it returns false'. Refute it at one input. -/
def detectTellsWrong : ChangeSpec := { name := "detectTells", fn := fun _ => fun
  | [d] => { results := [.lit (.bool false)], args := [d] }
  | _ => none }
def DetectTellsWrongFalsely : Prop := detectTellsRow.holds Try.pinned (OpenSpec.ofChange detectTellsWrong)

/-- 'wagonerlaw11.RetainTells': WHATEVER THE INPUT: true; the input reads as it did. -/
def retainTellsSpec : ChangeSpec := { name := "retainTells", fn := fun _ => fun
  | [d1, d2, d3] => { results := [.lit (.bool true)], args := [d1, d2, d3] }
  | _ => none }
def retainTellsRow : OpenClaim := { program := "ytlpbhmhkobhkeaa", sum := "f52c063c5ae19ee98cc42b2246822f9dd16ef7e5999b59daa802197ce1c9fa69", func := "wagoner/wagonerlaw11.RetainTells", spec := "retainTells", apart := false }
def RetainTellsSaid : Prop := retainTellsRow.holds Try.pinned (OpenSpec.ofChange retainTellsSpec)

/-- ITS FALSE NEIGHBOUR: 'it returns false'. Refute it at one input. -/
def retainTellsWrong : ChangeSpec := { name := "retainTells", fn := fun _ => fun
  | [d1, d2, d3] => { results := [.lit (.bool false)], args := [d1, d2, d3] }
  | _ => none }
def RetainTellsWrongFalsely : Prop := retainTellsRow.holds Try.pinned (OpenSpec.ofChange retainTellsWrong)

/-- 'wagonerlaw11.RetainLeast': WHATEVER THE INPUT: true; the input reads as it did. -/
def retainLeastSpec : ChangeSpec := { name := "retainLeast", fn := fun _ => fun
  | [d1, d2, d3] => { results := [.lit (.bool true)], args := [d1, d2, d3] }
  | _ => none }
def retainLeastRow : OpenClaim := { program := "ytlpbhmhkobhkeaa", sum := "f52c063c5ae19ee98cc42b2246822f9dd16ef7e5999b59daa802197ce1c9fa69", func := "wagoner/wagonerlaw11.RetainLeast", spec := "retainLeast", apart := false }
def RetainLeastSaid : Prop := retainLeastRow.holds Try.pinned (OpenSpec.ofChange retainLeastSpec)

/-- ITS FALSE NEIGHBOUR: 'it returns false'. Refute it at one input. -/
def retainLeastWrong : ChangeSpec := { name := "retainLeast", fn := fun _ => fun
  | [d1, d2, d3] => { results := [.lit (.bool false)], args := [d1, d2, d3] }
  | _ => none }
def RetainLeastWrongFalsely : Prop := retainLeastRow.holds Try.pinned (OpenSpec.ofChange retainLeastWrong)

/-- 'wagonerlaw11.RetainRises': WHATEVER THE INPUT: true; the input reads as it did. -/
def retainRisesSpec : ChangeSpec := { name := "retainRises", fn := fun _ => fun
  | [d] => { results := [.lit (.bool true)], args := [d] }
  | _ => none }
def retainRisesRow : OpenClaim := { program := "ytlpbhmhkobhkeaa", sum := "f52c063c5ae19ee98cc42b2246822f9dd16ef7e5999b59daa802197ce1c9fa69", func := "wagoner/wagonerlaw11.RetainRises", spec := "retainRises", apart := false }
def RetainRisesSaid : Prop := retainRisesRow.holds Try.pinned (OpenSpec.ofChange retainRisesSpec)

/-- ITS FALSE NEIGHBOUR: 'it returns false'. Refute it at one input. -/
def retainRisesWrong : ChangeSpec := { name := "retainRises", fn := fun _ => fun
  | [d] => { results := [.lit (.bool false)], args := [d] }
  | _ => none }
def RetainRisesWrongFalsely : Prop := retainRisesRow.holds Try.pinned (OpenSpec.ofChange retainRisesWrong)

/-- 'wagonerlaw17.LinkTells': WHATEVER THE INPUT: true; the input reads as it did. -/
def linkTellsSpec : ChangeSpec := { name := "linkTells", fn := fun _ => fun
  | [d] => { results := [.lit (.bool true)], args := [d] }
  | _ => none }
def linkTellsRow : OpenClaim := { program := "ytlpbhmhkobhkeaa", sum := "f52c063c5ae19ee98cc42b2246822f9dd16ef7e5999b59daa802197ce1c9fa69", func := "wagoner/wagonerlaw17.LinkTells", spec := "linkTells", apart := false }
def LinkTellsSaid : Prop := linkTellsRow.holds Try.pinned (OpenSpec.ofChange linkTellsSpec)

/-- ITS FALSE NEIGHBOUR: 'it returns false'. Refute it at one input. -/
def linkTellsWrong : ChangeSpec := { name := "linkTells", fn := fun _ => fun
  | [d] => { results := [.lit (.bool false)], args := [d] }
  | _ => none }
def LinkTellsWrongFalsely : Prop := linkTellsRow.holds Try.pinned (OpenSpec.ofChange linkTellsWrong)

/-- 'wagonerlaw17.LinkPlays': WHATEVER THE INPUT: true; the input reads as it did. -/
def linkPlaysSpec : ChangeSpec := { name := "linkPlays", fn := fun _ => fun
  | [d1, d2] => { results := [.lit (.bool true)], args := [d1, d2] }
  | _ => none }
def linkPlaysRow : OpenClaim := { program := "ytlpbhmhkobhkeaa", sum := "f52c063c5ae19ee98cc42b2246822f9dd16ef7e5999b59daa802197ce1c9fa69", func := "wagoner/wagonerlaw17.LinkPlays", spec := "linkPlays", apart := false }
def LinkPlaysSaid : Prop := linkPlaysRow.holds Try.pinned (OpenSpec.ofChange linkPlaysSpec)

/-- ITS FALSE NEIGHBOUR: 'it returns false'. Refute it at one input. -/
def linkPlaysWrong : ChangeSpec := { name := "linkPlays", fn := fun _ => fun
  | [d1, d2] => { results := [.lit (.bool false)], args := [d1, d2] }
  | _ => none }
def LinkPlaysWrongFalsely : Prop := linkPlaysRow.holds Try.pinned (OpenSpec.ofChange linkPlaysWrong)

/-- 'wagonerlaw02.CrcTells': WHATEVER THE INPUT: true; the input reads as it did. -/
def crcTellsSpec : ChangeSpec := { name := "crcTells", fn := fun _ => fun
  | [d1, d2] => { results := [.lit (.bool true)], args := [d1, d2] }
  | _ => none }
def crcTellsRow : OpenClaim := { program := "ytlpbhmhkobhkeaa", sum := "f52c063c5ae19ee98cc42b2246822f9dd16ef7e5999b59daa802197ce1c9fa69", func := "wagoner/wagonerlaw02.CrcTells", spec := "crcTells", apart := false }
def CrcTellsSaid : Prop := crcTellsRow.holds Try.pinned (OpenSpec.ofChange crcTellsSpec)

/-- ITS FALSE NEIGHBOUR: 'it returns false'. Refute it at one input. -/
def crcTellsWrong : ChangeSpec := { name := "crcTells", fn := fun _ => fun
  | [d1, d2] => { results := [.lit (.bool false)], args := [d1, d2] }
  | _ => none }
def CrcTellsWrongFalsely : Prop := crcTellsRow.holds Try.pinned (OpenSpec.ofChange crcTellsWrong)

/-- 'wagonerlaw02.CrcParts': WHATEVER THE INPUT: true; the input reads as it did. -/
def crcPartsSpec : ChangeSpec := { name := "crcParts", fn := fun _ => fun
  | [d1, d2, d3] => { results := [.lit (.bool true)], args := [d1, d2, d3] }
  | _ => none }
def crcPartsRow : OpenClaim := { program := "ytlpbhmhkobhkeaa", sum := "f52c063c5ae19ee98cc42b2246822f9dd16ef7e5999b59daa802197ce1c9fa69", func := "wagoner/wagonerlaw02.CrcParts", spec := "crcParts", apart := false }
def CrcPartsSaid : Prop := crcPartsRow.holds Try.pinned (OpenSpec.ofChange crcPartsSpec)

/-- ITS FALSE NEIGHBOUR: 'it returns false'. Refute it at one input. -/
def crcPartsWrong : ChangeSpec := { name := "crcParts", fn := fun _ => fun
  | [d1, d2, d3] => { results := [.lit (.bool false)], args := [d1, d2, d3] }
  | _ => none }
def CrcPartsWrongFalsely : Prop := crcPartsRow.holds Try.pinned (OpenSpec.ofChange crcPartsWrong)

/-- 'wagonerlaw02.CrcBurst': WHATEVER THE INPUT: true; the input reads as it did. -/
def crcBurstSpec : ChangeSpec := { name := "crcBurst", fn := fun _ => fun
  | [d1, d2, d3] => { results := [.lit (.bool true)], args := [d1, d2, d3] }
  | _ => none }
def crcBurstRow : OpenClaim := { program := "ytlpbhmhkobhkeaa", sum := "f52c063c5ae19ee98cc42b2246822f9dd16ef7e5999b59daa802197ce1c9fa69", func := "wagoner/wagonerlaw02.CrcBurst", spec := "crcBurst", apart := false }
def CrcBurstSaid : Prop := crcBurstRow.holds Try.pinned (OpenSpec.ofChange crcBurstSpec)

/-- ITS FALSE NEIGHBOUR: 'it returns false'. Refute it at one input. -/
def crcBurstWrong : ChangeSpec := { name := "crcBurst", fn := fun _ => fun
  | [d1, d2, d3] => { results := [.lit (.bool false)], args := [d1, d2, d3] }
  | _ => none }
def CrcBurstWrongFalsely : Prop := crcBurstRow.holds Try.pinned (OpenSpec.ofChange crcBurstWrong)

/-- 'wagonerlaw08.SparseTells': WHATEVER THE INPUT: true; the input reads as it did. -/
def sparseTellsSpec : ChangeSpec := { name := "sparseTells", fn := fun _ => fun
  | [d] => { results := [.lit (.bool true)], args := [d] }
  | _ => none }
def sparseTellsRow : OpenClaim := { program := "ytlpbhmhkobhkeaa", sum := "f52c063c5ae19ee98cc42b2246822f9dd16ef7e5999b59daa802197ce1c9fa69", func := "wagoner/wagonerlaw08.SparseTells", spec := "sparseTells", apart := false }
def SparseTellsSaid : Prop := sparseTellsRow.holds Try.pinned (OpenSpec.ofChange sparseTellsSpec)

/-- ITS FALSE NEIGHBOUR: 'it returns false'. Refute it at one input. -/
def sparseTellsWrong : ChangeSpec := { name := "sparseTells", fn := fun _ => fun
  | [d] => { results := [.lit (.bool false)], args := [d] }
  | _ => none }
def SparseTellsWrongFalsely : Prop := sparseTellsRow.holds Try.pinned (OpenSpec.ofChange sparseTellsWrong)

/-- 'wagonerlaw08.SparseKeeps': WHATEVER THE INPUT: true; the input reads as it did. -/
def sparseKeepsSpec : ChangeSpec := { name := "sparseKeeps", fn := fun _ => fun
  | [d1, d2, d3] => { results := [.lit (.bool true)], args := [d1, d2, d3] }
  | _ => none }
def sparseKeepsRow : OpenClaim := { program := "ytlpbhmhkobhkeaa", sum := "f52c063c5ae19ee98cc42b2246822f9dd16ef7e5999b59daa802197ce1c9fa69", func := "wagoner/wagonerlaw08.SparseKeeps", spec := "sparseKeeps", apart := false }
def SparseKeepsSaid : Prop := sparseKeepsRow.holds Try.pinned (OpenSpec.ofChange sparseKeepsSpec)

/-- ITS FALSE NEIGHBOUR: 'it returns false'. Refute it at one input. -/
def sparseKeepsWrong : ChangeSpec := { name := "sparseKeeps", fn := fun _ => fun
  | [d1, d2, d3] => { results := [.lit (.bool false)], args := [d1, d2, d3] }
  | _ => none }
def SparseKeepsWrongFalsely : Prop := sparseKeepsRow.holds Try.pinned (OpenSpec.ofChange sparseKeepsWrong)

/-- 'wagonerlaw08.SparseSplits': WHATEVER THE INPUT: true; the input reads as it did. -/
def sparseSplitsSpec : ChangeSpec := { name := "sparseSplits", fn := fun _ => fun
  | [d1, d2] => { results := [.lit (.bool true)], args := [d1, d2] }
  | _ => none }
def sparseSplitsRow : OpenClaim := { program := "ytlpbhmhkobhkeaa", sum := "f52c063c5ae19ee98cc42b2246822f9dd16ef7e5999b59daa802197ce1c9fa69", func := "wagoner/wagonerlaw08.SparseSplits", spec := "sparseSplits", apart := false }
def SparseSplitsSaid : Prop := sparseSplitsRow.holds Try.pinned (OpenSpec.ofChange sparseSplitsSpec)

/-- ITS FALSE NEIGHBOUR: 'it returns false'. Refute it at one input. -/
def sparseSplitsWrong : ChangeSpec := { name := "sparseSplits", fn := fun _ => fun
  | [d1, d2] => { results := [.lit (.bool false)], args := [d1, d2] }
  | _ => none }
def SparseSplitsWrongFalsely : Prop := sparseSplitsRow.holds Try.pinned (OpenSpec.ofChange sparseSplitsWrong)

/- THE SECOND FORM. 'bulk': how many values and letters a reading holds, each counted each time it is reached (what is shared counts as often as it is met; a slice's spare places count too). A statement '..UptoSaid' is the law's where the arguments, and the package variables that the reading takes, are together of bulk at most 1048576: NARROWER than '..Said'. Prove '..Said' where nothing that the law and all that it calls make is longer than what came in: it says more and counts as full. Else prove '..UptoSaid'. A law counts once. -/
mutual
def uptoBulk {H : Type} : DataW H → Nat
  | .lit (.string bytes) => bytes.length + 1
  | .lit _ => 1
  | .nil => 1
  | .ptr d => uptoBulk d + 1
  | .slice elems spare => uptoBulkAll elems + uptoBulkAll spare + 1
  | .agg parts => uptoBulkAll parts + 1
  | .iface _ d => uptoBulk d + 1
  | .map entries => uptoBulkEntries entries + 1
  | .held _ => 1
def uptoBulkAll {H : Type} : List (DataW H) → Nat
  | [] => 0
  | d :: r => uptoBulk d + uptoBulkAll r
def uptoBulkEntries {H : Type} : List (Lit × DataW H) → Nat
  | [] => 0
  | x :: r => uptoBulkEntry x + uptoBulkEntries r
def uptoBulkEntry {H : Type} : Lit × DataW H → Nat
  | (.string bytes, d) => bytes.length + uptoBulk d + 1
  | (_, d) => uptoBulk d + 1
 end
def uptoSmall : (H : Type) → List (DataW H) → Bool := fun _ ds => decide (uptoBulkAll ds ≤ 1048576)
def OpenSpec.upto (s : _root_.Go.ChangeSpec) : _root_.Go.OpenSpec := { _root_.Go.OpenSpec.ofChange s with cond := some uptoSmall }

/-- 'wagonerlaw21.DetectTells', WHERE WHAT IT READS IS OF BULK AT MOST 1048576: true; the input reads as it did. -/
def detectTellsUptoRow : OpenClaim := { program := "ytlpbhmhkobhkeaa", sum := "f52c063c5ae19ee98cc42b2246822f9dd16ef7e5999b59daa802197ce1c9fa69", func := "wagoner/wagonerlaw21.DetectTells", spec := "detectTells", apart := false, narrowed := true }
def DetectTellsUptoSaid : Prop := detectTellsUptoRow.holds Try.pinned (OpenSpec.upto detectTellsSpec)

/-- 'wagonerlaw11.RetainTells', WHERE WHAT IT READS IS OF BULK AT MOST 1048576: true; the input reads as it did. -/
def retainTellsUptoRow : OpenClaim := { program := "ytlpbhmhkobhkeaa", sum := "f52c063c5ae19ee98cc42b2246822f9dd16ef7e5999b59daa802197ce1c9fa69", func := "wagoner/wagonerlaw11.RetainTells", spec := "retainTells", apart := false, narrowed := true }
def RetainTellsUptoSaid : Prop := retainTellsUptoRow.holds Try.pinned (OpenSpec.upto retainTellsSpec)

/-- 'wagonerlaw11.RetainLeast', WHERE WHAT IT READS IS OF BULK AT MOST 1048576: true; the input reads as it did. -/
def retainLeastUptoRow : OpenClaim := { program := "ytlpbhmhkobhkeaa", sum := "f52c063c5ae19ee98cc42b2246822f9dd16ef7e5999b59daa802197ce1c9fa69", func := "wagoner/wagonerlaw11.RetainLeast", spec := "retainLeast", apart := false, narrowed := true }
def RetainLeastUptoSaid : Prop := retainLeastUptoRow.holds Try.pinned (OpenSpec.upto retainLeastSpec)

/-- 'wagonerlaw11.RetainRises', WHERE WHAT IT READS IS OF BULK AT MOST 1048576: true; the input reads as it did. -/
def retainRisesUptoRow : OpenClaim := { program := "ytlpbhmhkobhkeaa", sum := "f52c063c5ae19ee98cc42b2246822f9dd16ef7e5999b59daa802197ce1c9fa69", func := "wagoner/wagonerlaw11.RetainRises", spec := "retainRises", apart := false, narrowed := true }
def RetainRisesUptoSaid : Prop := retainRisesUptoRow.holds Try.pinned (OpenSpec.upto retainRisesSpec)

/-- 'wagonerlaw17.LinkTells', WHERE WHAT IT READS IS OF BULK AT MOST 1048576: true; the input reads as it did. -/
def linkTellsUptoRow : OpenClaim := { program := "ytlpbhmhkobhkeaa", sum := "f52c063c5ae19ee98cc42b2246822f9dd16ef7e5999b59daa802197ce1c9fa69", func := "wagoner/wagonerlaw17.LinkTells", spec := "linkTells", apart := false, narrowed := true }
def LinkTellsUptoSaid : Prop := linkTellsUptoRow.holds Try.pinned (OpenSpec.upto linkTellsSpec)

/-- 'wagonerlaw17.LinkPlays', WHERE WHAT IT READS IS OF BULK AT MOST 1048576: true; the input reads as it did. -/
def linkPlaysUptoRow : OpenClaim := { program := "ytlpbhmhkobhkeaa", sum := "f52c063c5ae19ee98cc42b2246822f9dd16ef7e5999b59daa802197ce1c9fa69", func := "wagoner/wagonerlaw17.LinkPlays", spec := "linkPlays", apart := false, narrowed := true }
def LinkPlaysUptoSaid : Prop := linkPlaysUptoRow.holds Try.pinned (OpenSpec.upto linkPlaysSpec)

/-- 'wagonerlaw02.CrcTells', WHERE WHAT IT READS IS OF BULK AT MOST 1048576: true; the input reads as it did. -/
def crcTellsUptoRow : OpenClaim := { program := "ytlpbhmhkobhkeaa", sum := "f52c063c5ae19ee98cc42b2246822f9dd16ef7e5999b59daa802197ce1c9fa69", func := "wagoner/wagonerlaw02.CrcTells", spec := "crcTells", apart := false, narrowed := true }
def CrcTellsUptoSaid : Prop := crcTellsUptoRow.holds Try.pinned (OpenSpec.upto crcTellsSpec)

/-- 'wagonerlaw02.CrcParts', WHERE WHAT IT READS IS OF BULK AT MOST 1048576: true; the input reads as it did. -/
def crcPartsUptoRow : OpenClaim := { program := "ytlpbhmhkobhkeaa", sum := "f52c063c5ae19ee98cc42b2246822f9dd16ef7e5999b59daa802197ce1c9fa69", func := "wagoner/wagonerlaw02.CrcParts", spec := "crcParts", apart := false, narrowed := true }
def CrcPartsUptoSaid : Prop := crcPartsUptoRow.holds Try.pinned (OpenSpec.upto crcPartsSpec)

/-- 'wagonerlaw02.CrcBurst', WHERE WHAT IT READS IS OF BULK AT MOST 1048576: true; the input reads as it did. -/
def crcBurstUptoRow : OpenClaim := { program := "ytlpbhmhkobhkeaa", sum := "f52c063c5ae19ee98cc42b2246822f9dd16ef7e5999b59daa802197ce1c9fa69", func := "wagoner/wagonerlaw02.CrcBurst", spec := "crcBurst", apart := false, narrowed := true }
def CrcBurstUptoSaid : Prop := crcBurstUptoRow.holds Try.pinned (OpenSpec.upto crcBurstSpec)

/-- 'wagonerlaw08.SparseTells', WHERE WHAT IT READS IS OF BULK AT MOST 1048576: true; the input reads as it did. -/
def sparseTellsUptoRow : OpenClaim := { program := "ytlpbhmhkobhkeaa", sum := "f52c063c5ae19ee98cc42b2246822f9dd16ef7e5999b59daa802197ce1c9fa69", func := "wagoner/wagonerlaw08.SparseTells", spec := "sparseTells", apart := false, narrowed := true }
def SparseTellsUptoSaid : Prop := sparseTellsUptoRow.holds Try.pinned (OpenSpec.upto sparseTellsSpec)

/-- 'wagonerlaw08.SparseKeeps', WHERE WHAT IT READS IS OF BULK AT MOST 1048576: true; the input reads as it did. -/
def sparseKeepsUptoRow : OpenClaim := { program := "ytlpbhmhkobhkeaa", sum := "f52c063c5ae19ee98cc42b2246822f9dd16ef7e5999b59daa802197ce1c9fa69", func := "wagoner/wagonerlaw08.SparseKeeps", spec := "sparseKeeps", apart := false, narrowed := true }
def SparseKeepsUptoSaid : Prop := sparseKeepsUptoRow.holds Try.pinned (OpenSpec.upto sparseKeepsSpec)

/-- 'wagonerlaw08.SparseSplits', WHERE WHAT IT READS IS OF BULK AT MOST 1048576: true; the input reads as it did. -/
def sparseSplitsUptoRow : OpenClaim := { program := "ytlpbhmhkobhkeaa", sum := "f52c063c5ae19ee98cc42b2246822f9dd16ef7e5999b59daa802197ce1c9fa69", func := "wagoner/wagonerlaw08.SparseSplits", spec := "sparseSplits", apart := false, narrowed := true }
def SparseSplitsUptoSaid : Prop := sparseSplitsUptoRow.holds Try.pinned (OpenSpec.upto sparseSplitsSpec)

end Rows
end Go.Proofs.Ytlpbhmhkobhkeaa
