/-
  No cell of these rows narrows 'for every input' (looked for: loops, veiled, ifaces, maps, wideKeys, modest, calm, conditions, laid).
  DERIVED. THE GIVEN ROWS OF THIS SEAT. 9 by the template 'for every input the law returns true; each argument reads behind the call as it read before'; 0 by the template 'total and deterministic' (their statements: YtkmlebnkmmkpmaaTotals.lean).
  GIVEN WITH THE SEED: the statements are not yours to turn. If you find one false, say at which input.
  Laid BY PROGRAM, IN A SANDBOX (cutbox-rows.mjs): the forced cells as the released guide's own fill.sh prints them over the translation df279e9bb9b829a2… (all of the seat's roots in one cut). By AI agents, Wed Nov 11 2026. No macro, syntax, notation, axiom, sorry.
-/
import Derived.Test.YtkmlebnkmmkpmaaChecked
import GoSem.Claim
import GoSem.ClaimJoined
import GoSem.ClaimMapViews
import Derived.JoinedTies
import Derived.KernelRfl
namespace Go.Proofs.Ytkmlebnkmmkpmaa
/- THE CELL 'sum', in the pinned program and in every row, IS THE sha256 OF THE DUMP (.gsa) THAT YtkmlebnkmmkpmaaProg.lean LOADS. Nothing in Lean hashes anything: it is a label: what it is worth is what the hold of that sum in a sandbox is worth. -/
noncomputable def Try.pinned : Pinned := { name := "ytkmlebnkmmkpmaa", sum := "df279e9bb9b829a2f3e64832e23e62cee60eb61a469e353c8c432f7cd8c9e095", checked := Try.checked }
namespace Rows
def none {H : Type} : Left H := { results := [], args := [] }

/-- 'wagonerlaw05.FoldLast': WHATEVER THE INPUT: true; the input reads as it did. -/
def foldLastSpec : ChangeSpec := { name := "foldLast", fn := fun _ => fun
  | [d] => { results := [.lit (.bool true)], args := [d] }
  | _ => none }
def foldLastRow : OpenClaim := { program := "ytkmlebnkmmkpmaa", sum := "df279e9bb9b829a2f3e64832e23e62cee60eb61a469e353c8c432f7cd8c9e095", func := "wagoner/wagonerlaw05.FoldLast", spec := "foldLast", inPlace := ["slices.overlaps[wagoner/api.Pair]"], unfollowed := true, recurses := true, apart := false }
def FoldLastSaid : Prop := foldLastRow.holds Try.pinned (OpenSpec.ofChange foldLastSpec)

/-- ITS FALSE NEIGHBOUR: 'it returns false'. Refute it at one input. -/
def foldLastWrong : ChangeSpec := { name := "foldLast", fn := fun _ => fun
  | [d] => { results := [.lit (.bool false)], args := [d] }
  | _ => none }
def FoldLastWrongFalsely : Prop := foldLastRow.holds Try.pinned (OpenSpec.ofChange foldLastWrong)

/-- 'wagonerlaw20.HeldTells': WHATEVER THE INPUT: true; the input reads as it did. -/
def heldTellsSpec : ChangeSpec := { name := "heldTells", fn := fun _ => fun
  | [d] => { results := [.lit (.bool true)], args := [d] }
  | _ => none }
def heldTellsRow : OpenClaim := { program := "ytkmlebnkmmkpmaa", sum := "df279e9bb9b829a2f3e64832e23e62cee60eb61a469e353c8c432f7cd8c9e095", func := "wagoner/wagonerlaw20.HeldTells", spec := "heldTells", inPlace := ["slices.overlaps[[]wagoner/api.Rec]"], unfollowed := true, recurses := true, apart := false }
def HeldTellsSaid : Prop := heldTellsRow.holds Try.pinned (OpenSpec.ofChange heldTellsSpec)

/-- ITS FALSE NEIGHBOUR: 'it returns false'. Refute it at one input. -/
def heldTellsWrong : ChangeSpec := { name := "heldTells", fn := fun _ => fun
  | [d] => { results := [.lit (.bool false)], args := [d] }
  | _ => none }
def HeldTellsWrongFalsely : Prop := heldTellsRow.holds Try.pinned (OpenSpec.ofChange heldTellsWrong)

/-- 'wagonerlaw20.HeldRow': WHATEVER THE INPUT: true; the input reads as it did. -/
def heldRowSpec : ChangeSpec := { name := "heldRow", fn := fun _ => fun
  | [d] => { results := [.lit (.bool true)], args := [d] }
  | _ => none }
def heldRowRow : OpenClaim := { program := "ytkmlebnkmmkpmaa", sum := "df279e9bb9b829a2f3e64832e23e62cee60eb61a469e353c8c432f7cd8c9e095", func := "wagoner/wagonerlaw20.HeldRow", spec := "heldRow", inPlace := ["slices.overlaps[[]wagoner/api.Rec]"], unfollowed := true, recurses := true, apart := false }
def HeldRowSaid : Prop := heldRowRow.holds Try.pinned (OpenSpec.ofChange heldRowSpec)

/-- ITS FALSE NEIGHBOUR: 'it returns false'. Refute it at one input. -/
def heldRowWrong : ChangeSpec := { name := "heldRow", fn := fun _ => fun
  | [d] => { results := [.lit (.bool false)], args := [d] }
  | _ => none }
def HeldRowWrongFalsely : Prop := heldRowRow.holds Try.pinned (OpenSpec.ofChange heldRowWrong)

/-- 'wagonerlaw20.HeldOrder': WHATEVER THE INPUT: true; the input reads as it did. -/
def heldOrderSpec : ChangeSpec := { name := "heldOrder", fn := fun _ => fun
  | [d1, d2, d3] => { results := [.lit (.bool true)], args := [d1, d2, d3] }
  | _ => none }
def heldOrderRow : OpenClaim := { program := "ytkmlebnkmmkpmaa", sum := "df279e9bb9b829a2f3e64832e23e62cee60eb61a469e353c8c432f7cd8c9e095", func := "wagoner/wagonerlaw20.HeldOrder", spec := "heldOrder", inPlace := ["slices.overlaps[[]wagoner/api.Rec]"], unfollowed := true, recurses := true, apart := false }
def HeldOrderSaid : Prop := heldOrderRow.holds Try.pinned (OpenSpec.ofChange heldOrderSpec)

/-- ITS FALSE NEIGHBOUR: 'it returns false'. Refute it at one input. -/
def heldOrderWrong : ChangeSpec := { name := "heldOrder", fn := fun _ => fun
  | [d1, d2, d3] => { results := [.lit (.bool false)], args := [d1, d2, d3] }
  | _ => none }
def HeldOrderWrongFalsely : Prop := heldOrderRow.holds Try.pinned (OpenSpec.ofChange heldOrderWrong)

/-- 'wagonerlaw20.HeldBound': WHATEVER THE INPUT: true; the input reads as it did. -/
def heldBoundSpec : ChangeSpec := { name := "heldBound", fn := fun _ => fun
  | [d1, d2, d3] => { results := [.lit (.bool true)], args := [d1, d2, d3] }
  | _ => none }
def heldBoundRow : OpenClaim := { program := "ytkmlebnkmmkpmaa", sum := "df279e9bb9b829a2f3e64832e23e62cee60eb61a469e353c8c432f7cd8c9e095", func := "wagoner/wagonerlaw20.HeldBound", spec := "heldBound", inPlace := ["slices.overlaps[[]wagoner/api.Rec]"], unfollowed := true, recurses := true, apart := false }
def HeldBoundSaid : Prop := heldBoundRow.holds Try.pinned (OpenSpec.ofChange heldBoundSpec)

/-- ITS FALSE NEIGHBOUR: 'it returns false'. Refute it at one input. -/
def heldBoundWrong : ChangeSpec := { name := "heldBound", fn := fun _ => fun
  | [d1, d2, d3] => { results := [.lit (.bool false)], args := [d1, d2, d3] }
  | _ => none }
def HeldBoundWrongFalsely : Prop := heldBoundRow.holds Try.pinned (OpenSpec.ofChange heldBoundWrong)

/-- 'wagonerlaw20.HeldOnce': WHATEVER THE INPUT: true; the input reads as it did. -/
def heldOnceSpec : ChangeSpec := { name := "heldOnce", fn := fun _ => fun
  | [d] => { results := [.lit (.bool true)], args := [d] }
  | _ => none }
def heldOnceRow : OpenClaim := { program := "ytkmlebnkmmkpmaa", sum := "df279e9bb9b829a2f3e64832e23e62cee60eb61a469e353c8c432f7cd8c9e095", func := "wagoner/wagonerlaw20.HeldOnce", spec := "heldOnce", inPlace := ["slices.overlaps[[]wagoner/api.Rec]"], unfollowed := true, recurses := true, apart := false }
def HeldOnceSaid : Prop := heldOnceRow.holds Try.pinned (OpenSpec.ofChange heldOnceSpec)

/-- ITS FALSE NEIGHBOUR: 'it returns false'. Refute it at one input. -/
def heldOnceWrong : ChangeSpec := { name := "heldOnce", fn := fun _ => fun
  | [d] => { results := [.lit (.bool false)], args := [d] }
  | _ => none }
def HeldOnceWrongFalsely : Prop := heldOnceRow.holds Try.pinned (OpenSpec.ofChange heldOnceWrong)

/-- 'wagonerlaw05.FoldTells': WHATEVER THE INPUT: true; the input reads as it did. -/
def foldTellsSpec : ChangeSpec := { name := "foldTells", fn := fun _ => fun
  | [d1, d2] => { results := [.lit (.bool true)], args := [d1, d2] }
  | _ => none }
def foldTellsRow : OpenClaim := { program := "ytkmlebnkmmkpmaa", sum := "df279e9bb9b829a2f3e64832e23e62cee60eb61a469e353c8c432f7cd8c9e095", func := "wagoner/wagonerlaw05.FoldTells", spec := "foldTells", inPlace := ["slices.overlaps[wagoner/api.Pair]"], unfollowed := true, recurses := true, apart := false }
def FoldTellsSaid : Prop := foldTellsRow.holds Try.pinned (OpenSpec.ofChange foldTellsSpec)

/-- ITS FALSE NEIGHBOUR: 'it returns false'. Refute it at one input. -/
def foldTellsWrong : ChangeSpec := { name := "foldTells", fn := fun _ => fun
  | [d1, d2] => { results := [.lit (.bool false)], args := [d1, d2] }
  | _ => none }
def FoldTellsWrongFalsely : Prop := foldTellsRow.holds Try.pinned (OpenSpec.ofChange foldTellsWrong)

/-- 'wagonerlaw05.FoldParses': WHATEVER THE INPUT: true; the input reads as it did. -/
def foldParsesSpec : ChangeSpec := { name := "foldParses", fn := fun _ => fun
  | [d] => { results := [.lit (.bool true)], args := [d] }
  | _ => none }
def foldParsesRow : OpenClaim := { program := "ytkmlebnkmmkpmaa", sum := "df279e9bb9b829a2f3e64832e23e62cee60eb61a469e353c8c432f7cd8c9e095", func := "wagoner/wagonerlaw05.FoldParses", spec := "foldParses", inPlace := ["slices.overlaps[wagoner/api.Pair]"], unfollowed := true, recurses := true, apart := false }
def FoldParsesSaid : Prop := foldParsesRow.holds Try.pinned (OpenSpec.ofChange foldParsesSpec)

/-- ITS FALSE NEIGHBOUR: 'it returns false'. Refute it at one input. -/
def foldParsesWrong : ChangeSpec := { name := "foldParses", fn := fun _ => fun
  | [d] => { results := [.lit (.bool false)], args := [d] }
  | _ => none }
def FoldParsesWrongFalsely : Prop := foldParsesRow.holds Try.pinned (OpenSpec.ofChange foldParsesWrong)

/-- 'wagonerlaw05.FoldBack': WHATEVER THE INPUT: true; the input reads as it did. -/
def foldBackSpec : ChangeSpec := { name := "foldBack", fn := fun _ => fun
  | [d1, d2] => { results := [.lit (.bool true)], args := [d1, d2] }
  | _ => none }
def foldBackRow : OpenClaim := { program := "ytkmlebnkmmkpmaa", sum := "df279e9bb9b829a2f3e64832e23e62cee60eb61a469e353c8c432f7cd8c9e095", func := "wagoner/wagonerlaw05.FoldBack", spec := "foldBack", inPlace := ["slices.overlaps[wagoner/api.Pair]"], unfollowed := true, recurses := true, apart := false }
def FoldBackSaid : Prop := foldBackRow.holds Try.pinned (OpenSpec.ofChange foldBackSpec)

/-- ITS FALSE NEIGHBOUR: 'it returns false'. Refute it at one input. -/
def foldBackWrong : ChangeSpec := { name := "foldBack", fn := fun _ => fun
  | [d1, d2] => { results := [.lit (.bool false)], args := [d1, d2] }
  | _ => none }
def FoldBackWrongFalsely : Prop := foldBackRow.holds Try.pinned (OpenSpec.ofChange foldBackWrong)

/- THE SECOND FORM. 'bulk': how many values and letters a reading holds, each counted each time it is reached (what is shared counts as often as it is met; a slice's spare places count too). A statement '..UptoSaid' is the law's where the arguments, and the package variables that the reading takes, are together of bulk at most 1048576: NARROWER than '..Said'. Prove '..Said' where nothing that the law and all that it calls make is longer than what came in: it says more and counts as full. Else prove '..UptoSaid'. A law counts once. -/
mutual
def uptoBulk {H : Type} : DataW H → Nat
  | .lit (.string bytes) => bytes.length + 1
  | .lit _ => 1
  | .nil => 1
  | .ptr d => uptoBulk d + 1
  | .slice elems spare => uptoBulkAll elems + uptoBulkAll spare + 1
  | .agg parts => uptoBulkAll parts + 1
  | .iface _ d => uptoBulk d + 1
  | .map entries => uptoBulkEntries entries + 1
  | .held _ => 1
def uptoBulkAll {H : Type} : List (DataW H) → Nat
  | [] => 0
  | d :: r => uptoBulk d + uptoBulkAll r
def uptoBulkEntries {H : Type} : List (Lit × DataW H) → Nat
  | [] => 0
  | x :: r => uptoBulkEntry x + uptoBulkEntries r
def uptoBulkEntry {H : Type} : Lit × DataW H → Nat
  | (.string bytes, d) => bytes.length + uptoBulk d + 1
  | (_, d) => uptoBulk d + 1
 end
def uptoSmall : (H : Type) → List (DataW H) → Bool := fun _ ds => decide (uptoBulkAll ds ≤ 1048576)
def OpenSpec.upto (s : _root_.Go.ChangeSpec) : _root_.Go.OpenSpec := { _root_.Go.OpenSpec.ofChange s with cond := some uptoSmall }

/-- 'wagonerlaw05.FoldLast', WHERE WHAT IT READS IS OF BULK AT MOST 1048576: true; the input reads as it did. -/
def foldLastUptoRow : OpenClaim := { program := "ytkmlebnkmmkpmaa", sum := "df279e9bb9b829a2f3e64832e23e62cee60eb61a469e353c8c432f7cd8c9e095", func := "wagoner/wagonerlaw05.FoldLast", spec := "foldLast", inPlace := ["slices.overlaps[wagoner/api.Pair]"], unfollowed := true, recurses := true, apart := false, narrowed := true }
def FoldLastUptoSaid : Prop := foldLastUptoRow.holds Try.pinned (OpenSpec.upto foldLastSpec)

/-- 'wagonerlaw20.HeldTells', WHERE WHAT IT READS IS OF BULK AT MOST 1048576: true; the input reads as it did. -/
def heldTellsUptoRow : OpenClaim := { program := "ytkmlebnkmmkpmaa", sum := "df279e9bb9b829a2f3e64832e23e62cee60eb61a469e353c8c432f7cd8c9e095", func := "wagoner/wagonerlaw20.HeldTells", spec := "heldTells", inPlace := ["slices.overlaps[[]wagoner/api.Rec]"], unfollowed := true, recurses := true, apart := false, narrowed := true }
def HeldTellsUptoSaid : Prop := heldTellsUptoRow.holds Try.pinned (OpenSpec.upto heldTellsSpec)

/-- 'wagonerlaw20.HeldRow', WHERE WHAT IT READS IS OF BULK AT MOST 1048576: true; the input reads as it did. -/
def heldRowUptoRow : OpenClaim := { program := "ytkmlebnkmmkpmaa", sum := "df279e9bb9b829a2f3e64832e23e62cee60eb61a469e353c8c432f7cd8c9e095", func := "wagoner/wagonerlaw20.HeldRow", spec := "heldRow", inPlace := ["slices.overlaps[[]wagoner/api.Rec]"], unfollowed := true, recurses := true, apart := false, narrowed := true }
def HeldRowUptoSaid : Prop := heldRowUptoRow.holds Try.pinned (OpenSpec.upto heldRowSpec)

/-- 'wagonerlaw20.HeldOrder', WHERE WHAT IT READS IS OF BULK AT MOST 1048576: true; the input reads as it did. -/
def heldOrderUptoRow : OpenClaim := { program := "ytkmlebnkmmkpmaa", sum := "df279e9bb9b829a2f3e64832e23e62cee60eb61a469e353c8c432f7cd8c9e095", func := "wagoner/wagonerlaw20.HeldOrder", spec := "heldOrder", inPlace := ["slices.overlaps[[]wagoner/api.Rec]"], unfollowed := true, recurses := true, apart := false, narrowed := true }
def HeldOrderUptoSaid : Prop := heldOrderUptoRow.holds Try.pinned (OpenSpec.upto heldOrderSpec)

/-- 'wagonerlaw20.HeldBound', WHERE WHAT IT READS IS OF BULK AT MOST 1048576: true; the input reads as it did. -/
def heldBoundUptoRow : OpenClaim := { program := "ytkmlebnkmmkpmaa", sum := "df279e9bb9b829a2f3e64832e23e62cee60eb61a469e353c8c432f7cd8c9e095", func := "wagoner/wagonerlaw20.HeldBound", spec := "heldBound", inPlace := ["slices.overlaps[[]wagoner/api.Rec]"], unfollowed := true, recurses := true, apart := false, narrowed := true }
def HeldBoundUptoSaid : Prop := heldBoundUptoRow.holds Try.pinned (OpenSpec.upto heldBoundSpec)

/-- 'wagonerlaw20.HeldOnce', WHERE WHAT IT READS IS OF BULK AT MOST 1048576: true; the input reads as it did. -/
def heldOnceUptoRow : OpenClaim := { program := "ytkmlebnkmmkpmaa", sum := "df279e9bb9b829a2f3e64832e23e62cee60eb61a469e353c8c432f7cd8c9e095", func := "wagoner/wagonerlaw20.HeldOnce", spec := "heldOnce", inPlace := ["slices.overlaps[[]wagoner/api.Rec]"], unfollowed := true, recurses := true, apart := false, narrowed := true }
def HeldOnceUptoSaid : Prop := heldOnceUptoRow.holds Try.pinned (OpenSpec.upto heldOnceSpec)

/-- 'wagonerlaw05.FoldTells', WHERE WHAT IT READS IS OF BULK AT MOST 1048576: true; the input reads as it did. -/
def foldTellsUptoRow : OpenClaim := { program := "ytkmlebnkmmkpmaa", sum := "df279e9bb9b829a2f3e64832e23e62cee60eb61a469e353c8c432f7cd8c9e095", func := "wagoner/wagonerlaw05.FoldTells", spec := "foldTells", inPlace := ["slices.overlaps[wagoner/api.Pair]"], unfollowed := true, recurses := true, apart := false, narrowed := true }
def FoldTellsUptoSaid : Prop := foldTellsUptoRow.holds Try.pinned (OpenSpec.upto foldTellsSpec)

/-- 'wagonerlaw05.FoldParses', WHERE WHAT IT READS IS OF BULK AT MOST 1048576: true; the input reads as it did. -/
def foldParsesUptoRow : OpenClaim := { program := "ytkmlebnkmmkpmaa", sum := "df279e9bb9b829a2f3e64832e23e62cee60eb61a469e353c8c432f7cd8c9e095", func := "wagoner/wagonerlaw05.FoldParses", spec := "foldParses", inPlace := ["slices.overlaps[wagoner/api.Pair]"], unfollowed := true, recurses := true, apart := false, narrowed := true }
def FoldParsesUptoSaid : Prop := foldParsesUptoRow.holds Try.pinned (OpenSpec.upto foldParsesSpec)

/-- 'wagonerlaw05.FoldBack', WHERE WHAT IT READS IS OF BULK AT MOST 1048576: true; the input reads as it did. -/
def foldBackUptoRow : OpenClaim := { program := "ytkmlebnkmmkpmaa", sum := "df279e9bb9b829a2f3e64832e23e62cee60eb61a469e353c8c432f7cd8c9e095", func := "wagoner/wagonerlaw05.FoldBack", spec := "foldBack", inPlace := ["slices.overlaps[wagoner/api.Pair]"], unfollowed := true, recurses := true, apart := false, narrowed := true }
def FoldBackUptoSaid : Prop := foldBackUptoRow.holds Try.pinned (OpenSpec.upto foldBackSpec)

end Rows
end Go.Proofs.Ytkmlebnkmmkpmaa
