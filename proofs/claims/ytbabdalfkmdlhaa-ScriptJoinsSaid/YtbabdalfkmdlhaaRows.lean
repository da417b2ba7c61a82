/-
  No cell of these rows narrows 'for every input' (looked for: loops, veiled, ifaces, maps, wideKeys, modest, calm, conditions, laid).
  DERIVED. THE GIVEN ROWS OF THIS SEAT. 12 by the template 'for every input the law returns true; each argument reads behind the call as it read before'; 0 by the template 'total and deterministic' (their statements: YtbabdalfkmdlhaaTotals.lean).
  GIVEN WITH THE SEED: the statements are not yours to turn. If you find one false, say at which input.
  Laid BY PROGRAM, IN A SANDBOX (cutbox-rows.mjs): the forced cells as the released guide's own fill.sh prints them over the translation db3a60486eccc2d8… (all of the seat's roots in one cut). By AI agents, Wed Nov 11 2026. No macro, syntax, notation, axiom, sorry.
-/
import Derived.Test.YtbabdalfkmdlhaaChecked
import GoSem.Claim
import GoSem.ClaimJoined
import GoSem.ClaimMapViews
import Derived.JoinedTies
import Derived.KernelRfl
namespace Go.Proofs.Ytbabdalfkmdlhaa
/- THE CELL 'sum', in the pinned program and in every row, IS THE sha256 OF THE DUMP (.gsa) THAT YtbabdalfkmdlhaaProg.lean LOADS. Nothing in Lean hashes anything: it is a label: what it is worth is what the hold of that sum in a sandbox is worth. -/
noncomputable def Try.pinned : Pinned := { name := "ytbabdalfkmdlhaa", sum := "db3a60486eccc2d823da79b37374ab4c71864b53edbaaa4b9ed32a183a85b07e", checked := Try.checked }
namespace Rows
def none {H : Type} : Left H := { results := [], args := [] }

/-- 'wagonerlaw01.VarintTells': WHATEVER THE INPUT: true; the input reads as it did. -/
def varintTellsSpec : ChangeSpec := { name := "varintTells", fn := fun _ => fun
  | [d1, d2, d3] => { results := [.lit (.bool true)], args := [d1, d2, d3] }
  | _ => none }
def varintTellsRow : OpenClaim := { program := "ytbabdalfkmdlhaa", sum := "db3a60486eccc2d823da79b37374ab4c71864b53edbaaa4b9ed32a183a85b07e", func := "wagoner/wagonerlaw01.VarintTells", spec := "varintTells", apart := false }
def VarintTellsSaid : Prop := varintTellsRow.holds Try.pinned (OpenSpec.ofChange varintTellsSpec)

/-- ITS FALSE NEIGHBOUR: 'it returns false'. Refute it at one input. -/
def varintTellsWrong : ChangeSpec := { name := "varintTells", fn := fun _ => fun
  | [d1, d2, d3] => { results := [.lit (.bool false)], args := [d1, d2, d3] }
  | _ => none }
def VarintTellsWrongFalsely : Prop := varintTellsRow.holds Try.pinned (OpenSpec.ofChange varintTellsWrong)

/-- 'wagonerlaw01.VarintBack': WHATEVER THE INPUT: true; the input reads as it did. -/
def varintBackSpec : ChangeSpec := { name := "varintBack", fn := fun _ => fun
  | [d1, d2, d3] => { results := [.lit (.bool true)], args := [d1, d2, d3] }
  | _ => none }
def varintBackRow : OpenClaim := { program := "ytbabdalfkmdlhaa", sum := "db3a60486eccc2d823da79b37374ab4c71864b53edbaaa4b9ed32a183a85b07e", func := "wagoner/wagonerlaw01.VarintBack", spec := "varintBack", apart := false }
def VarintBackSaid : Prop := varintBackRow.holds Try.pinned (OpenSpec.ofChange varintBackSpec)

/-- ITS FALSE NEIGHBOUR: 'it returns false'. Refute it at one input. -/
def varintBackWrong : ChangeSpec := { name := "varintBack", fn := fun _ => fun
  | [d1, d2, d3] => { results := [.lit (.bool false)], args := [d1, d2, d3] }
  | _ => none }
def VarintBackWrongFalsely : Prop := varintBackRow.holds Try.pinned (OpenSpec.ofChange varintBackWrong)

/-- 'wagonerlaw01.VarintOnce': WHATEVER THE INPUT: true; the input reads as it did. -/
def varintOnceSpec : ChangeSpec := { name := "varintOnce", fn := fun _ => fun
  | [d1, d2] => { results := [.lit (.bool true)], args := [d1, d2] }
  | _ => none }
def varintOnceRow : OpenClaim := { program := "ytbabdalfkmdlhaa", sum := "db3a60486eccc2d823da79b37374ab4c71864b53edbaaa4b9ed32a183a85b07e", func := "wagoner/wagonerlaw01.VarintOnce", spec := "varintOnce", apart := false }
def VarintOnceSaid : Prop := varintOnceRow.holds Try.pinned (OpenSpec.ofChange varintOnceSpec)

/-- ITS FALSE NEIGHBOUR: 'it returns false'. Refute it at one input. -/
def varintOnceWrong : ChangeSpec := { name := "varintOnce", fn := fun _ => fun
  | [d1, d2] => { results := [.lit (.bool false)], args := [d1, d2] }
  | _ => none }
def VarintOnceWrongFalsely : Prop := varintOnceRow.holds Try.pinned (OpenSpec.ofChange varintOnceWrong)

/-- 'wagonerlaw01.VarintRises': WHATEVER THE INPUT: true; the input reads as it did. -/
def varintRisesSpec : ChangeSpec := { name := "varintRises", fn := fun _ => fun
  | [d1, d2] => { results := [.lit (.bool true)], args := [d1, d2] }
  | _ => none }
def varintRisesRow : OpenClaim := { program := "ytbabdalfkmdlhaa", sum := "db3a60486eccc2d823da79b37374ab4c71864b53edbaaa4b9ed32a183a85b07e", func := "wagoner/wagonerlaw01.VarintRises", spec := "varintRises", apart := false }
def VarintRisesSaid : Prop := varintRisesRow.holds Try.pinned (OpenSpec.ofChange varintRisesSpec)

/-- ITS FALSE NEIGHBOUR: 'it returns false'. Refute it at one input. -/
def varintRisesWrong : ChangeSpec := { name := "varintRises", fn := fun _ => fun
  | [d1, d2] => { results := [.lit (.bool false)], args := [d1, d2] }
  | _ => none }
def VarintRisesWrongFalsely : Prop := varintRisesRow.holds Try.pinned (OpenSpec.ofChange varintRisesWrong)

/-- 'wagonerlaw01.VarintJoins': WHATEVER THE INPUT: true; the input reads as it did. -/
def varintJoinsSpec : ChangeSpec := { name := "varintJoins", fn := fun _ => fun
  | [d] => { results := [.lit (.bool true)], args := [d] }
  | _ => none }
def varintJoinsRow : OpenClaim := { program := "ytbabdalfkmdlhaa", sum := "db3a60486eccc2d823da79b37374ab4c71864b53edbaaa4b9ed32a183a85b07e", func := "wagoner/wagonerlaw01.VarintJoins", spec := "varintJoins", apart := false }
def VarintJoinsSaid : Prop := varintJoinsRow.holds Try.pinned (OpenSpec.ofChange varintJoinsSpec)

/-- ITS FALSE NEIGHBOUR: 'it returns false'. Refute it at one input. -/
def varintJoinsWrong : ChangeSpec := { name := "varintJoins", fn := fun _ => fun
  | [d] => { results := [.lit (.bool false)], args := [d] }
  | _ => none }
def VarintJoinsWrongFalsely : Prop := varintJoinsRow.holds Try.pinned (OpenSpec.ofChange varintJoinsWrong)

/-- 'wagonerlaw10.ManifestTells': WHATEVER THE INPUT: true; the input reads as it did. -/
def manifestTellsSpec : ChangeSpec := { name := "manifestTells", fn := fun _ => fun
  | [d1, d2] => { results := [.lit (.bool true)], args := [d1, d2] }
  | _ => none }
def manifestTellsRow : OpenClaim := { program := "ytbabdalfkmdlhaa", sum := "db3a60486eccc2d823da79b37374ab4c71864b53edbaaa4b9ed32a183a85b07e", func := "wagoner/wagonerlaw10.ManifestTells", spec := "manifestTells", apart := false }
def ManifestTellsSaid : Prop := manifestTellsRow.holds Try.pinned (OpenSpec.ofChange manifestTellsSpec)

/-- ITS FALSE NEIGHBOUR: 'it returns false'. Refute it at one input. -/
def manifestTellsWrong : ChangeSpec := { name := "manifestTells", fn := fun _ => fun
  | [d1, d2] => { results := [.lit (.bool false)], args := [d1, d2] }
  | _ => none }
def ManifestTellsWrongFalsely : Prop := manifestTellsRow.holds Try.pinned (OpenSpec.ofChange manifestTellsWrong)

/-- 'wagonerlaw10.ManifestFramed': WHATEVER THE INPUT: true; the input reads as it did. -/
def manifestFramedSpec : ChangeSpec := { name := "manifestFramed", fn := fun _ => fun
  | [d1, d2] => { results := [.lit (.bool true)], args := [d1, d2] }
  | _ => none }
def manifestFramedRow : OpenClaim := { program := "ytbabdalfkmdlhaa", sum := "db3a60486eccc2d823da79b37374ab4c71864b53edbaaa4b9ed32a183a85b07e", func := "wagoner/wagonerlaw10.ManifestFramed", spec := "manifestFramed", apart := false }
def ManifestFramedSaid : Prop := manifestFramedRow.holds Try.pinned (OpenSpec.ofChange manifestFramedSpec)

/-- ITS FALSE NEIGHBOUR: 'it returns false'. Refute it at one input. -/
def manifestFramedWrong : ChangeSpec := { name := "manifestFramed", fn := fun _ => fun
  | [d1, d2] => { results := [.lit (.bool false)], args := [d1, d2] }
  | _ => none }
def ManifestFramedWrongFalsely : Prop := manifestFramedRow.holds Try.pinned (OpenSpec.ofChange manifestFramedWrong)

/-- 'wagonerlaw10.ManifestBack': WHATEVER THE INPUT: true; the input reads as it did. -/
def manifestBackSpec : ChangeSpec := { name := "manifestBack", fn := fun _ => fun
  | [d1, d2] => { results := [.lit (.bool true)], args := [d1, d2] }
  | _ => none }
def manifestBackRow : OpenClaim := { program := "ytbabdalfkmdlhaa", sum := "db3a60486eccc2d823da79b37374ab4c71864b53edbaaa4b9ed32a183a85b07e", func := "wagoner/wagonerlaw10.ManifestBack", spec := "manifestBack", apart := false }
def ManifestBackSaid : Prop := manifestBackRow.holds Try.pinned (OpenSpec.ofChange manifestBackSpec)

/-- ITS FALSE NEIGHBOUR: 'it returns false'. Refute it at one input. -/
def manifestBackWrong : ChangeSpec := { name := "manifestBack", fn := fun _ => fun
  | [d1, d2] => { results := [.lit (.bool false)], args := [d1, d2] }
  | _ => none }
def ManifestBackWrongFalsely : Prop := manifestBackRow.holds Try.pinned (OpenSpec.ofChange manifestBackWrong)

/-- 'wagonerlaw26.ScriptTells': WHATEVER THE INPUT: true; the input reads as it did. -/
def scriptTellsSpec : ChangeSpec := { name := "scriptTells", fn := fun _ => fun
  | [d1, d2] => { results := [.lit (.bool true)], args := [d1, d2] }
  | _ => none }
def scriptTellsRow : OpenClaim := { program := "ytbabdalfkmdlhaa", sum := "db3a60486eccc2d823da79b37374ab4c71864b53edbaaa4b9ed32a183a85b07e", func := "wagoner/wagonerlaw26.ScriptTells", spec := "scriptTells", unfollowed := true, recurses := true, apart := false }
def ScriptTellsSaid : Prop := scriptTellsRow.holds Try.pinned (OpenSpec.ofChange scriptTellsSpec)

/-- ITS FALSE NEIGHBOUR: 'it returns false'. Refute it at one input. -/
def scriptTellsWrong : ChangeSpec := { name := "scriptTells", fn := fun _ => fun
  | [d1, d2] => { results := [.lit (.bool false)], args := [d1, d2] }
  | _ => none }
def ScriptTellsWrongFalsely : Prop := scriptTellsRow.holds Try.pinned (OpenSpec.ofChange scriptTellsWrong)

/-- 'wagonerlaw26.ScriptFramed': WHATEVER THE INPUT: true; the input reads as it did. -/
def scriptFramedSpec : ChangeSpec := { name := "scriptFramed", fn := fun _ => fun
  | [d] => { results := [.lit (.bool true)], args := [d] }
  | _ => none }
def scriptFramedRow : OpenClaim := { program := "ytbabdalfkmdlhaa", sum := "db3a60486eccc2d823da79b37374ab4c71864b53edbaaa4b9ed32a183a85b07e", func := "wagoner/wagonerlaw26.ScriptFramed", spec := "scriptFramed", unfollowed := true, recurses := true, apart := false }
def ScriptFramedSaid : Prop := scriptFramedRow.holds Try.pinned (OpenSpec.ofChange scriptFramedSpec)

/-- ITS FALSE NEIGHBOUR: 'it returns false'. Refute it at one input. -/
def scriptFramedWrong : ChangeSpec := { name := "scriptFramed", fn := fun _ => fun
  | [d] => { results := [.lit (.bool false)], args := [d] }
  | _ => none }
def ScriptFramedWrongFalsely : Prop := scriptFramedRow.holds Try.pinned (OpenSpec.ofChange scriptFramedWrong)

/-- 'wagonerlaw26.ScriptBack': WHATEVER THE INPUT: true; the input reads as it did. -/
def scriptBackSpec : ChangeSpec := { name := "scriptBack", fn := fun _ => fun
  | [d1, d2, d3] => { results := [.lit (.bool true)], args := [d1, d2, d3] }
  | _ => none }
def scriptBackRow : OpenClaim := { program := "ytbabdalfkmdlhaa", sum := "db3a60486eccc2d823da79b37374ab4c71864b53edbaaa4b9ed32a183a85b07e", func := "wagoner/wagonerlaw26.ScriptBack", spec := "scriptBack", unfollowed := true, recurses := true, apart := false }
def ScriptBackSaid : Prop := scriptBackRow.holds Try.pinned (OpenSpec.ofChange scriptBackSpec)

/-- ITS FALSE NEIGHBOUR: 'it returns false'. Refute it at one input. -/
def scriptBackWrong : ChangeSpec := { name := "scriptBack", fn := fun _ => fun
  | [d1, d2, d3] => { results := [.lit (.bool false)], args := [d1, d2, d3] }
  | _ => none }
def ScriptBackWrongFalsely : Prop := scriptBackRow.holds Try.pinned (OpenSpec.ofChange scriptBackWrong)

/-- 'wagonerlaw26.ScriptJoins': WHATEVER THE INPUT: true; the input reads as it did. -/
def scriptJoinsSpec : ChangeSpec := { name := "scriptJoins", fn := fun _ => fun
  | [d1, d2] => { results := [.lit (.bool true)], args := [d1, d2] }
  | _ => none }
def scriptJoinsRow : OpenClaim := { program := "ytbabdalfkmdlhaa", sum := "db3a60486eccc2d823da79b37374ab4c71864b53edbaaa4b9ed32a183a85b07e", func := "wagoner/wagonerlaw26.ScriptJoins", spec := "scriptJoins", unfollowed := true, recurses := true, apart := false }
def ScriptJoinsSaid : Prop := scriptJoinsRow.holds Try.pinned (OpenSpec.ofChange scriptJoinsSpec)

/-- ITS FALSE NEIGHBOUR: 'it returns false'. Refute it at one input. -/
def scriptJoinsWrong : ChangeSpec := { name := "scriptJoins", fn := fun _ => fun
  | [d1, d2] => { results := [.lit (.bool false)], args := [d1, d2] }
  | _ => none }
def ScriptJoinsWrongFalsely : Prop := scriptJoinsRow.holds Try.pinned (OpenSpec.ofChange scriptJoinsWrong)

/- THE SECOND FORM. 'bulk': how many values and letters a reading holds, each counted each time it is reached (what is shared counts as often as it is met; a slice's spare places count too). A statement '..UptoSaid' is the law's where the arguments, and the package variables that the reading takes, are together of bulk at most 1048576: NARROWER than '..Said'. Prove '..Said' where nothing that the law and all that it calls make is longer than what came in: it says more and counts as full. Else prove '..UptoSaid'. A law counts once. -/
mutual
def uptoBulk {H : Type} : DataW H → Nat
  | .lit (.string bytes) => bytes.length + 1
  | .lit _ => 1
  | .nil => 1
  | .ptr d => uptoBulk d + 1
  | .slice elems spare => uptoBulkAll elems + uptoBulkAll spare + 1
  | .agg parts => uptoBulkAll parts + 1
  | .iface _ d => uptoBulk d + 1
  | .map entries => uptoBulkEntries entries + 1
  | .held _ => 1
def uptoBulkAll {H : Type} : List (DataW H) → Nat
  | [] => 0
  | d :: r => uptoBulk d + uptoBulkAll r
def uptoBulkEntries {H : Type} : List (Lit × DataW H) → Nat
  | [] => 0
  | x :: r => uptoBulkEntry x + uptoBulkEntries r
def uptoBulkEntry {H : Type} : Lit × DataW H → Nat
  | (.string bytes, d) => bytes.length + uptoBulk d + 1
  | (_, d) => uptoBulk d + 1
 end
def uptoSmall : (H : Type) → List (DataW H) → Bool := fun _ ds => decide (uptoBulkAll ds ≤ 1048576)
def OpenSpec.upto (s : _root_.Go.ChangeSpec) : _root_.Go.OpenSpec := { _root_.Go.OpenSpec.ofChange s with cond := some uptoSmall }

/-- 'wagonerlaw01.VarintTells', WHERE WHAT IT READS IS OF BULK AT MOST 1048576: true; the input reads as it did. -/
def varintTellsUptoRow : OpenClaim := { program := "ytbabdalfkmdlhaa", sum := "db3a60486eccc2d823da79b37374ab4c71864b53edbaaa4b9ed32a183a85b07e", func := "wagoner/wagonerlaw01.VarintTells", spec := "varintTells", apart := false, narrowed := true }
def VarintTellsUptoSaid : Prop := varintTellsUptoRow.holds Try.pinned (OpenSpec.upto varintTellsSpec)

/-- 'wagonerlaw01.VarintBack', WHERE WHAT IT READS IS OF BULK AT MOST 1048576: true; the input reads as it did. -/
def varintBackUptoRow : OpenClaim := { program := "ytbabdalfkmdlhaa", sum := "db3a60486eccc2d823da79b37374ab4c71864b53edbaaa4b9ed32a183a85b07e", func := "wagoner/wagonerlaw01.VarintBack", spec := "varintBack", apart := false, narrowed := true }
def VarintBackUptoSaid : Prop := varintBackUptoRow.holds Try.pinned (OpenSpec.upto varintBackSpec)

/-- 'wagonerlaw01.VarintOnce', WHERE WHAT IT READS IS OF BULK AT MOST 1048576: true; the input reads as it did. -/
def varintOnceUptoRow : OpenClaim := { program := "ytbabdalfkmdlhaa", sum := "db3a60486eccc2d823da79b37374ab4c71864b53edbaaa4b9ed32a183a85b07e", func := "wagoner/wagonerlaw01.VarintOnce", spec := "varintOnce", apart := false, narrowed := true }
def VarintOnceUptoSaid : Prop := varintOnceUptoRow.holds Try.pinned (OpenSpec.upto varintOnceSpec)

/-- 'wagonerlaw01.VarintRises', WHERE WHAT IT READS IS OF BULK AT MOST 1048576: true; the input reads as it did. -/
def varintRisesUptoRow : OpenClaim := { program := "ytbabdalfkmdlhaa", sum := "db3a60486eccc2d823da79b37374ab4c71864b53edbaaa4b9ed32a183a85b07e", func := "wagoner/wagonerlaw01.VarintRises", spec := "varintRises", apart := false, narrowed := true }
def VarintRisesUptoSaid : Prop := varintRisesUptoRow.holds Try.pinned (OpenSpec.upto varintRisesSpec)

/-- 'wagonerlaw01.VarintJoins', WHERE WHAT IT READS IS OF BULK AT MOST 1048576: true; the input reads as it did. -/
def varintJoinsUptoRow : OpenClaim := { program := "ytbabdalfkmdlhaa", sum := "db3a60486eccc2d823da79b37374ab4c71864b53edbaaa4b9ed32a183a85b07e", func := "wagoner/wagonerlaw01.VarintJoins", spec := "varintJoins", apart := false, narrowed := true }
def VarintJoinsUptoSaid : Prop := varintJoinsUptoRow.holds Try.pinned (OpenSpec.upto varintJoinsSpec)

/-- 'wagonerlaw10.ManifestTells', WHERE WHAT IT READS IS OF BULK AT MOST 1048576: true; the input reads as it did. -/
def manifestTellsUptoRow : OpenClaim := { program := "ytbabdalfkmdlhaa", sum := "db3a60486eccc2d823da79b37374ab4c71864b53edbaaa4b9ed32a183a85b07e", func := "wagoner/wagonerlaw10.ManifestTells", spec := "manifestTells", apart := false, narrowed := true }
def ManifestTellsUptoSaid : Prop := manifestTellsUptoRow.holds Try.pinned (OpenSpec.upto manifestTellsSpec)

/-- 'wagonerlaw10.ManifestFramed', WHERE WHAT IT READS IS OF BULK AT MOST 1048576: true; the input reads as it did. -/
def manifestFramedUptoRow : OpenClaim := { program := "ytbabdalfkmdlhaa", sum := "db3a60486eccc2d823da79b37374ab4c71864b53edbaaa4b9ed32a183a85b07e", func := "wagoner/wagonerlaw10.ManifestFramed", spec := "manifestFramed", apart := false, narrowed := true }
def ManifestFramedUptoSaid : Prop := manifestFramedUptoRow.holds Try.pinned (OpenSpec.upto manifestFramedSpec)

/-- 'wagonerlaw10.ManifestBack', WHERE WHAT IT READS IS OF BULK AT MOST 1048576: true; the input reads as it did. -/
def manifestBackUptoRow : OpenClaim := { program := "ytbabdalfkmdlhaa", sum := "db3a60486eccc2d823da79b37374ab4c71864b53edbaaa4b9ed32a183a85b07e", func := "wagoner/wagonerlaw10.ManifestBack", spec := "manifestBack", apart := false, narrowed := true }
def ManifestBackUptoSaid : Prop := manifestBackUptoRow.holds Try.pinned (OpenSpec.upto manifestBackSpec)

/-- 'wagonerlaw26.ScriptTells', WHERE WHAT IT READS IS OF BULK AT MOST 1048576: true; the input reads as it did. -/
def scriptTellsUptoRow : OpenClaim := { program := "ytbabdalfkmdlhaa", sum := "db3a60486eccc2d823da79b37374ab4c71864b53edbaaa4b9ed32a183a85b07e", func := "wagoner/wagonerlaw26.ScriptTells", spec := "scriptTells", unfollowed := true, recurses := true, apart := false, narrowed := true }
def ScriptTellsUptoSaid : Prop := scriptTellsUptoRow.holds Try.pinned (OpenSpec.upto scriptTellsSpec)

/-- 'wagonerlaw26.ScriptFramed', WHERE WHAT IT READS IS OF BULK AT MOST 1048576: true; the input reads as it did. -/
def scriptFramedUptoRow : OpenClaim := { program := "ytbabdalfkmdlhaa", sum := "db3a60486eccc2d823da79b37374ab4c71864b53edbaaa4b9ed32a183a85b07e", func := "wagoner/wagonerlaw26.ScriptFramed", spec := "scriptFramed", unfollowed := true, recurses := true, apart := false, narrowed := true }
def ScriptFramedUptoSaid : Prop := scriptFramedUptoRow.holds Try.pinned (OpenSpec.upto scriptFramedSpec)

/-- 'wagonerlaw26.ScriptBack', WHERE WHAT IT READS IS OF BULK AT MOST 1048576: true; the input reads as it did. -/
def scriptBackUptoRow : OpenClaim := { program := "ytbabdalfkmdlhaa", sum := "db3a60486eccc2d823da79b37374ab4c71864b53edbaaa4b9ed32a183a85b07e", func := "wagoner/wagonerlaw26.ScriptBack", spec := "scriptBack", unfollowed := true, recurses := true, apart := false, narrowed := true }
def ScriptBackUptoSaid : Prop := scriptBackUptoRow.holds Try.pinned (OpenSpec.upto scriptBackSpec)

/-- 'wagonerlaw26.ScriptJoins', WHERE WHAT IT READS IS OF BULK AT MOST 1048576: true; the input reads as it did. -/
def scriptJoinsUptoRow : OpenClaim := { program := "ytbabdalfkmdlhaa", sum := "db3a60486eccc2d823da79b37374ab4c71864b53edbaaa4b9ed32a183a85b07e", func := "wagoner/wagonerlaw26.ScriptJoins", spec := "scriptJoins", unfollowed := true, recurses := true, apart := false, narrowed := true }
def ScriptJoinsUptoSaid : Prop := scriptJoinsUptoRow.holds Try.pinned (OpenSpec.upto scriptJoinsSpec)

end Rows
end Go.Proofs.Ytbabdalfkmdlhaa
