/-
  DERIVED. GIVEN WITH THE SEED: THE CARDS: each row of YtlkffgmejcgdbaaDoorRows.lean that lists a variable, with what it lists TIED to the program's text (the seventh form; the later family's looks); each row that meets fmt, with fmt's text TOLD by the authors' own Lean function (tested against real Go, not proved from fmt's source: count such statements apart). THE CARD IS WHAT COUNTS. Prove the row's statement (the work); the ties are given (YtlkffgmejcgdbaaDoorTie.lean); close each card by the builder's one call (the guide's Derived/Test/ToyasCard.lean, 'card_holds'). Laid BY PROGRAM, IN A SANDBOX (cutbox-door.mjs). By AI agents, Wed Nov 11 2026. No macro, syntax, notation, axiom, sorry.
-/
import Derived.Test.YtlkffgmejcgdbaaDoorRows
import GoSem.ClaimSeven
namespace Go.Proofs.YtlkffgmejcgdbaaDoor
namespace Rows

/-- THE TIED CARD OF 'wagonerlaw07.NameTells'. -/
def nameTellsCard : Claim7 := { stood := { row := nameTellsRow, standIns := [], harness := (true, "c6c6d623c2cc8927c9bcb55eb4d197989d5f3dc2953ecc4a21f3d53b50a322a8"), looks := true }, kinds := [], alts := [], laidByText := true, laidKinds := [.data, .data, .data, .sentinel, .sentinel], laidTests := true, laidLooks := .later }
def NameTellsCardSaid : Prop := Claim7.holds Tryd.pinned (.plain (OpenSpec.ofChange nameTellsSpec)) nameTellsCard

/-- THE TIED CARD OF 'wagonerlaw07.NameBack'. -/
def nameBackCard : Claim7 := { stood := { row := nameBackRow, standIns := [], harness := (true, "c6c6d623c2cc8927c9bcb55eb4d197989d5f3dc2953ecc4a21f3d53b50a322a8"), looks := true }, kinds := [], alts := [], laidByText := true, laidKinds := [.data, .data, .data, .sentinel, .sentinel], laidTests := true, laidLooks := .later }
def NameBackCardSaid : Prop := Claim7.holds Tryd.pinned (.plain (OpenSpec.ofChange nameBackSpec)) nameBackCard

/-- THE TIED CARD OF 'wagonerlaw07.NameOnce'. -/
def nameOnceCard : Claim7 := { stood := { row := nameOnceRow, standIns := [], harness := (true, "c6c6d623c2cc8927c9bcb55eb4d197989d5f3dc2953ecc4a21f3d53b50a322a8"), looks := true }, kinds := [], alts := [], laidByText := true, laidKinds := [.data, .data, .data, .sentinel, .sentinel], laidTests := true, laidLooks := .later }
def NameOnceCardSaid : Prop := Claim7.holds Tryd.pinned (.plain (OpenSpec.ofChange nameOnceSpec)) nameOnceCard

/-- THE SECOND FORM's CARD OF 'wagonerlaw07.NameTells'. -/
def nameTellsUptoCard : Claim7 := { stood := { row := nameTellsUptoRow, standIns := [], harness := (true, "c6c6d623c2cc8927c9bcb55eb4d197989d5f3dc2953ecc4a21f3d53b50a322a8"), looks := true }, kinds := [], alts := [], laidByText := true, laidKinds := [.data, .data, .data, .sentinel, .sentinel], laidTests := true, laidLooks := .later }
def NameTellsUptoCardSaid : Prop := Claim7.holds Tryd.pinned (.plain (OpenSpec.upto nameTellsSpec)) nameTellsUptoCard

/-- THE SECOND FORM's CARD OF 'wagonerlaw07.NameBack'. -/
def nameBackUptoCard : Claim7 := { stood := { row := nameBackUptoRow, standIns := [], harness := (true, "c6c6d623c2cc8927c9bcb55eb4d197989d5f3dc2953ecc4a21f3d53b50a322a8"), looks := true }, kinds := [], alts := [], laidByText := true, laidKinds := [.data, .data, .data, .sentinel, .sentinel], laidTests := true, laidLooks := .later }
def NameBackUptoCardSaid : Prop := Claim7.holds Tryd.pinned (.plain (OpenSpec.upto nameBackSpec)) nameBackUptoCard

/-- THE SECOND FORM's CARD OF 'wagonerlaw07.NameOnce'. -/
def nameOnceUptoCard : Claim7 := { stood := { row := nameOnceUptoRow, standIns := [], harness := (true, "c6c6d623c2cc8927c9bcb55eb4d197989d5f3dc2953ecc4a21f3d53b50a322a8"), looks := true }, kinds := [], alts := [], laidByText := true, laidKinds := [.data, .data, .data, .sentinel, .sentinel], laidTests := true, laidLooks := .later }
def NameOnceUptoCardSaid : Prop := Claim7.holds Tryd.pinned (.plain (OpenSpec.upto nameOnceSpec)) nameOnceUptoCard
end Rows
end Go.Proofs.YtlkffgmejcgdbaaDoor
