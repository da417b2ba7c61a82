/- From functions of data to the cards of names. -/
import Derived.Test.YtlkffgmejcgdbaaDoorNameC
import Derived.Test.YtlkffgmejcgdbaaDoorTie
import Derived.Test.YtlkffgmejcgdbaaDoorCards
import Derived.ProofKit
import Derived.LaidMore
import Derived.OpenShut
import Derived.Stop.Joined
import Derived.Stop.LaidErr
import Derived.SevenTiedAt
namespace Go.Proofs.YtlkffgmejcgdbaaDoor
set_option linter.all false
-- bundled
open Go.ChangeShapes Go.WideShapes Go.ChangeAt Go.RowKit

set_option maxRecDepth 100000
abbrev laidAll : List (String × DataW Unit) := [("math/bits.deBruijn32tab", Rows.laid_math_bits_deBruijn32tab), ("math/bits.deBruijn64tab", Rows.laid_math_bits_deBruijn64tab), ("internal/strconv.uint64pow10", Rows.laid_internal_strconv_uint64pow10), ("strconv.ErrRange", Rows.laid_strconv_ErrRange), ("strconv.ErrSyntax", Rows.laid_strconv_ErrSyntax)]
theorem gErr : Tryd.prog.globalNamed "strconv.ErrSyntax" = some 0 := by kernel_rfl
theorem gErrType : (Tryd.prog.globals[0]?).map (·.type) = some 31 := by kernel_rfl
theorem star53 : "*errors.errorString" = "*" ++ "errors.errorString" := by decide
theorem row53 : ∀ u, Tryd.prog.typeName? 3 u = some "*errors.errorString" → u = 53 := fun u h =>
  typeName_ptr_named (nm := "errors.errorString") (by rw [star53] at *; kernel_rfl) (by kernel_rfl) (by decide) u (by rw [star53] at *; exact h)
theorem cells55 : Tryd.prog.cellsOf 55 = 1 := by kernel_rfl
theorem cells9 : Tryd.prog.cellsOf 9 = 1 := by kernel_rfl
#print axioms row53

theorem gl_of_laid {W : World} (h : laidMetH Tryd.prog laidAll W) : ∀ g t, glTy g = some t → g < W.heap.size ∧ ∃ a, W.cell? ⟨g, 0, none⟩ = some (.iface t (.pointer (some a))) := by
  rw [MakeChecks.laidMetH_plain _ _ _ (by kernel_rfl)] at h
  obtain ⟨a, s, hv, _⟩ := laid_sentinel h.tail.tail.tail.tail gErr gErrType Tryd.underlying31 row53 Tryd.underlying53 Tryd.underlying55 rfl rfl Tryd.underlying9 cells55 cells9
  intro g t hg
  have hgt : g = 0 ∧ t = 53 := by
    unfold glTy glIds at hg
    by_cases h0 : g = 0
    · subst h0
      exact ⟨rfl, (Option.some.inj hg).symm⟩
    · have : ((0 : Nat) == g) = false := by simpa using fun e => h0 e.symm
      simp [List.find?, this] at hg
  obtain ⟨rfl, rfl⟩ := hgt
  have hc : W.cell? ⟨0, 0, none⟩ = some (.iface 53 (.pointer (some a))) := by simpa using World.var?_cell gErr hv 0
  exact ⟨cell_lt hc, a, hc⟩

/-- The door's own heap meets the condition. -/
theorem door_met (os : Os) (args : Array Value) : laidMetH Tryd.prog laidAll ((World.doorLaid Tryd.prog 400 os).forCall (fun _ _ => 0) ⟨#[], args, []⟩).memory :=
  laidMetH_of_parts3 (fuel := 8) (laidMet_of_run' 8 (by kernel_rfl) (by kernel_rfl)) (by kernel_rfl) (by kernel_rfl)

end Go.Proofs.YtlkffgmejcgdbaaDoor
