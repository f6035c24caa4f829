/-
  DERIVED. GIVEN WITH THE SEED: THE CARDS: each row of YtnhdngnolepkcaaDoorRows.lean that lists a variable, with what it lists TIED to the program's text (the seventh form; the later family's looks); each row that meets fmt, with fmt's text TOLD by the authors' own Lean function (tested against real Go, not proved from fmt's source: count such statements apart). THE CARD IS WHAT COUNTS. Prove the row's statement (the work); the ties are given (YtnhdngnolepkcaaDoorTie.lean); close each card by the builder's one call (the guide's Derived/Test/ToyasCard.lean, 'card_holds'). Laid BY PROGRAM, IN A SANDBOX (cutbox-door.mjs). By AI agents, Wed Nov 11 2026. No macro, syntax, notation, axiom, sorry.
-/
import Derived.Test.YtnhdngnolepkcaaDoorRows
import GoSem.ClaimSeven
namespace Go.Proofs.YtnhdngnolepkcaaDoor
namespace Rows

/-- THE TIED CARD OF 'parterrelaw3.ArrayMakes'. -/
def arrayMakesCard : Claim7 := { stood := { row := arrayMakesRow, standIns := [], harness := (true, "e7499c167f486f161876d9dc242aca3254edba69ba2178229f3dac2423f10adc"), looks := false }, kinds := [], alts := [], laidByText := true, laidKinds := [.data], laidTests := true, laidLooks := .later }
def ArrayMakesCardSaid : Prop := Claim7.holds Tryd.pinned (.plain (OpenSpec.ofChange arrayMakesSpec)) arrayMakesCard

/-- THE TIED CARD OF 'parterrelaw3.ArrayDual'. -/
def arrayDualCard : Claim7 := { stood := { row := arrayDualRow, standIns := [], harness := (true, "e7499c167f486f161876d9dc242aca3254edba69ba2178229f3dac2423f10adc"), looks := false }, kinds := [], alts := [], laidByText := true, laidKinds := [.data], laidTests := true, laidLooks := .later }
def ArrayDualCardSaid : Prop := Claim7.holds Tryd.pinned (.plain (OpenSpec.ofChange arrayDualSpec)) arrayDualCard

/-- THE SECOND FORM's CARD OF 'parterrelaw3.ArrayMakes'. -/
def arrayMakesUptoCard : Claim7 := { stood := { row := arrayMakesUptoRow, standIns := [], harness := (true, "e7499c167f486f161876d9dc242aca3254edba69ba2178229f3dac2423f10adc"), looks := false }, kinds := [], alts := [], laidByText := true, laidKinds := [.data], laidTests := true, laidLooks := .later }
def ArrayMakesUptoCardSaid : Prop := Claim7.holds Tryd.pinned (.plain (OpenSpec.upto arrayMakesSpec)) arrayMakesUptoCard

/-- THE SECOND FORM's CARD OF 'parterrelaw3.ArrayDual'. -/
def arrayDualUptoCard : Claim7 := { stood := { row := arrayDualUptoRow, standIns := [], harness := (true, "e7499c167f486f161876d9dc242aca3254edba69ba2178229f3dac2423f10adc"), looks := false }, kinds := [], alts := [], laidByText := true, laidKinds := [.data], laidTests := true, laidLooks := .later }
def ArrayDualUptoCardSaid : Prop := Claim7.holds Tryd.pinned (.plain (OpenSpec.upto arrayDualSpec)) arrayDualUptoCard
end Rows
end Go.Proofs.YtnhdngnolepkcaaDoor
