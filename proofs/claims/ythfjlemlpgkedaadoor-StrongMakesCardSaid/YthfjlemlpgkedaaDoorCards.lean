/-
  DERIVED. GIVEN WITH THE SEED: THE CARDS: each row of YthfjlemlpgkedaaDoorRows.lean that lists a variable, with what it lists TIED to the program's text (the seventh form; the later family's looks); each row that meets fmt, with fmt's text TOLD by the authors' own Lean function (tested against real Go, not proved from fmt's source: count such statements apart). THE CARD IS WHAT COUNTS. Prove the row's statement (the work); the ties are given (YthfjlemlpgkedaaDoorTie.lean); close each card by the builder's one call (the guide's Derived/Test/ToyasCard.lean, 'card_holds'). Laid BY PROGRAM, IN A SANDBOX (cutbox-door.mjs). By AI agents, Wed Nov 11 2026. No macro, syntax, notation, axiom, sorry.
-/
import Derived.Test.YthfjlemlpgkedaaDoorRows
import GoSem.ClaimSeven
namespace Go.Proofs.YthfjlemlpgkedaaDoor
namespace Rows

/-- THE TIED CARD OF 'parterrelaw3.StrongMakes'. -/
def strongMakesCard : Claim7 := { stood := { row := strongMakesRow, standIns := [], harness := (true, "9dbf133b4b21c0d50f397f11509882aa0dd097de9cf4a6f8048dabb24d82f582"), looks := false }, kinds := [], alts := [], laidByText := true, laidKinds := [.data], laidTests := true, laidLooks := .later }
def StrongMakesCardSaid : Prop := Claim7.holds Tryd.pinned (.plain (OpenSpec.ofChange strongMakesSpec)) strongMakesCard

/-- THE SECOND FORM's CARD OF 'parterrelaw3.StrongMakes'. -/
def strongMakesUptoCard : Claim7 := { stood := { row := strongMakesUptoRow, standIns := [], harness := (true, "9dbf133b4b21c0d50f397f11509882aa0dd097de9cf4a6f8048dabb24d82f582"), looks := false }, kinds := [], alts := [], laidByText := true, laidKinds := [.data], laidTests := true, laidLooks := .later }
def StrongMakesUptoCardSaid : Prop := Claim7.holds Tryd.pinned (.plain (OpenSpec.upto strongMakesSpec)) strongMakesUptoCard
end Rows
end Go.Proofs.YthfjlemlpgkedaaDoor
