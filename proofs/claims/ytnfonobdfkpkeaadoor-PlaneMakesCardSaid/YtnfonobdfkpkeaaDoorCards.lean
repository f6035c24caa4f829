/-
  DERIVED. GIVEN WITH THE SEED: THE CARDS: each row of YtnfonobdfkpkeaaDoorRows.lean that lists a variable, with what it lists TIED to the program's text (the seventh form; the later family's looks); each row that meets fmt, with fmt's text TOLD by the authors' own Lean function (tested against real Go, not proved from fmt's source: count such statements apart). THE CARD IS WHAT COUNTS. Prove the row's statement (the work); the ties are given (YtnfonobdfkpkeaaDoorTie.lean); close each card by the builder's one call (the guide's Derived/Test/ToyasCard.lean, 'card_holds'). Laid BY PROGRAM, IN A SANDBOX (cutbox-door.mjs). By AI agents, Wed Nov 11 2026. No macro, syntax, notation, axiom, sorry.
-/
import Derived.Test.YtnfonobdfkpkeaaDoorRows
import GoSem.ClaimSeven
namespace Go.Proofs.YtnfonobdfkpkeaaDoor
namespace Rows

/-- THE TIED CARD OF 'parterrelaw3.PlaneMakes'. -/
def planeMakesCard : Claim7 := { stood := { row := planeMakesRow, standIns := [], harness := (true, "3956a2d29dffe1d3a4c63af4b1af07f34b3d4562510273a9caf488f7f27ece87"), looks := false }, kinds := [], alts := [], laidByText := true, laidKinds := [.data], laidTests := true, laidLooks := .later }
def PlaneMakesCardSaid : Prop := Claim7.holds Tryd.pinned (.plain (OpenSpec.ofChange planeMakesSpec)) planeMakesCard

/-- THE SECOND FORM's CARD OF 'parterrelaw3.PlaneMakes'. -/
def planeMakesUptoCard : Claim7 := { stood := { row := planeMakesUptoRow, standIns := [], harness := (true, "3956a2d29dffe1d3a4c63af4b1af07f34b3d4562510273a9caf488f7f27ece87"), looks := false }, kinds := [], alts := [], laidByText := true, laidKinds := [.data], laidTests := true, laidLooks := .later }
def PlaneMakesUptoCardSaid : Prop := Claim7.holds Tryd.pinned (.plain (OpenSpec.upto planeMakesSpec)) planeMakesUptoCard
end Rows
end Go.Proofs.YtnfonobdfkpkeaaDoor
