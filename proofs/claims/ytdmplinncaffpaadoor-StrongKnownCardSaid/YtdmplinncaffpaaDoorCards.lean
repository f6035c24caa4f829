/-
  DERIVED. GIVEN WITH THE SEED: THE CARDS: each row of YtdmplinncaffpaaDoorRows.lean that lists a variable, with what it lists TIED to the program's text (the seventh form; the later family's looks); each row that meets fmt, with fmt's text TOLD by the authors' own Lean function (tested against real Go, not proved from fmt's source: count such statements apart). THE CARD IS WHAT COUNTS. Prove the row's statement (the work); the ties are given (YtdmplinncaffpaaDoorTie.lean); close each card by the builder's one call (the guide's Derived/Test/ToyasCard.lean, 'card_holds'). Laid BY PROGRAM, IN A SANDBOX (cutbox-door.mjs). By AI agents, Wed Nov 11 2026. No macro, syntax, notation, axiom, sorry.
-/
import Derived.Test.YtdmplinncaffpaaDoorRows
import GoSem.ClaimSeven
namespace Go.Proofs.YtdmplinncaffpaaDoor
namespace Rows

/-- THE TIED CARD OF 'parterrelaw3.StrongMakes'. -/
def strongMakesCard : Claim7 := { stood := { row := strongMakesRow, standIns := [], harness := (true, "9fa4a08059f38922a899e466f7b5777bb126d27e6e31cf1472959a13da0f32cb"), looks := false }, kinds := [], alts := [], laidByText := true, laidKinds := [.data], laidTests := true, laidLooks := .later }
def StrongMakesCardSaid : Prop := Claim7.holds Tryd.pinned (.plain (OpenSpec.ofChange strongMakesSpec)) strongMakesCard

/-- THE TIED CARD OF 'parterrelaw3.StrongKnown'. -/
def strongKnownCard : Claim7 := { stood := { row := strongKnownRow, standIns := [], harness := (true, "9fa4a08059f38922a899e466f7b5777bb126d27e6e31cf1472959a13da0f32cb"), looks := false }, kinds := [], alts := [], laidByText := true, laidKinds := [.data], laidTests := true, laidLooks := .later }
def StrongKnownCardSaid : Prop := Claim7.holds Tryd.pinned (.plain (OpenSpec.ofChange strongKnownSpec)) strongKnownCard

/-- THE SECOND FORM's CARD OF 'parterrelaw3.StrongMakes'. -/
def strongMakesUptoCard : Claim7 := { stood := { row := strongMakesUptoRow, standIns := [], harness := (true, "9fa4a08059f38922a899e466f7b5777bb126d27e6e31cf1472959a13da0f32cb"), looks := false }, kinds := [], alts := [], laidByText := true, laidKinds := [.data], laidTests := true, laidLooks := .later }
def StrongMakesUptoCardSaid : Prop := Claim7.holds Tryd.pinned (.plain (OpenSpec.upto strongMakesSpec)) strongMakesUptoCard

/-- THE SECOND FORM's CARD OF 'parterrelaw3.StrongKnown'. -/
def strongKnownUptoCard : Claim7 := { stood := { row := strongKnownUptoRow, standIns := [], harness := (true, "9fa4a08059f38922a899e466f7b5777bb126d27e6e31cf1472959a13da0f32cb"), looks := false }, kinds := [], alts := [], laidByText := true, laidKinds := [.data], laidTests := true, laidLooks := .later }
def StrongKnownUptoCardSaid : Prop := Claim7.holds Tryd.pinned (.plain (OpenSpec.upto strongKnownSpec)) strongKnownUptoCard
end Rows
end Go.Proofs.YtdmplinncaffpaaDoor
