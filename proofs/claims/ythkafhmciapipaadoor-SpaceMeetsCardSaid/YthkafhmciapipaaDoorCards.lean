/-
  DERIVED. GIVEN WITH THE SEED: THE CARDS: each row of YthkafhmciapipaaDoorRows.lean that lists a variable, with what it lists TIED to the program's text (the seventh form; the later family's looks); each row that meets fmt, with fmt's text TOLD by the authors' own Lean function (tested against real Go, not proved from fmt's source: count such statements apart). THE CARD IS WHAT COUNTS. Prove the row's statement (the work); the ties are given (YthkafhmciapipaaDoorTie.lean); close each card by the builder's one call (the guide's Derived/Test/ToyasCard.lean, 'card_holds'). Laid BY PROGRAM, IN A SANDBOX (cutbox-door.mjs). By AI agents, Wed Nov 11 2026. No macro, syntax, notation, axiom, sorry.
-/
import Derived.Test.YthkafhmciapipaaDoorRows
import GoSem.ClaimSeven
namespace Go.Proofs.YthkafhmciapipaaDoor
namespace Rows

/-- THE TIED CARD OF 'parterrelaw3.SpacePascal'. -/
def spacePascalCard : Claim7 := { stood := { row := spacePascalRow, standIns := [], harness := (true, "22cd8d1d158a6c81da59c544a527c308c115d7b5ec73cbb5dd68e2cf8e466e92"), looks := false }, kinds := [], alts := [], laidByText := true, laidKinds := [.data], laidTests := true, laidLooks := .later }
def SpacePascalCardSaid : Prop := Claim7.holds Tryd.pinned (.plain (OpenSpec.ofChange spacePascalSpec)) spacePascalCard

/-- THE TIED CARD OF 'parterrelaw3.SpaceBases'. -/
def spaceBasesCard : Claim7 := { stood := { row := spaceBasesRow, standIns := [], harness := (true, "22cd8d1d158a6c81da59c544a527c308c115d7b5ec73cbb5dd68e2cf8e466e92"), looks := false }, kinds := [], alts := [], laidByText := true, laidKinds := [.data], laidTests := true, laidLooks := .later }
def SpaceBasesCardSaid : Prop := Claim7.holds Tryd.pinned (.plain (OpenSpec.ofChange spaceBasesSpec)) spaceBasesCard

/-- THE TIED CARD OF 'parterrelaw3.SpaceMeets'. -/
def spaceMeetsCard : Claim7 := { stood := { row := spaceMeetsRow, standIns := [], harness := (true, "22cd8d1d158a6c81da59c544a527c308c115d7b5ec73cbb5dd68e2cf8e466e92"), looks := false }, kinds := [], alts := [], laidByText := true, laidKinds := [.data], laidTests := true, laidLooks := .later }
def SpaceMeetsCardSaid : Prop := Claim7.holds Tryd.pinned (.plain (OpenSpec.ofChange spaceMeetsSpec)) spaceMeetsCard

/-- THE TIED CARD OF 'parterrelaw3.SpaceGrassmann'. -/
def spaceGrassmannCard : Claim7 := { stood := { row := spaceGrassmannRow, standIns := [], harness := (true, "22cd8d1d158a6c81da59c544a527c308c115d7b5ec73cbb5dd68e2cf8e466e92"), looks := false }, kinds := [], alts := [], laidByText := true, laidKinds := [.data], laidTests := true, laidLooks := .later }
def SpaceGrassmannCardSaid : Prop := Claim7.holds Tryd.pinned (.plain (OpenSpec.ofChange spaceGrassmannSpec)) spaceGrassmannCard

/-- THE TIED CARD OF 'parterrelaw3.SpaceNormal'. -/
def spaceNormalCard : Claim7 := { stood := { row := spaceNormalRow, standIns := [], harness := (true, "22cd8d1d158a6c81da59c544a527c308c115d7b5ec73cbb5dd68e2cf8e466e92"), looks := false }, kinds := [], alts := [], laidByText := true, laidKinds := [.data], laidTests := true, laidLooks := .later }
def SpaceNormalCardSaid : Prop := Claim7.holds Tryd.pinned (.plain (OpenSpec.ofChange spaceNormalSpec)) spaceNormalCard

/-- THE SECOND FORM's CARD OF 'parterrelaw3.SpacePascal'. -/
def spacePascalUptoCard : Claim7 := { stood := { row := spacePascalUptoRow, standIns := [], harness := (true, "22cd8d1d158a6c81da59c544a527c308c115d7b5ec73cbb5dd68e2cf8e466e92"), looks := false }, kinds := [], alts := [], laidByText := true, laidKinds := [.data], laidTests := true, laidLooks := .later }
def SpacePascalUptoCardSaid : Prop := Claim7.holds Tryd.pinned (.plain (OpenSpec.upto spacePascalSpec)) spacePascalUptoCard

/-- THE SECOND FORM's CARD OF 'parterrelaw3.SpaceBases'. -/
def spaceBasesUptoCard : Claim7 := { stood := { row := spaceBasesUptoRow, standIns := [], harness := (true, "22cd8d1d158a6c81da59c544a527c308c115d7b5ec73cbb5dd68e2cf8e466e92"), looks := false }, kinds := [], alts := [], laidByText := true, laidKinds := [.data], laidTests := true, laidLooks := .later }
def SpaceBasesUptoCardSaid : Prop := Claim7.holds Tryd.pinned (.plain (OpenSpec.upto spaceBasesSpec)) spaceBasesUptoCard

/-- THE SECOND FORM's CARD OF 'parterrelaw3.SpaceMeets'. -/
def spaceMeetsUptoCard : Claim7 := { stood := { row := spaceMeetsUptoRow, standIns := [], harness := (true, "22cd8d1d158a6c81da59c544a527c308c115d7b5ec73cbb5dd68e2cf8e466e92"), looks := false }, kinds := [], alts := [], laidByText := true, laidKinds := [.data], laidTests := true, laidLooks := .later }
def SpaceMeetsUptoCardSaid : Prop := Claim7.holds Tryd.pinned (.plain (OpenSpec.upto spaceMeetsSpec)) spaceMeetsUptoCard

/-- THE SECOND FORM's CARD OF 'parterrelaw3.SpaceGrassmann'. -/
def spaceGrassmannUptoCard : Claim7 := { stood := { row := spaceGrassmannUptoRow, standIns := [], harness := (true, "22cd8d1d158a6c81da59c544a527c308c115d7b5ec73cbb5dd68e2cf8e466e92"), looks := false }, kinds := [], alts := [], laidByText := true, laidKinds := [.data], laidTests := true, laidLooks := .later }
def SpaceGrassmannUptoCardSaid : Prop := Claim7.holds Tryd.pinned (.plain (OpenSpec.upto spaceGrassmannSpec)) spaceGrassmannUptoCard

/-- THE SECOND FORM's CARD OF 'parterrelaw3.SpaceNormal'. -/
def spaceNormalUptoCard : Claim7 := { stood := { row := spaceNormalUptoRow, standIns := [], harness := (true, "22cd8d1d158a6c81da59c544a527c308c115d7b5ec73cbb5dd68e2cf8e466e92"), looks := false }, kinds := [], alts := [], laidByText := true, laidKinds := [.data], laidTests := true, laidLooks := .later }
def SpaceNormalUptoCardSaid : Prop := Claim7.holds Tryd.pinned (.plain (OpenSpec.upto spaceNormalSpec)) spaceNormalUptoCard
end Rows
end Go.Proofs.YthkafhmciapipaaDoor
