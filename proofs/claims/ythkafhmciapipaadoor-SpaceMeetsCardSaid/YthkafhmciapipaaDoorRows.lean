/-
  NARROWER THAN 'FOR EVERY INPUT', by the rows' own cells (each row's printed sentence says how): SpacePascal: laid · SpaceBases: laid · SpaceMeets: laid · SpaceGrassmann: laid · SpaceNormal: laid.
  DERIVED. THE GIVEN ROWS OF THIS SEAT. 5 by the template 'for every input the law returns true; each argument reads behind the call as it read before'; 0 by the template 'total and deterministic' (their statements: YthkafhmciapipaaDoorTotals.lean).
  GIVEN WITH THE SEED: the statements are not yours to turn. If you find one false, say at which input.
  Laid BY PROGRAM, IN A SANDBOX (cutbox-rows.mjs): the forced cells as the released guide's own fill.sh prints them over the translation e379e20db283db3c… (all of the seat's roots in one cut). By AI agents, Wed Nov 11 2026. No macro, syntax, notation, axiom, sorry.
-/
import Derived.Test.YthkafhmciapipaaDoorChecked
import GoSem.Claim
import GoSem.ClaimJoined
import GoSem.ClaimMapViews
import Derived.JoinedTies
import Derived.KernelRfl
namespace Go.Proofs.YthkafhmciapipaaDoor
/- THE CELL 'sum', in the pinned program and in every row, IS THE sha256 OF THE DUMP (.gsa) THAT YthkafhmciapipaaDoorProg.lean LOADS. Nothing in Lean hashes anything: it is a label: what it is worth is what the hold of that sum in a sandbox is worth. -/
noncomputable def Tryd.pinned : Pinned := { name := "ythkafhmciapipaadoor", sum := "e379e20db283db3c9a7a2617a751af2c275deb894c2de6e5d4a0a88206663097", checked := Tryd.checked }
namespace Rows
def none {H : Type} : Left H := { results := [], args := [] }

/- WHAT THE LISTED PACKAGE-LEVEL VARIABLES READ AS WHEN THE CALL BEGINS. Each datum BY PROGRAM (the guide's laid-datum.mjs) off the statement by which the dump's own 'gosem.cut.vars' lays the variable. In a bare row this is a premise. The card (YthkafhmciapipaaDoorCards.lean) ties it to the program's text. -/
def laid_parterre_field_primes {H : Type} : DataW H := .agg [.lit (.int .i64 2), .lit (.int .i64 3), .lit (.int .i64 5), .lit (.int .i64 7), .lit (.int .i64 11), .lit (.int .i64 13), .lit (.int .i64 17), .lit (.int .i64 19), .lit (.int .i64 23), .lit (.int .i64 29), .lit (.int .i64 31), .lit (.int .i64 37), .lit (.int .i64 41), .lit (.int .i64 43), .lit (.int .i64 47), .lit (.int .i64 53), .lit (.int .i64 59), .lit (.int .i64 61)]

/-- 'parterrelaw3.SpacePascal': WHATEVER THE INPUT: true; the input reads as it did. -/
def spacePascalSpec : ChangeSpec := { name := "spacePascal", fn := fun _ => fun
  | [d1, d2, d3] => { results := [.lit (.bool true)], args := [d1, d2, d3] }
  | _ => none }
def spacePascalRow : OpenClaim := { program := "ythkafhmciapipaadoor", sum := "e379e20db283db3c9a7a2617a751af2c275deb894c2de6e5d4a0a88206663097", func := "parterre/parterrelaw3.SpacePascal", spec := "spacePascal", unfollowed := true, recurses := true, named := ["parterre/field.primes"], apart := false, laid := [("parterre/field.primes", laid_parterre_field_primes)] }
def SpacePascalSaid : Prop := spacePascalRow.holds Tryd.pinned (OpenSpec.ofChange spacePascalSpec)

/-- ITS FALSE NEIGHBOUR: 'it returns false'. Refute it at one input. -/
def spacePascalWrong : ChangeSpec := { name := "spacePascal", fn := fun _ => fun
  | [d1, d2, d3] => { results := [.lit (.bool false)], args := [d1, d2, d3] }
  | _ => none }
def SpacePascalWrongFalsely : Prop := spacePascalRow.holds Tryd.pinned (OpenSpec.ofChange spacePascalWrong)

/-- 'parterrelaw3.SpaceBases': WHATEVER THE INPUT: true; the input reads as it did. -/
def spaceBasesSpec : ChangeSpec := { name := "spaceBases", fn := fun _ => fun
  | [d1, d2, d3, d4] => { results := [.lit (.bool true)], args := [d1, d2, d3, d4] }
  | _ => none }
def spaceBasesRow : OpenClaim := { program := "ythkafhmciapipaadoor", sum := "e379e20db283db3c9a7a2617a751af2c275deb894c2de6e5d4a0a88206663097", func := "parterre/parterrelaw3.SpaceBases", spec := "spaceBases", unfollowed := true, recurses := true, named := ["parterre/field.primes"], apart := false, laid := [("parterre/field.primes", laid_parterre_field_primes)] }
def SpaceBasesSaid : Prop := spaceBasesRow.holds Tryd.pinned (OpenSpec.ofChange spaceBasesSpec)

/-- ITS FALSE NEIGHBOUR: 'it returns false'. Refute it at one input. -/
def spaceBasesWrong : ChangeSpec := { name := "spaceBases", fn := fun _ => fun
  | [d1, d2, d3, d4] => { results := [.lit (.bool false)], args := [d1, d2, d3, d4] }
  | _ => none }
def SpaceBasesWrongFalsely : Prop := spaceBasesRow.holds Tryd.pinned (OpenSpec.ofChange spaceBasesWrong)

/-- 'parterrelaw3.SpaceMeets': WHATEVER THE INPUT: true; the input reads as it did. -/
def spaceMeetsSpec : ChangeSpec := { name := "spaceMeets", fn := fun _ => fun
  | [d1, d2, d3, d4] => { results := [.lit (.bool true)], args := [d1, d2, d3, d4] }
  | _ => none }
def spaceMeetsRow : OpenClaim := { program := "ythkafhmciapipaadoor", sum := "e379e20db283db3c9a7a2617a751af2c275deb894c2de6e5d4a0a88206663097", func := "parterre/parterrelaw3.SpaceMeets", spec := "spaceMeets", unfollowed := true, recurses := true, named := ["parterre/field.primes"], apart := false, laid := [("parterre/field.primes", laid_parterre_field_primes)] }
def SpaceMeetsSaid : Prop := spaceMeetsRow.holds Tryd.pinned (OpenSpec.ofChange spaceMeetsSpec)

/-- ITS FALSE NEIGHBOUR: 'it returns false'. Refute it at one input. -/
def spaceMeetsWrong : ChangeSpec := { name := "spaceMeets", fn := fun _ => fun
  | [d1, d2, d3, d4] => { results := [.lit (.bool false)], args := [d1, d2, d3, d4] }
  | _ => none }
def SpaceMeetsWrongFalsely : Prop := spaceMeetsRow.holds Tryd.pinned (OpenSpec.ofChange spaceMeetsWrong)

/-- 'parterrelaw3.SpaceGrassmann': WHATEVER THE INPUT: true; the input reads as it did. -/
def spaceGrassmannSpec : ChangeSpec := { name := "spaceGrassmann", fn := fun _ => fun
  | [d1, d2, d3, d4] => { results := [.lit (.bool true)], args := [d1, d2, d3, d4] }
  | _ => none }
def spaceGrassmannRow : OpenClaim := { program := "ythkafhmciapipaadoor", sum := "e379e20db283db3c9a7a2617a751af2c275deb894c2de6e5d4a0a88206663097", func := "parterre/parterrelaw3.SpaceGrassmann", spec := "spaceGrassmann", unfollowed := true, recurses := true, named := ["parterre/field.primes"], apart := false, laid := [("parterre/field.primes", laid_parterre_field_primes)] }
def SpaceGrassmannSaid : Prop := spaceGrassmannRow.holds Tryd.pinned (OpenSpec.ofChange spaceGrassmannSpec)

/-- ITS FALSE NEIGHBOUR: 'it returns false'. Refute it at one input. -/
def spaceGrassmannWrong : ChangeSpec := { name := "spaceGrassmann", fn := fun _ => fun
  | [d1, d2, d3, d4] => { results := [.lit (.bool false)], args := [d1, d2, d3, d4] }
  | _ => none }
def SpaceGrassmannWrongFalsely : Prop := spaceGrassmannRow.holds Tryd.pinned (OpenSpec.ofChange spaceGrassmannWrong)

/-- 'parterrelaw3.SpaceNormal': WHATEVER THE INPUT: true; the input reads as it did. -/
def spaceNormalSpec : ChangeSpec := { name := "spaceNormal", fn := fun _ => fun
  | [d1, d2, d3, d4] => { results := [.lit (.bool true)], args := [d1, d2, d3, d4] }
  | _ => none }
def spaceNormalRow : OpenClaim := { program := "ythkafhmciapipaadoor", sum := "e379e20db283db3c9a7a2617a751af2c275deb894c2de6e5d4a0a88206663097", func := "parterre/parterrelaw3.SpaceNormal", spec := "spaceNormal", unfollowed := true, recurses := true, named := ["parterre/field.primes"], apart := false, laid := [("parterre/field.primes", laid_parterre_field_primes)] }
def SpaceNormalSaid : Prop := spaceNormalRow.holds Tryd.pinned (OpenSpec.ofChange spaceNormalSpec)

/-- ITS FALSE NEIGHBOUR: 'it returns false'. Refute it at one input. -/
def spaceNormalWrong : ChangeSpec := { name := "spaceNormal", fn := fun _ => fun
  | [d1, d2, d3, d4] => { results := [.lit (.bool false)], args := [d1, d2, d3, d4] }
  | _ => none }
def SpaceNormalWrongFalsely : Prop := spaceNormalRow.holds Tryd.pinned (OpenSpec.ofChange spaceNormalWrong)

/- THE SECOND FORM. 'bulk': how many values and letters a reading holds, each counted each time it is reached (what is shared counts as often as it is met; a slice's spare places count too). A statement '..UptoSaid' is the law's where the arguments, and the package variables that the reading takes, are together of bulk at most 1048576: NARROWER than '..Said'. Prove '..Said' where nothing that the law and all that it calls make is longer than what came in: it says more and counts as full. Else prove '..UptoSaid'. A law counts once. -/
mutual
def uptoBulk {H : Type} : DataW H → Nat
  | .lit (.string bytes) => bytes.length + 1
  | .lit _ => 1
  | .nil => 1
  | .ptr d => uptoBulk d + 1
  | .slice elems spare => uptoBulkAll elems + uptoBulkAll spare + 1
  | .agg parts => uptoBulkAll parts + 1
  | .iface _ d => uptoBulk d + 1
  | .map entries => uptoBulkEntries entries + 1
  | .held _ => 1
def uptoBulkAll {H : Type} : List (DataW H) → Nat
  | [] => 0
  | d :: r => uptoBulk d + uptoBulkAll r
def uptoBulkEntries {H : Type} : List (Lit × DataW H) → Nat
  | [] => 0
  | x :: r => uptoBulkEntry x + uptoBulkEntries r
def uptoBulkEntry {H : Type} : Lit × DataW H → Nat
  | (.string bytes, d) => bytes.length + uptoBulk d + 1
  | (_, d) => uptoBulk d + 1
 end
def uptoSmall : (H : Type) → List (DataW H) → Bool := fun _ ds => decide (uptoBulkAll ds ≤ 1048576)
def OpenSpec.upto (s : _root_.Go.ChangeSpec) : _root_.Go.OpenSpec := { _root_.Go.OpenSpec.ofChange s with cond := some uptoSmall }

/-- 'parterrelaw3.SpacePascal', WHERE WHAT IT READS IS OF BULK AT MOST 1048576: true; the input reads as it did. -/
def spacePascalUptoRow : OpenClaim := { program := "ythkafhmciapipaadoor", sum := "e379e20db283db3c9a7a2617a751af2c275deb894c2de6e5d4a0a88206663097", func := "parterre/parterrelaw3.SpacePascal", spec := "spacePascal", unfollowed := true, recurses := true, named := ["parterre/field.primes"], apart := false, laid := [("parterre/field.primes", laid_parterre_field_primes)], narrowed := true }
def SpacePascalUptoSaid : Prop := spacePascalUptoRow.holds Tryd.pinned (OpenSpec.upto spacePascalSpec)

/-- 'parterrelaw3.SpaceBases', WHERE WHAT IT READS IS OF BULK AT MOST 1048576: true; the input reads as it did. -/
def spaceBasesUptoRow : OpenClaim := { program := "ythkafhmciapipaadoor", sum := "e379e20db283db3c9a7a2617a751af2c275deb894c2de6e5d4a0a88206663097", func := "parterre/parterrelaw3.SpaceBases", spec := "spaceBases", unfollowed := true, recurses := true, named := ["parterre/field.primes"], apart := false, laid := [("parterre/field.primes", laid_parterre_field_primes)], narrowed := true }
def SpaceBasesUptoSaid : Prop := spaceBasesUptoRow.holds Tryd.pinned (OpenSpec.upto spaceBasesSpec)

/-- 'parterrelaw3.SpaceMeets', WHERE WHAT IT READS IS OF BULK AT MOST 1048576: true; the input reads as it did. -/
def spaceMeetsUptoRow : OpenClaim := { program := "ythkafhmciapipaadoor", sum := "e379e20db283db3c9a7a2617a751af2c275deb894c2de6e5d4a0a88206663097", func := "parterre/parterrelaw3.SpaceMeets", spec := "spaceMeets", unfollowed := true, recurses := true, named := ["parterre/field.primes"], apart := false, laid := [("parterre/field.primes", laid_parterre_field_primes)], narrowed := true }
def SpaceMeetsUptoSaid : Prop := spaceMeetsUptoRow.holds Tryd.pinned (OpenSpec.upto spaceMeetsSpec)

/-- 'parterrelaw3.SpaceGrassmann', WHERE WHAT IT READS IS OF BULK AT MOST 1048576: true; the input reads as it did. -/
def spaceGrassmannUptoRow : OpenClaim := { program := "ythkafhmciapipaadoor", sum := "e379e20db283db3c9a7a2617a751af2c275deb894c2de6e5d4a0a88206663097", func := "parterre/parterrelaw3.SpaceGrassmann", spec := "spaceGrassmann", unfollowed := true, recurses := true, named := ["parterre/field.primes"], apart := false, laid := [("parterre/field.primes", laid_parterre_field_primes)], narrowed := true }
def SpaceGrassmannUptoSaid : Prop := spaceGrassmannUptoRow.holds Tryd.pinned (OpenSpec.upto spaceGrassmannSpec)

/-- 'parterrelaw3.SpaceNormal', WHERE WHAT IT READS IS OF BULK AT MOST 1048576: true; the input reads as it did. -/
def spaceNormalUptoRow : OpenClaim := { program := "ythkafhmciapipaadoor", sum := "e379e20db283db3c9a7a2617a751af2c275deb894c2de6e5d4a0a88206663097", func := "parterre/parterrelaw3.SpaceNormal", spec := "spaceNormal", unfollowed := true, recurses := true, named := ["parterre/field.primes"], apart := false, laid := [("parterre/field.primes", laid_parterre_field_primes)], narrowed := true }
def SpaceNormalUptoSaid : Prop := spaceNormalUptoRow.holds Tryd.pinned (OpenSpec.upto spaceNormalSpec)

end Rows
end Go.Proofs.YthkafhmciapipaaDoor
