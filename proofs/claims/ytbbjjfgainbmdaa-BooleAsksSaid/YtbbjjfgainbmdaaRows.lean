/-
  No cell of these rows narrows 'for every input' (looked for: loops, veiled, ifaces, maps, wideKeys, modest, calm, conditions, laid).
  DERIVED. THE GIVEN ROWS OF THIS SEAT. 7 by the template 'for every input the law returns true; each argument reads behind the call as it read before'; 0 by the template 'total and deterministic' (their statements: YtbbjjfgainbmdaaTotals.lean).
  GIVEN WITH THE SEED: the statements are not yours to turn. If you find one false, say at which input.
  Laid BY PROGRAM, IN A SANDBOX (cutbox-rows.mjs): the forced cells as the released guide's own fill.sh prints them over the translation c192e92e2fdb450b… (all of the seat's roots in one cut). By AI agents, Wed Nov 11 2026. No macro, syntax, notation, axiom, sorry.
-/
import Derived.Test.YtbbjjfgainbmdaaChecked
import GoSem.Claim
import GoSem.ClaimJoined
import GoSem.ClaimMapViews
import Derived.JoinedTies
import Derived.KernelRfl
namespace Go.Proofs.Ytbbjjfgainbmdaa
/- THE CELL 'sum', in the pinned program and in every row, IS THE sha256 OF THE DUMP (.gsa) THAT YtbbjjfgainbmdaaProg.lean LOADS. Nothing in Lean hashes anything: it is a label: what it is worth is what the hold of that sum in a sandbox is worth. -/
noncomputable def Try.pinned : Pinned := { name := "ytbbjjfgainbmdaa", sum := "c192e92e2fdb450bb628924fd076598bd12e6466741be0580d3502ea2e314dc3", checked := Try.checked }
namespace Rows
def none {H : Type} : Left H := { results := [], args := [] }

/-- 'parterrelaw3.BooleBacks': WHATEVER THE INPUT: true; the input reads as it did. -/
def booleBacksSpec : ChangeSpec := { name := "booleBacks", fn := fun _ => fun
  | [d] => { results := [.lit (.bool true)], args := [d] }
  | _ => none }
def booleBacksRow : OpenClaim := { program := "ytbbjjfgainbmdaa", sum := "c192e92e2fdb450bb628924fd076598bd12e6466741be0580d3502ea2e314dc3", func := "parterre/parterrelaw3.BooleBacks", spec := "booleBacks", unfollowed := true, recurses := true, apart := false }
def BooleBacksSaid : Prop := booleBacksRow.holds Try.pinned (OpenSpec.ofChange booleBacksSpec)

/-- ITS FALSE NEIGHBOUR: 'it returns false'. Refute it at one input. -/
def booleBacksWrong : ChangeSpec := { name := "booleBacks", fn := fun _ => fun
  | [d] => { results := [.lit (.bool false)], args := [d] }
  | _ => none }
def BooleBacksWrongFalsely : Prop := booleBacksRow.holds Try.pinned (OpenSpec.ofChange booleBacksWrong)

/-- 'parterrelaw3.BooleParseval': WHATEVER THE INPUT: true; the input reads as it did. -/
def booleParsevalSpec : ChangeSpec := { name := "booleParseval", fn := fun _ => fun
  | [d] => { results := [.lit (.bool true)], args := [d] }
  | _ => none }
def booleParsevalRow : OpenClaim := { program := "ytbbjjfgainbmdaa", sum := "c192e92e2fdb450bb628924fd076598bd12e6466741be0580d3502ea2e314dc3", func := "parterre/parterrelaw3.BooleParseval", spec := "booleParseval", unfollowed := true, recurses := true, apart := false }
def BooleParsevalSaid : Prop := booleParsevalRow.holds Try.pinned (OpenSpec.ofChange booleParsevalSpec)

/-- ITS FALSE NEIGHBOUR: 'it returns false'. Refute it at one input. -/
def booleParsevalWrong : ChangeSpec := { name := "booleParseval", fn := fun _ => fun
  | [d] => { results := [.lit (.bool false)], args := [d] }
  | _ => none }
def BooleParsevalWrongFalsely : Prop := booleParsevalRow.holds Try.pinned (OpenSpec.ofChange booleParsevalWrong)

/-- 'parterrelaw3.BooleTwice': WHATEVER THE INPUT: true; the input reads as it did. -/
def booleTwiceSpec : ChangeSpec := { name := "booleTwice", fn := fun _ => fun
  | [d] => { results := [.lit (.bool true)], args := [d] }
  | _ => none }
def booleTwiceRow : OpenClaim := { program := "ytbbjjfgainbmdaa", sum := "c192e92e2fdb450bb628924fd076598bd12e6466741be0580d3502ea2e314dc3", func := "parterre/parterrelaw3.BooleTwice", spec := "booleTwice", unfollowed := true, recurses := true, apart := false }
def BooleTwiceSaid : Prop := booleTwiceRow.holds Try.pinned (OpenSpec.ofChange booleTwiceSpec)

/-- ITS FALSE NEIGHBOUR: 'it returns false'. Refute it at one input. -/
def booleTwiceWrong : ChangeSpec := { name := "booleTwice", fn := fun _ => fun
  | [d] => { results := [.lit (.bool false)], args := [d] }
  | _ => none }
def BooleTwiceWrongFalsely : Prop := booleTwiceRow.holds Try.pinned (OpenSpec.ofChange booleTwiceWrong)

/-- 'parterrelaw3.BooleTables': WHATEVER THE INPUT: true; the input reads as it did. -/
def booleTablesSpec : ChangeSpec := { name := "booleTables", fn := fun _ => fun
  | [d] => { results := [.lit (.bool true)], args := [d] }
  | _ => none }
def booleTablesRow : OpenClaim := { program := "ytbbjjfgainbmdaa", sum := "c192e92e2fdb450bb628924fd076598bd12e6466741be0580d3502ea2e314dc3", func := "parterre/parterrelaw3.BooleTables", spec := "booleTables", unfollowed := true, recurses := true, apart := false }
def BooleTablesSaid : Prop := booleTablesRow.holds Try.pinned (OpenSpec.ofChange booleTablesSpec)

/-- ITS FALSE NEIGHBOUR: 'it returns false'. Refute it at one input. -/
def booleTablesWrong : ChangeSpec := { name := "booleTables", fn := fun _ => fun
  | [d] => { results := [.lit (.bool false)], args := [d] }
  | _ => none }
def BooleTablesWrongFalsely : Prop := booleTablesRow.holds Try.pinned (OpenSpec.ofChange booleTablesWrong)

/-- 'parterrelaw3.BooleAsks': WHATEVER THE INPUT: true; the input reads as it did. -/
def booleAsksSpec : ChangeSpec := { name := "booleAsks", fn := fun _ => fun
  | [d] => { results := [.lit (.bool true)], args := [d] }
  | _ => none }
def booleAsksRow : OpenClaim := { program := "ytbbjjfgainbmdaa", sum := "c192e92e2fdb450bb628924fd076598bd12e6466741be0580d3502ea2e314dc3", func := "parterre/parterrelaw3.BooleAsks", spec := "booleAsks", unfollowed := true, recurses := true, apart := false }
def BooleAsksSaid : Prop := booleAsksRow.holds Try.pinned (OpenSpec.ofChange booleAsksSpec)

/-- ITS FALSE NEIGHBOUR: 'it returns false'. Refute it at one input. -/
def booleAsksWrong : ChangeSpec := { name := "booleAsks", fn := fun _ => fun
  | [d] => { results := [.lit (.bool false)], args := [d] }
  | _ => none }
def BooleAsksWrongFalsely : Prop := booleAsksRow.holds Try.pinned (OpenSpec.ofChange booleAsksWrong)

/-- 'parterrelaw3.BooleSiegenthaler': WHATEVER THE INPUT: true; the input reads as it did. -/
def booleSiegenthalerSpec : ChangeSpec := { name := "booleSiegenthaler", fn := fun _ => fun
  | [d] => { results := [.lit (.bool true)], args := [d] }
  | _ => none }
def booleSiegenthalerRow : OpenClaim := { program := "ytbbjjfgainbmdaa", sum := "c192e92e2fdb450bb628924fd076598bd12e6466741be0580d3502ea2e314dc3", func := "parterre/parterrelaw3.BooleSiegenthaler", spec := "booleSiegenthaler", unfollowed := true, recurses := true, apart := false }
def BooleSiegenthalerSaid : Prop := booleSiegenthalerRow.holds Try.pinned (OpenSpec.ofChange booleSiegenthalerSpec)

/-- ITS FALSE NEIGHBOUR: 'it returns false'. Refute it at one input. -/
def booleSiegenthalerWrong : ChangeSpec := { name := "booleSiegenthaler", fn := fun _ => fun
  | [d] => { results := [.lit (.bool false)], args := [d] }
  | _ => none }
def BooleSiegenthalerWrongFalsely : Prop := booleSiegenthalerRow.holds Try.pinned (OpenSpec.ofChange booleSiegenthalerWrong)

/-- 'parterrelaw3.BooleRothaus': WHATEVER THE INPUT: true; the input reads as it did. -/
def booleRothausSpec : ChangeSpec := { name := "booleRothaus", fn := fun _ => fun
  | [d] => { results := [.lit (.bool true)], args := [d] }
  | _ => none }
def booleRothausRow : OpenClaim := { program := "ytbbjjfgainbmdaa", sum := "c192e92e2fdb450bb628924fd076598bd12e6466741be0580d3502ea2e314dc3", func := "parterre/parterrelaw3.BooleRothaus", spec := "booleRothaus", unfollowed := true, recurses := true, apart := false }
def BooleRothausSaid : Prop := booleRothausRow.holds Try.pinned (OpenSpec.ofChange booleRothausSpec)

/-- ITS FALSE NEIGHBOUR: 'it returns false'. Refute it at one input. -/
def booleRothausWrong : ChangeSpec := { name := "booleRothaus", fn := fun _ => fun
  | [d] => { results := [.lit (.bool false)], args := [d] }
  | _ => none }
def BooleRothausWrongFalsely : Prop := booleRothausRow.holds Try.pinned (OpenSpec.ofChange booleRothausWrong)

/- THE SECOND FORM. 'bulk': how many values and letters a reading holds, each counted each time it is reached (what is shared counts as often as it is met; a slice's spare places count too). A statement '..UptoSaid' is the law's where the arguments, and the package variables that the reading takes, are together of bulk at most 1048576: NARROWER than '..Said'. Prove '..Said' where nothing that the law and all that it calls make is longer than what came in: it says more and counts as full. Else prove '..UptoSaid'. A law counts once. -/
mutual
def uptoBulk {H : Type} : DataW H → Nat
  | .lit (.string bytes) => bytes.length + 1
  | .lit _ => 1
  | .nil => 1
  | .ptr d => uptoBulk d + 1
  | .slice elems spare => uptoBulkAll elems + uptoBulkAll spare + 1
  | .agg parts => uptoBulkAll parts + 1
  | .iface _ d => uptoBulk d + 1
  | .map entries => uptoBulkEntries entries + 1
  | .held _ => 1
def uptoBulkAll {H : Type} : List (DataW H) → Nat
  | [] => 0
  | d :: r => uptoBulk d + uptoBulkAll r
def uptoBulkEntries {H : Type} : List (Lit × DataW H) → Nat
  | [] => 0
  | x :: r => uptoBulkEntry x + uptoBulkEntries r
def uptoBulkEntry {H : Type} : Lit × DataW H → Nat
  | (.string bytes, d) => bytes.length + uptoBulk d + 1
  | (_, d) => uptoBulk d + 1
 end
def uptoSmall : (H : Type) → List (DataW H) → Bool := fun _ ds => decide (uptoBulkAll ds ≤ 1048576)
def OpenSpec.upto (s : _root_.Go.ChangeSpec) : _root_.Go.OpenSpec := { _root_.Go.OpenSpec.ofChange s with cond := some uptoSmall }

/-- 'parterrelaw3.BooleBacks', WHERE WHAT IT READS IS OF BULK AT MOST 1048576: true; the input reads as it did. -/
def booleBacksUptoRow : OpenClaim := { program := "ytbbjjfgainbmdaa", sum := "c192e92e2fdb450bb628924fd076598bd12e6466741be0580d3502ea2e314dc3", func := "parterre/parterrelaw3.BooleBacks", spec := "booleBacks", unfollowed := true, recurses := true, apart := false, narrowed := true }
def BooleBacksUptoSaid : Prop := booleBacksUptoRow.holds Try.pinned (OpenSpec.upto booleBacksSpec)

/-- 'parterrelaw3.BooleParseval', WHERE WHAT IT READS IS OF BULK AT MOST 1048576: true; the input reads as it did. -/
def booleParsevalUptoRow : OpenClaim := { program := "ytbbjjfgainbmdaa", sum := "c192e92e2fdb450bb628924fd076598bd12e6466741be0580d3502ea2e314dc3", func := "parterre/parterrelaw3.BooleParseval", spec := "booleParseval", unfollowed := true, recurses := true, apart := false, narrowed := true }
def BooleParsevalUptoSaid : Prop := booleParsevalUptoRow.holds Try.pinned (OpenSpec.upto booleParsevalSpec)

/-- 'parterrelaw3.BooleTwice', WHERE WHAT IT READS IS OF BULK AT MOST 1048576: true; the input reads as it did. -/
def booleTwiceUptoRow : OpenClaim := { program := "ytbbjjfgainbmdaa", sum := "c192e92e2fdb450bb628924fd076598bd12e6466741be0580d3502ea2e314dc3", func := "parterre/parterrelaw3.BooleTwice", spec := "booleTwice", unfollowed := true, recurses := true, apart := false, narrowed := true }
def BooleTwiceUptoSaid : Prop := booleTwiceUptoRow.holds Try.pinned (OpenSpec.upto booleTwiceSpec)

/-- 'parterrelaw3.BooleTables', WHERE WHAT IT READS IS OF BULK AT MOST 1048576: true; the input reads as it did. -/
def booleTablesUptoRow : OpenClaim := { program := "ytbbjjfgainbmdaa", sum := "c192e92e2fdb450bb628924fd076598bd12e6466741be0580d3502ea2e314dc3", func := "parterre/parterrelaw3.BooleTables", spec := "booleTables", unfollowed := true, recurses := true, apart := false, narrowed := true }
def BooleTablesUptoSaid : Prop := booleTablesUptoRow.holds Try.pinned (OpenSpec.upto booleTablesSpec)

/-- 'parterrelaw3.BooleAsks', WHERE WHAT IT READS IS OF BULK AT MOST 1048576: true; the input reads as it did. -/
def booleAsksUptoRow : OpenClaim := { program := "ytbbjjfgainbmdaa", sum := "c192e92e2fdb450bb628924fd076598bd12e6466741be0580d3502ea2e314dc3", func := "parterre/parterrelaw3.BooleAsks", spec := "booleAsks", unfollowed := true, recurses := true, apart := false, narrowed := true }
def BooleAsksUptoSaid : Prop := booleAsksUptoRow.holds Try.pinned (OpenSpec.upto booleAsksSpec)

/-- 'parterrelaw3.BooleSiegenthaler', WHERE WHAT IT READS IS OF BULK AT MOST 1048576: true; the input reads as it did. -/
def booleSiegenthalerUptoRow : OpenClaim := { program := "ytbbjjfgainbmdaa", sum := "c192e92e2fdb450bb628924fd076598bd12e6466741be0580d3502ea2e314dc3", func := "parterre/parterrelaw3.BooleSiegenthaler", spec := "booleSiegenthaler", unfollowed := true, recurses := true, apart := false, narrowed := true }
def BooleSiegenthalerUptoSaid : Prop := booleSiegenthalerUptoRow.holds Try.pinned (OpenSpec.upto booleSiegenthalerSpec)

/-- 'parterrelaw3.BooleRothaus', WHERE WHAT IT READS IS OF BULK AT MOST 1048576: true; the input reads as it did. -/
def booleRothausUptoRow : OpenClaim := { program := "ytbbjjfgainbmdaa", sum := "c192e92e2fdb450bb628924fd076598bd12e6466741be0580d3502ea2e314dc3", func := "parterre/parterrelaw3.BooleRothaus", spec := "booleRothaus", unfollowed := true, recurses := true, apart := false, narrowed := true }
def BooleRothausUptoSaid : Prop := booleRothausUptoRow.holds Try.pinned (OpenSpec.upto booleRothausSpec)

end Rows
end Go.Proofs.Ytbbjjfgainbmdaa
