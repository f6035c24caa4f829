/-
  No cell of these rows narrows 'for every input' (looked for: loops, veiled, ifaces, maps, wideKeys, modest, calm, conditions, laid).
  DERIVED. THE GIVEN ROWS OF THIS SEAT. 5 by the template 'for every input the law returns true; each argument reads behind the call as it read before'; 0 by the template 'total and deterministic' (their statements: YtllfccfpoigigaaTotals.lean).
  GIVEN WITH THE SEED: the statements are not yours to turn. If you find one false, say at which input.
  Laid BY PROGRAM, IN A SANDBOX (cutbox-rows.mjs): the forced cells as the released guide's own fill.sh prints them over the translation 9bd460a89e28b87d… (all of the seat's roots in one cut). By AI agents, Wed Nov 11 2026. No macro, syntax, notation, axiom, sorry.
-/
import Derived.Test.YtllfccfpoigigaaChecked
import GoSem.Claim
import GoSem.ClaimJoined
import GoSem.ClaimMapViews
import Derived.JoinedTies
import Derived.KernelRfl
namespace Go.Proofs.Ytllfccfpoigigaa
/- THE CELL 'sum', in the pinned program and in every row, IS THE sha256 OF THE DUMP (.gsa) THAT YtllfccfpoigigaaProg.lean LOADS. Nothing in Lean hashes anything: it is a label: what it is worth is what the hold of that sum in a sandbox is worth. -/
noncomputable def Try.pinned : Pinned := { name := "ytllfccfpoigigaa", sum := "9bd460a89e28b87de00cc90abc9bf8ff5ef2c9f04d647554df2e30eacb42f133", checked := Try.checked }
namespace Rows
def none {H : Type} : Left H := { results := [], args := [] }

/-- 'parterrelaw3.StrongFits': WHATEVER THE INPUT: true; the input reads as it did. -/
def strongFitsSpec : ChangeSpec := { name := "strongFits", fn := fun _ => fun
  | [d] => { results := [.lit (.bool true)], args := [d] }
  | _ => none }
def strongFitsRow : OpenClaim := { program := "ytllfccfpoigigaa", sum := "9bd460a89e28b87de00cc90abc9bf8ff5ef2c9f04d647554df2e30eacb42f133", func := "parterre/parterrelaw3.StrongFits", spec := "strongFits", plainKeys := false, apart := false }
def StrongFitsSaid : Prop := strongFitsRow.holds Try.pinned (OpenSpec.ofChange strongFitsSpec)

/-- ITS FALSE NEIGHBOUR: 'it returns false'. Refute it at one input. -/
def strongFitsWrong : ChangeSpec := { name := "strongFits", fn := fun _ => fun
  | [d] => { results := [.lit (.bool false)], args := [d] }
  | _ => none }
def StrongFitsWrongFalsely : Prop := strongFitsRow.holds Try.pinned (OpenSpec.ofChange strongFitsWrong)

/-- 'parterrelaw3.StrongOther': WHATEVER THE INPUT: true; the input reads as it did. -/
def strongOtherSpec : ChangeSpec := { name := "strongOther", fn := fun _ => fun
  | [d] => { results := [.lit (.bool true)], args := [d] }
  | _ => none }
def strongOtherRow : OpenClaim := { program := "ytllfccfpoigigaa", sum := "9bd460a89e28b87de00cc90abc9bf8ff5ef2c9f04d647554df2e30eacb42f133", func := "parterre/parterrelaw3.StrongOther", spec := "strongOther", unfollowed := true, recurses := true, plainKeys := false, apart := false }
def StrongOtherSaid : Prop := strongOtherRow.holds Try.pinned (OpenSpec.ofChange strongOtherSpec)

/-- ITS FALSE NEIGHBOUR: 'it returns false'. Refute it at one input. -/
def strongOtherWrong : ChangeSpec := { name := "strongOther", fn := fun _ => fun
  | [d] => { results := [.lit (.bool false)], args := [d] }
  | _ => none }
def StrongOtherWrongFalsely : Prop := strongOtherRow.holds Try.pinned (OpenSpec.ofChange strongOtherWrong)

/-- 'parterrelaw3.StrongChecks': WHATEVER THE INPUT: true; the input reads as it did. -/
def strongChecksSpec : ChangeSpec := { name := "strongChecks", fn := fun _ => fun
  | [d] => { results := [.lit (.bool true)], args := [d] }
  | _ => none }
def strongChecksRow : OpenClaim := { program := "ytllfccfpoigigaa", sum := "9bd460a89e28b87de00cc90abc9bf8ff5ef2c9f04d647554df2e30eacb42f133", func := "parterre/parterrelaw3.StrongChecks", spec := "strongChecks", unfollowed := true, recurses := true, plainKeys := false, apart := false }
def StrongChecksSaid : Prop := strongChecksRow.holds Try.pinned (OpenSpec.ofChange strongChecksSpec)

/-- ITS FALSE NEIGHBOUR: 'it returns false'. Refute it at one input. -/
def strongChecksWrong : ChangeSpec := { name := "strongChecks", fn := fun _ => fun
  | [d] => { results := [.lit (.bool false)], args := [d] }
  | _ => none }
def StrongChecksWrongFalsely : Prop := strongChecksRow.holds Try.pinned (OpenSpec.ofChange strongChecksWrong)

/-- 'parterrelaw3.StrongFriends': WHATEVER THE INPUT: true; the input reads as it did. -/
def strongFriendsSpec : ChangeSpec := { name := "strongFriends", fn := fun _ => fun
  | [d] => { results := [.lit (.bool true)], args := [d] }
  | _ => none }
def strongFriendsRow : OpenClaim := { program := "ytllfccfpoigigaa", sum := "9bd460a89e28b87de00cc90abc9bf8ff5ef2c9f04d647554df2e30eacb42f133", func := "parterre/parterrelaw3.StrongFriends", spec := "strongFriends", unfollowed := true, recurses := true, plainKeys := false, apart := false }
def StrongFriendsSaid : Prop := strongFriendsRow.holds Try.pinned (OpenSpec.ofChange strongFriendsSpec)

/-- ITS FALSE NEIGHBOUR: 'it returns false'. Refute it at one input. -/
def strongFriendsWrong : ChangeSpec := { name := "strongFriends", fn := fun _ => fun
  | [d] => { results := [.lit (.bool false)], args := [d] }
  | _ => none }
def StrongFriendsWrongFalsely : Prop := strongFriendsRow.holds Try.pinned (OpenSpec.ofChange strongFriendsWrong)

/-- 'parterrelaw3.StrongReal': WHATEVER THE INPUT: true; the input reads as it did. -/
def strongRealSpec : ChangeSpec := { name := "strongReal", fn := fun _ => fun
  | [d] => { results := [.lit (.bool true)], args := [d] }
  | _ => none }
def strongRealRow : OpenClaim := { program := "ytllfccfpoigigaa", sum := "9bd460a89e28b87de00cc90abc9bf8ff5ef2c9f04d647554df2e30eacb42f133", func := "parterre/parterrelaw3.StrongReal", spec := "strongReal", unfollowed := true, recurses := true, plainKeys := false, apart := false }
def StrongRealSaid : Prop := strongRealRow.holds Try.pinned (OpenSpec.ofChange strongRealSpec)

/-- ITS FALSE NEIGHBOUR: 'it returns false'. Refute it at one input. -/
def strongRealWrong : ChangeSpec := { name := "strongReal", fn := fun _ => fun
  | [d] => { results := [.lit (.bool false)], args := [d] }
  | _ => none }
def StrongRealWrongFalsely : Prop := strongRealRow.holds Try.pinned (OpenSpec.ofChange strongRealWrong)

/- THE SECOND FORM. 'bulk': how many values and letters a reading holds, each counted each time it is reached (what is shared counts as often as it is met; a slice's spare places count too). A statement '..UptoSaid' is the law's where the arguments, and the package variables that the reading takes, are together of bulk at most 1048576: NARROWER than '..Said'. Prove '..Said' where nothing that the law and all that it calls make is longer than what came in: it says more and counts as full. Else prove '..UptoSaid'. A law counts once. -/
mutual
def uptoBulk {H : Type} : DataW H → Nat
  | .lit (.string bytes) => bytes.length + 1
  | .lit _ => 1
  | .nil => 1
  | .ptr d => uptoBulk d + 1
  | .slice elems spare => uptoBulkAll elems + uptoBulkAll spare + 1
  | .agg parts => uptoBulkAll parts + 1
  | .iface _ d => uptoBulk d + 1
  | .map entries => uptoBulkEntries entries + 1
  | .held _ => 1
def uptoBulkAll {H : Type} : List (DataW H) → Nat
  | [] => 0
  | d :: r => uptoBulk d + uptoBulkAll r
def uptoBulkEntries {H : Type} : List (Lit × DataW H) → Nat
  | [] => 0
  | x :: r => uptoBulkEntry x + uptoBulkEntries r
def uptoBulkEntry {H : Type} : Lit × DataW H → Nat
  | (.string bytes, d) => bytes.length + uptoBulk d + 1
  | (_, d) => uptoBulk d + 1
 end
def uptoSmall : (H : Type) → List (DataW H) → Bool := fun _ ds => decide (uptoBulkAll ds ≤ 1048576)
def OpenSpec.upto (s : _root_.Go.ChangeSpec) : _root_.Go.OpenSpec := { _root_.Go.OpenSpec.ofChange s with cond := some uptoSmall }

/-- 'parterrelaw3.StrongFits', WHERE WHAT IT READS IS OF BULK AT MOST 1048576: true; the input reads as it did. -/
def strongFitsUptoRow : OpenClaim := { program := "ytllfccfpoigigaa", sum := "9bd460a89e28b87de00cc90abc9bf8ff5ef2c9f04d647554df2e30eacb42f133", func := "parterre/parterrelaw3.StrongFits", spec := "strongFits", plainKeys := false, apart := false, narrowed := true }
def StrongFitsUptoSaid : Prop := strongFitsUptoRow.holds Try.pinned (OpenSpec.upto strongFitsSpec)

/-- 'parterrelaw3.StrongOther', WHERE WHAT IT READS IS OF BULK AT MOST 1048576: true; the input reads as it did. -/
def strongOtherUptoRow : OpenClaim := { program := "ytllfccfpoigigaa", sum := "9bd460a89e28b87de00cc90abc9bf8ff5ef2c9f04d647554df2e30eacb42f133", func := "parterre/parterrelaw3.StrongOther", spec := "strongOther", unfollowed := true, recurses := true, plainKeys := false, apart := false, narrowed := true }
def StrongOtherUptoSaid : Prop := strongOtherUptoRow.holds Try.pinned (OpenSpec.upto strongOtherSpec)

/-- 'parterrelaw3.StrongChecks', WHERE WHAT IT READS IS OF BULK AT MOST 1048576: true; the input reads as it did. -/
def strongChecksUptoRow : OpenClaim := { program := "ytllfccfpoigigaa", sum := "9bd460a89e28b87de00cc90abc9bf8ff5ef2c9f04d647554df2e30eacb42f133", func := "parterre/parterrelaw3.StrongChecks", spec := "strongChecks", unfollowed := true, recurses := true, plainKeys := false, apart := false, narrowed := true }
def StrongChecksUptoSaid : Prop := strongChecksUptoRow.holds Try.pinned (OpenSpec.upto strongChecksSpec)

/-- 'parterrelaw3.StrongFriends', WHERE WHAT IT READS IS OF BULK AT MOST 1048576: true; the input reads as it did. -/
def strongFriendsUptoRow : OpenClaim := { program := "ytllfccfpoigigaa", sum := "9bd460a89e28b87de00cc90abc9bf8ff5ef2c9f04d647554df2e30eacb42f133", func := "parterre/parterrelaw3.StrongFriends", spec := "strongFriends", unfollowed := true, recurses := true, plainKeys := false, apart := false, narrowed := true }
def StrongFriendsUptoSaid : Prop := strongFriendsUptoRow.holds Try.pinned (OpenSpec.upto strongFriendsSpec)

/-- 'parterrelaw3.StrongReal', WHERE WHAT IT READS IS OF BULK AT MOST 1048576: true; the input reads as it did. -/
def strongRealUptoRow : OpenClaim := { program := "ytllfccfpoigigaa", sum := "9bd460a89e28b87de00cc90abc9bf8ff5ef2c9f04d647554df2e30eacb42f133", func := "parterre/parterrelaw3.StrongReal", spec := "strongReal", unfollowed := true, recurses := true, plainKeys := false, apart := false, narrowed := true }
def StrongRealUptoSaid : Prop := strongRealUptoRow.holds Try.pinned (OpenSpec.upto strongRealSpec)

end Rows
end Go.Proofs.Ytllfccfpoigigaa
