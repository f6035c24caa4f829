/- HadaFour is true at any square. -/
import Derived.Test.YtkdbdlkkjkiijaaHadaFourWalk
import Derived.Test.YtkdbdlkkjkiijaaHadaLaw
import Derived.Test.YtkdbdlkkjkiijaaArgSquare
namespace Go.Proofs.Ytkdbdlkkjkiijaa
open Go.RowKit

theorem hadaFour_any (m : Int) (ao : Option Addr) (n cap : Nat) (xs : List Int) {w : World} (hx : IntsArg w ao n cap xs) (_ : -9223372036854775808 ≤ m) (_ : m ≤ 9223372036854775807) :
    Calls Try.prog 4 #[.agg #[.int .i64 m, .slice ao n cap]] w fun e w' => e = .returned (.bool true) ∧ Below w.heap.size w w' := by
  by_cases h : signsFaultOf m xs = 0
  · obtain ⟨k, rfl, hm, ho⟩ := signsFaultOf_zero h
    have hn : n = k * k := by rw [← hx.len]; exact hm.len
    exact hadaFour_ok k ao n cap xs w hx.len hx.reads hm ho (side_law hm ho) (by rw [hn]; exact best_law hm ho)
  · exact hadaFour_bad m ao n cap xs w hx.len hx.reads h

end Go.Proofs.Ytkdbdlkkjkiijaa
