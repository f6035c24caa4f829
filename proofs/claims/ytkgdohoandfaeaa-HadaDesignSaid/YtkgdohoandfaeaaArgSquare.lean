/- What is known of a square that comes in as an argument. No conditions. -/
import Derived.Test.YtkgdohoandfaeaaArgInts
import Derived.Lib.SmallJoins
namespace Go.Proofs.Ytkgdohoandfaeaa
open Go.ChangeShapes Go.WideShapes Go.ChangeAt Go.RowKit Go.Joins

theorem open_squareArg {H : Type} {enc : TypeId × Value → H} {W : World} {base : Nat} {v : Value} {d : DataW H} {p : List MemPlace}
    (hv : Value.okWide Try.prog W .any base 24 v) (h : DataW.Trod enc Try.prog W 0 (fun _ => true) true 24 v d p) :
    ∃ (m : Int) (ao : Option Addr) (n cap : Nat) (xs : List Int), v = .agg #[.int .i64 m, .slice ao n cap] ∧ IntsArg W ao n cap xs ∧ -9223372036854775808 ≤ m ∧ m ≤ 9223372036854775807 := by
  obtain ⟨c0, c1, y0, y1, m, rfl, rfl, rfl, h0, h1⟩ := open_agg2 Try.underlying24 (by kernel_rfl) (by kernel_rfl) hv h
  obtain ⟨a, e0, _, wf⟩ := DataW.trod_int Try.underlying3 h0
  obtain ⟨ao, n, cap, xs, rfl, hx⟩ := intsArg_of_trod h1
  simp at e0
  subst e0
  exact ⟨a, ao, n, cap, xs, rfl, hx, rng_of_wf wf⟩

end Go.Proofs.Ytkgdohoandfaeaa
