/- What is known of a field that comes in as an argument. No conditions. -/
import Derived.Test.YtnfonobdfkpkeaaDoorArgInts
import Derived.Lib.SmallJoins
namespace Go.Proofs.YtnfonobdfkpkeaaDoor
set_option maxRecDepth 100000
open Go.ChangeShapes Go.WideShapes Go.ChangeAt Go.RowKit Go.Joins

theorem open_fieldArg {H : Type} {enc : TypeId × Value → H} {W : World} {base : Nat} {v : Value} {d : DataW H} {p : List MemPlace}
    (hv : Value.okWide Tryd.prog W .any base 24 v) (h : DataW.Trod enc Tryd.prog W 0 (fun _ => true) true 24 v d p) :
    ∃ (m k : Int) (ao : Option Addr) (n cap : Nat) (xs : List Int), v = .agg #[.int .i64 m, .int .i64 k, .slice ao n cap] ∧ IntsArg W ao n cap xs := by
  obtain ⟨c0, c1, c2, y0, y1, y2, m, rfl, rfl, rfl, h0, h1, h2⟩ := open_agg3 Tryd.underlying24 (by kernel_rfl) (by kernel_rfl) hv h
  obtain ⟨a, e0, _, _⟩ := DataW.trod_int Tryd.underlying3 h0
  obtain ⟨b, e1, _, _⟩ := DataW.trod_int Tryd.underlying3 h1
  obtain ⟨ao, n, cap, xs, rfl, hx⟩ := intsArg_of_trod h2
  simp at e0 e1
  subst e0 e1
  exact ⟨a, b, ao, n, cap, xs, rfl, hx⟩

end Go.Proofs.YtnfonobdfkpkeaaDoor
