/- What strong.Triangle answers out of its bounds. No conditions. -/
import Derived.Test.YthfjlemlpgkedaaDoorTriangle
namespace Go.Proofs.YthfjlemlpgkedaaDoor
open Go.RowKit

set_option maxHeartbeats 1000000 in
theorem triangle_no (n : Int) (w : World) (h : n < 2 ∨ 7 < n) :
    Calls Tryd.prog 7 #[.int .i64 n] w fun e w' => e = .returned (.tuple #[.agg #[.int .i64 0, .slice none 0 0], .int .i64 1]) ∧ Ext w w' := by
  have HX : Hid (Ext w (w.alloc (.cells #[.int .i64 0, .slice none 0 0] 26))) := (Ext.refl w).alloc _
  by_cases h2 : n < 2
  · have b1 : decide (n < 2) = true := decide_eq_true h2
    clear h
    go_enter Tryd.func7, Tryd.ntmps7
    go_wp2
    exact bodyPost_ret (v := .tuple #[.agg #[.int .i64 0, .slice none 0 0], .int .i64 1]) (by simp [results, Tryd.results7, go_sem]) rfl ⟨rfl, HX.out⟩
  · have b1 : decide (n < 2) = false := decide_eq_false h2
    have b2 : decide (7 < n) = true := decide_eq_true (by omega)
    clear h
    go_enter Tryd.func7, Tryd.ntmps7
    go_wp2
    exact bodyPost_ret (v := .tuple #[.agg #[.int .i64 0, .slice none 0 0], .int .i64 1]) (by simp [results, Tryd.results7, go_sem]) rfl ⟨rfl, HX.out⟩

end Go.Proofs.YthfjlemlpgkedaaDoor
