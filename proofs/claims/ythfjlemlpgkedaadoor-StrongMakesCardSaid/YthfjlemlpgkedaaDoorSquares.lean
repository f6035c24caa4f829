/- What parterreref2.Squares answers: are two squares the same? Conditions: both can be read. -/
import Derived.Test.YthfjlemlpgkedaaDoorIntsEq
import Derived.Test.YthfjlemlpgkedaaDoorFilling
namespace Go.Proofs.YthfjlemlpgkedaaDoor
open Go.RowKit

/-- Two boxed squares. -/
def boxed2 (w : World) (m : Int) (ao : Option Addr) (n cap : Nat) (m' : Int) (bo : Option Addr) (n' cap' : Nat) : World :=
  (w.alloc (.cells #[.int .i64 m, .slice ao n cap] 26)).alloc (.cells #[.int .i64 m', .slice bo n' cap'] 26)

set_option maxHeartbeats 400000 in
theorem squares_any (m m' : Int) (ao bo : Option Addr) (n n' cap cap' : Nat) (xs ys : List Int) (w : World) (hx : xs.length = n) (hy : ys.length = n') (hbig : n ≤ maxLen) (hbig' : n' ≤ maxLen) (ra : Reads w ao (ints xs)) (rb : Reads w bo (ints ys)) :
    Calls Tryd.prog 6 #[.agg #[.int .i64 m, .slice ao n cap], .agg #[.int .i64 m', .slice bo n' cap']] w fun e w' => e = .returned (.bool (decide (m = m' ∧ xs = ys))) ∧ Below w.heap.size w w' := by
  have hb : Below w.heap.size w (boxed2 w m ao n cap m' bo n' cap') := ((Below.refl _ _).alloc (Nat.le_refl _) _).alloc (by simp) _
  have HB := Lib.hid hb
  have HI := Lib.hid (ints_any ao bo n n' cap cap' xs ys (boxed2 w m ao n cap m' bo n' cap') hx hy hbig hbig' (ra.below hb (Nat.le_refl _)) (rb.below hb (Nat.le_refl _)))
  have HX : Hid (BoxAt (boxed2 w m ao n cap m' bo n' cap') w.heap.size (.int .i64 m) (.slice ao n cap)) := (BoxAt.new w _ _ _).alloc _
  have HY : Hid (BoxAt (boxed2 w m ao n cap m' bo n' cap') (w.heap.size + 1) (.int .i64 m') (.slice bo n' cap')) := by
    have h := BoxAt.new (w.alloc (.cells #[.int .i64 m, .slice ao n cap] 26)) (.int .i64 m') (.slice bo n' cap') 26
    rwa [show (w.alloc (.cells #[.int .i64 m, .slice ao n cap] 26)).heap.size = w.heap.size + 1 by simp] at h
  have HXY : Hid (decide (m = m' ∧ xs = ys) = (decide (m = m') && decide (xs = ys))) := by show _ = _; simp
  obtain ⟨v, hv⟩ : ∃ v, decide (xs = ys) = v := ⟨_, rfl⟩
  rw [hv] at HI HXY
  clear hb hx hy ra rb hv hbig hbig'
  by_cases h : m = m'
  · have b1 : (m == m') = true := by rw [beq_iff_eq]; exact h
    have HXY2 : Hid (decide (m = m' ∧ xs = ys) = v) := by show _ = _; rw [HXY.out, decide_eq_true h]; rfl
    clear h
    cases v
    all_goals
      go_enter Tryd.func6, Tryd.ntmps6
      go_wp2_with (go_at_call 22; refine Calls.mono HI.out ?_; rintro e w1 ⟨rfl, hd⟩; have k0 := (HX.out.drawn hd).c0; have k1 := (HY.out.drawn hd).c0; have HD := Lib.hid hd; clear hd)
      go_ret
      exact ⟨by rw [HXY2.out]; rfl, HB.out.trans (HD.out.below _)⟩
  · have b1 : (m == m') = false := by rw [beq_eq_false_iff_ne]; exact h
    have HXY2 : Hid (decide (m = m' ∧ xs = ys) = false) := by show _ = _; rw [HXY.out, decide_eq_false h]; rfl
    clear h
    go_enter Tryd.func6, Tryd.ntmps6
    go_wp2_with (go_at_call 22; refine Calls.mono HI.out ?_; rintro e w1 ⟨rfl, hd⟩; have k0 := (HX.out.drawn hd).c0; have k1 := (HY.out.drawn hd).c0; have HD := Lib.hid hd; clear hd)
    go_ret
    exact ⟨by rw [HXY2.out]; rfl, HB.out.trans (HD.out.below _)⟩

end Go.Proofs.YthfjlemlpgkedaaDoor
