/- What parterreref2.Designs answers: are two designs the same? Conditions: both can be read. -/
import Derived.Test.YtnfonobdfkpkeaaDoorLists
namespace Go.Proofs.YtnfonobdfkpkeaaDoor
open Go.RowKit

set_option maxHeartbeats 400000 in
theorem designs_any (m m' : Int) (ao bo : Option Addr) (n n' cap cap' : Nat) (xs ys : List (List Int)) (w : World) (hx : xs.length = n) (hy : ys.length = n') (hbig : n ≤ maxLen) (hbig' : n' ≤ maxLen) (ra : ReadsL w ao xs) (rb : ReadsL w bo ys) :
    Calls Tryd.prog 7 #[.agg #[.int .i64 m, .slice ao n cap], .agg #[.int .i64 m', .slice bo n' cap']] w fun e w' => e = .returned (.bool (decide (m = m' ∧ xs = ys))) ∧ Ext w w' := by
  have E0 : Hid (Ext w ((w.alloc (.cells #[.int .i64 m, .slice ao n cap] 29)).alloc (.cells #[.int .i64 m', .slice bo n' cap'] 29))) := ((Ext.refl w).alloc _).alloc _
  have HI := Lib.hid (lists_any ao bo n n' cap cap' xs ys _ hx hy hbig hbig' (ra.ext E0.out) (rb.ext E0.out))
  have X0 : Hid (Blk ((w.alloc (.cells #[.int .i64 m, .slice ao n cap] 29)).alloc (.cells #[.int .i64 m', .slice bo n' cap'] 29)) w.heap.size #[.int .i64 m, .slice ao n cap] 29) := (Blk.new w _ _).alloc _
  have Y0 : Hid (Blk ((w.alloc (.cells #[.int .i64 m, .slice ao n cap] 29)).alloc (.cells #[.int .i64 m', .slice bo n' cap'] 29)) (w.heap.size + 1) #[.int .i64 m', .slice bo n' cap'] 29) := Blk.new' _ _ _ (by simp)
  have HXY : Hid (decide (m = m' ∧ xs = ys) = (decide (m = m') && decide (xs = ys))) := by show _ = _; simp
  obtain ⟨v, hv⟩ : ∃ v, decide (xs = ys) = v := ⟨_, rfl⟩
  rw [hv] at HI HXY
  obtain ⟨u, hu⟩ : ∃ u, decide (m = m') = u := ⟨_, rfl⟩
  have b1 : (m == m') = u := by rw [← hu]; rfl
  rw [hu] at HXY
  clear hx hy ra rb hv hu hbig hbig'
  cases u <;> cases v
  all_goals
    go_enter Tryd.func7, Tryd.ntmps7
    go_wp2_with (go_at_call 17; refine Calls.mono HI.out ?_; rintro e w1 ⟨rfl, hd⟩; have k0 := (X0.out.drawn hd).two; have k1 := (Y0.out.drawn hd).two; have HD := Lib.hid hd; clear hd)
    go_ret
    exact ⟨by rw [HXY.out]; rfl, E0.out.trans HD.out.ext⟩

end Go.Proofs.YtnfonobdfkpkeaaDoor
