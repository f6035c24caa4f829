/- hadaFact is true. -/
import Derived.Test.YtkgdohoandfaeaaSylvester
namespace Go.Proofs.Ytkgdohoandfaeaa
open Go.RowKit

theorem syl_two : tab (flat 2 sylCell) 4 = [1, 1, 1, -1] := by decide +kernel
theorem mat_two : IsMat 2 [1, 1, 1, -1] := ⟨by decide, by decide, by decide, by decide⟩
theorem orth_two : Orth 2 [1, 1, 1, -1] := by
  intro i k hi hk
  match i, k, hi, hk with
  | 1, 0, _, _ => decide
theorem sum_two : sumTo [1, 1, 1, -1] 4 = 2 := by decide

set_option maxHeartbeats 400000 in
theorem hadaFact_any (w : World) : Calls Try.prog 14 #[] w fun e w' => e = .returned (.bool true) ∧ Below w.heap.size w w' := by
  have hs := sylvester_ok 1 w (by omega)
  rw [show 2 ^ 1 * 2 ^ 1 = 4 from rfl, show 2 ^ 1 = 2 from rfl, syl_two] at hs
  have HS := Lib.hid hs
  clear hs
  go_enter Try.func14, Try.ntmps14
  go_wp2_with (first
    | (go_at_call 19; refine HS.out.mono ?_; rintro e w1 ⟨ao, cap, rfl, hrow, hb⟩; have HB1 := Lib.hid hb; have HRW := Lib.hid hrow.reads; clear hb hrow)
    | (go_at_call 8; refine (excess_ok 2 _ 4 _ [1, 1, 1, -1] _ rfl (HRW.out.below ((Below.refl w1.heap.size w1).alloc (Nat.le_refl _) _) (Nat.le_refl _)) mat_two orth_two).mono ?_; rintro e w2 ⟨rfl, hb2⟩; have HB2 := Lib.hid hb2; clear hb2; have hs2 := sum_two))
  go_ret
  exact ⟨by simp, (HB1.out.trans ((Below.refl w1.heap.size w1).alloc (Nat.le_refl _) _ |>.mono HB1.out.size)).trans (HB2.out.mono (by have := HB1.out.size; simp; omega))⟩

end Go.Proofs.Ytkgdohoandfaeaa
