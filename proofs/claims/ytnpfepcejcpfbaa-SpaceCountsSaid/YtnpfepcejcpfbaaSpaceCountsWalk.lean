/- The walk of SpaceCounts. -/
import Derived.Test.YtnpfepcejcpfbaaGaussLaw
namespace Go.Proofs.Ytnpfepcejcpfbaa
open Go.RowKit

set_option maxHeartbeats 400000 in
theorem gauss_bad (n k q : Int) (w : World) (h : n < 0 ∨ 30 < n ∨ k < 0 ∨ n < k ∨ q < 2 ∨ 64 < q) :
    Calls Try.prog 4 #[.int .i64 n, .int .i64 k, .int .i64 q] w fun e w' => e = .returned (.tuple #[.int .i64 0, .int .i64 1]) ∧ w = w' := by
  by_cases h1 : n < 0
  · go_enter Try.func4, Try.ntmps4
    go_wp2
    go_ret2
    exact ⟨rfl, rfl⟩
  by_cases h2 : 30 < n
  · go_enter Try.func4, Try.ntmps4
    go_wp2
    go_ret2
    exact ⟨rfl, rfl⟩
  by_cases h3 : k < 0
  · go_enter Try.func4, Try.ntmps4
    go_wp2
    go_ret2
    exact ⟨rfl, rfl⟩
  by_cases h4 : n < k
  · go_enter Try.func4, Try.ntmps4
    go_wp2
    go_ret2
    exact ⟨rfl, rfl⟩
  by_cases h5 : q < 2
  · go_enter Try.func4, Try.ntmps4
    go_wp2
    go_ret2
    exact ⟨rfl, rfl⟩
  · have h6 : 64 < q := by omega
    go_enter Try.func4, Try.ntmps4
    go_wp2
    go_ret2
    exact ⟨rfl, rfl⟩

set_option maxHeartbeats 400000 in
theorem counts_bad (n k q : Int) (w : World) (h : n < 0 ∨ 30 < n ∨ k < 0 ∨ n < k ∨ q < 2 ∨ 64 < q) :
    Calls Try.prog 3 #[.int .i64 n, .int .i64 k, .int .i64 q] w fun e w' => e = .returned (.bool true) ∧ w = w' := by
  have hb := Lib.hid h
  by_cases h1 : n < 0
  · go_enter Try.func3, Try.ntmps3
    go_wp2_with (go_at_call 4; refine (gauss_bad _ _ _ _ hb.out).mono ?_; rintro e w' ⟨rfl, rfl⟩)
    go_ret
    exact ⟨rfl, rfl⟩
  by_cases h2 : 30 < n
  · go_enter Try.func3, Try.ntmps3
    go_wp2_with (go_at_call 4; refine (gauss_bad _ _ _ _ hb.out).mono ?_; rintro e w' ⟨rfl, rfl⟩)
    go_ret
    exact ⟨rfl, rfl⟩
  by_cases h3 : k < 0
  · go_enter Try.func3, Try.ntmps3
    go_wp2_with (go_at_call 4; refine (gauss_bad _ _ _ _ hb.out).mono ?_; rintro e w' ⟨rfl, rfl⟩)
    go_ret
    exact ⟨rfl, rfl⟩
  by_cases h4 : n < k
  · go_enter Try.func3, Try.ntmps3
    go_wp2_with (go_at_call 4; refine (gauss_bad _ _ _ _ hb.out).mono ?_; rintro e w' ⟨rfl, rfl⟩)
    go_ret
    exact ⟨rfl, rfl⟩
  by_cases h5 : q < 2
  · go_enter Try.func3, Try.ntmps3
    go_wp2_with (go_at_call 4; refine (gauss_bad _ _ _ _ hb.out).mono ?_; rintro e w' ⟨rfl, rfl⟩)
    go_ret
    exact ⟨rfl, rfl⟩
  · have h6 : 64 < q := by omega
    go_enter Try.func3, Try.ntmps3
    go_wp2_with (go_at_call 4; refine (gauss_bad _ _ _ _ hb.out).mono ?_; rintro e w' ⟨rfl, rfl⟩)
    go_ret
    exact ⟨rfl, rfl⟩

set_option maxHeartbeats 400000 in
theorem counts_good (n k : Nat) (q : Int) (w : World) (hn : n ≤ 30) (hk : k ≤ n) (hq : 2 ≤ q) (hq' : q ≤ 64) :
    Calls Try.prog 3 #[.int .i64 n, .int .i64 k, .int .i64 q] w fun e w' => e = .returned (.bool true) ∧ Below w.heap.size w w' := by
  have hl := gauss_law n k q hn hk hq hq'
  have hc1 := gauss_any n k q w hn hk hq hq' (gaP_ne q hq hq')
  have hc2 := fun w' => gaussOf_any n k q w' hn hk hq hq'
  generalize nth (gaRow q n) k = x at hl hc1
  generalize nth (gRow q n) k = y at hl hc2
  have H1 := Lib.hid hc1
  have H2 := Lib.hid hc2
  clear hc1 hc2
  rcases hl with ⟨h1, h2⟩ | ⟨rfl, h2, h3⟩
  · have hv : gaussVal x = .tuple #[.int .i64 0, .int .i64 3] := if_pos h1
    rw [hv] at H1
    clear hv
    go_enter Try.func3, Try.ntmps3
    go_wp2_with (first
      | (go_at_call 4; refine H1.out.mono ?_; rintro e w' ⟨rfl, hb1⟩)
      | (go_at_call 5; refine (H2.out _).mono ?_; rintro e w' ⟨rfl, hb2⟩))
    go_ret
    exact ⟨rfl, hb1.trans (hb2.mono hb1.size)⟩
  · have hv : gaussVal x = .tuple #[.int .i64 x, .int .i64 0] := if_neg (by omega)
    rw [hv] at H1
    clear hv
    go_enter Try.func3, Try.ntmps3
    go_wp2_with (first
      | (go_at_call 4; refine H1.out.mono ?_; rintro e w' ⟨rfl, hb1⟩)
      | (go_at_call 5; refine (H2.out _).mono ?_; rintro e w' ⟨rfl, hb2⟩))
    go_ret
    exact ⟨rfl, hb1.trans (hb2.mono hb1.size)⟩

end Go.Proofs.Ytnpfepcejcpfbaa
