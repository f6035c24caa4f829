/- The walk of ArrayBounds. No conditions. -/
import Derived.Test.YtfggmgfobcgadaaRaoLaw
namespace Go.Proofs.Ytfggmgfobcgadaa
open Go.RowKit

set_option maxHeartbeats 400000 in
theorem rao_bad (k s t : Int) (w : World) (h : k < 1 ∨ 30 < k ∨ s < 2 ∨ 64 < s ∨ t < 0 ∨ k < t) :
    Calls Try.prog 9 #[.int .i64 k, .int .i64 s, .int .i64 t] w fun e w' => e = .returned (.tuple #[.int .i64 0, .int .i64 1]) ∧ w = w' := by
  by_cases h0 : k < 1
  · clear h
    go_enter Try.func9, Try.ntmps9
    go_wp2
    go_ret2
    exact ⟨rfl, rfl⟩
  by_cases h1 : 30 < k
  · clear h
    go_enter Try.func9, Try.ntmps9
    go_wp2
    go_ret2
    exact ⟨rfl, rfl⟩
  by_cases h2 : s < 2
  · clear h
    go_enter Try.func9, Try.ntmps9
    go_wp2
    go_ret2
    exact ⟨rfl, rfl⟩
  by_cases h3 : 64 < s
  · clear h
    go_enter Try.func9, Try.ntmps9
    go_wp2
    go_ret2
    exact ⟨rfl, rfl⟩
  by_cases h4 : t < 0
  · clear h
    go_enter Try.func9, Try.ntmps9
    go_wp2
    go_ret2
    exact ⟨rfl, rfl⟩
  have h9 : k < t := by omega
  clear h
  go_enter Try.func9, Try.ntmps9
  go_wp2
  go_ret2
  exact ⟨rfl, rfl⟩

set_option maxHeartbeats 400000 in
theorem bounds_bad (k s t : Int) (w : World) (h : k < 1 ∨ 30 < k ∨ s < 2 ∨ 64 < s ∨ t < 0 ∨ k < t) :
    Calls Try.prog 3 #[.int .i64 k, .int .i64 s, .int .i64 t] w fun e w' => e = .returned (.bool true) ∧ w = w' := by
  have HB := Lib.hid h
  by_cases h0 : k < 1
  · clear h
    go_enter Try.func3, Try.ntmps3
    go_wp2_with (go_at_call 9; refine (rao_bad _ _ _ _ HB.out).mono ?_; rintro e w' ⟨rfl, rfl⟩)
    go_ret
    exact ⟨rfl, rfl⟩
  by_cases h1 : 30 < k
  · clear h
    go_enter Try.func3, Try.ntmps3
    go_wp2_with (go_at_call 9; refine (rao_bad _ _ _ _ HB.out).mono ?_; rintro e w' ⟨rfl, rfl⟩)
    go_ret
    exact ⟨rfl, rfl⟩
  by_cases h2 : s < 2
  · clear h
    go_enter Try.func3, Try.ntmps3
    go_wp2_with (go_at_call 9; refine (rao_bad _ _ _ _ HB.out).mono ?_; rintro e w' ⟨rfl, rfl⟩)
    go_ret
    exact ⟨rfl, rfl⟩
  by_cases h3 : 64 < s
  · clear h
    go_enter Try.func3, Try.ntmps3
    go_wp2_with (go_at_call 9; refine (rao_bad _ _ _ _ HB.out).mono ?_; rintro e w' ⟨rfl, rfl⟩)
    go_ret
    exact ⟨rfl, rfl⟩
  by_cases h4 : t < 0
  · clear h
    go_enter Try.func3, Try.ntmps3
    go_wp2_with (go_at_call 9; refine (rao_bad _ _ _ _ HB.out).mono ?_; rintro e w' ⟨rfl, rfl⟩)
    go_ret
    exact ⟨rfl, rfl⟩
  have h9 : k < t := by omega
  clear h
  go_enter Try.func3, Try.ntmps3
  go_wp2_with (go_at_call 9; refine (rao_bad _ _ _ _ HB.out).mono ?_; rintro e w' ⟨rfl, rfl⟩)
  go_ret
  exact ⟨rfl, rfl⟩

set_option maxHeartbeats 400000 in
theorem bounds_good (k t : Nat) (s : Int) (w : World) (hk : 1 ≤ k) (hk' : k ≤ 30) (hs : 2 ≤ s) (hs' : s ≤ 64) (ht : t ≤ k) :
    Calls Try.prog 3 #[.int .i64 k, .int .i64 s, .int .i64 t] w fun e w' => e = .returned (.bool true) ∧ Below w.heap.size w w' := by
  have hl := rao_law k t (s - 1) hk hk' (by omega) ht
  have hc1 := rao_good k t s w hk hk' hs hs' ht
  have hc2 := fun w' => raoOf_good k t s w' hk hk' hs hs' ht
  generalize raoAll k (s - 1) t = x at hl hc1
  generalize raoOfAll k (s - 1) t = y at hl hc2
  have H1 := Lib.hid hc1
  have H2 := Lib.hid hc2
  clear hc1 hc2
  rcases hl with ⟨h1, h2⟩ | ⟨rfl, h2, h3⟩
  · have hv : raoVal x = .tuple #[.int .i64 0, .int .i64 3] := if_pos h1
    rw [hv] at H1
    clear hv
    go_enter Try.func3, Try.ntmps3
    go_wp2_with (first
      | (go_at_call 9; refine H1.out.mono ?_; rintro e w' ⟨rfl, rfl⟩)
      | (go_at_call 10; refine (H2.out _).mono ?_; rintro e w' ⟨rfl, hb2⟩))
    go_ret
    exact ⟨rfl, hb2⟩
  · have hv : raoVal x = .tuple #[.int .i64 x, .int .i64 0] := if_neg (by omega)
    rw [hv] at H1
    clear hv
    go_enter Try.func3, Try.ntmps3
    go_wp2_with (first
      | (go_at_call 9; refine H1.out.mono ?_; rintro e w' ⟨rfl, rfl⟩)
      | (go_at_call 10; refine (H2.out _).mono ?_; rintro e w' ⟨rfl, hb2⟩))
    go_ret
    exact ⟨rfl, hb2⟩

theorem arrayBounds_any (a0 : Int) (_h0 : -9223372036854775808 ≤ a0 ∧ a0 ≤ 9223372036854775807) (a1 : Int) (_h1 : -9223372036854775808 ≤ a1 ∧ a1 ≤ 9223372036854775807) (a2 : Int) (_h2 : -9223372036854775808 ≤ a2 ∧ a2 ≤ 9223372036854775807) {w : World} :
    Calls Try.prog 3 #[.int .i64 a0, .int .i64 a1, .int .i64 a2] w fun e w' => e = .returned (.bool true) ∧ Below w.heap.size w w' := by
  by_cases h : a0 < 1 ∨ 30 < a0 ∨ a1 < 2 ∨ 64 < a1 ∨ a2 < 0 ∨ a0 < a2
  · exact (bounds_bad a0 a1 a2 w h).mono fun e w' ⟨he, hw⟩ => ⟨he, hw ▸ Below.refl _ _⟩
  · have := bounds_good a0.toNat a2.toNat a1 w (by omega) (by omega) (by omega) (by omega) (by omega)
    rw [show ((a0.toNat : Nat) : Int) = a0 by omega, show ((a2.toNat : Nat) : Int) = a2 by omega] at this
    exact this

end Go.Proofs.Ytfggmgfobcgadaa
