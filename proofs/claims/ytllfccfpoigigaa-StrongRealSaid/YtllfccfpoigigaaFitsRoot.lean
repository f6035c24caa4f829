/- What strong.Fits and parterreref3.FitsOf answer where a root is looked for. Each theorem names its conditions. -/
import Derived.Test.YtllfccfpoigigaaFits
namespace Go.Proofs.Ytllfccfpoigigaa
open Go.RowKit

set_option maxHeartbeats 1000000 in
theorem fits_noroot (v k l m x d : Int) (w : World) (hn : FitNums v k l m) (h : k * (k - l - 1) = (v - k - 1) * m) (hx : 2 * k + (v - 1) * (l - m) = x) (hz : ¬ (x = 0 ∧ v % 2 = 1)) (hd : (l - m) * (l - m) + 4 * (k - m) = d) (hr : ∀ s : Int, 1 ≤ s → s * s ≠ d) :
    Calls Try.prog 8 #[strongV v k l m] w fun e w' => e = .returned (.tuple #[.bool false, .int .i64 0]) ∧ Below w.heap.size w w' := by
  obtain ⟨v1, v2, k1, k2, l1, l2, m1, m2⟩ := hn
  have A1 := mul_bound k (k - l - 1) 1000 2000 (by omega) (by omega) (by omega) (by omega)
  have A2 := mul_bound (v - k - 1) m 1000 1000 (by omega) (by omega) (by omega) (by omega)
  have A3 := mul_bound (v - 1) (l - m) 1000 1000 (by omega) (by omega) (by omega) (by omega)
  have A4 := mul_bound (l - m) (l - m) 1000 1000 (by omega) (by omega) (by omega) (by omega)
  obtain ⟨A11, A12⟩ := A1
  obtain ⟨A21, A22⟩ := A2
  obtain ⟨A31, A32⟩ := A3
  obtain ⟨A41, A42⟩ := A4
  have hb : (k * (k - l - 1) != (v - k - 1) * m) = false := by rw [h]; simp
  clear h
  have x1 : -3000 * 1000 ≤ x := by omega
  have x2 : x ≤ 3000 * 1000 := by omega
  have d1 : -3000 * 1000 ≤ d := by omega
  have d2 : d ≤ 3000 * 1000 := by omega
  have HR := Lib.hid hr
  clear hr
  rcases (show (x = 0 ∧ v % 2 = 0) ∨ (x < 0 ∨ 0 < x) by omega) with ⟨h0, hv⟩ | h0
  · have z1 : (x == 0) = true := by rw [h0]; simp
    have z2 : (v % 2 == 1) = false := by rw [beq_eq_false_iff_ne]; omega
    clear h0 hv hz
    go_enter Try.func8, Try.ntmps8
    go_wp2_with fail
    go_quiet (fail)
    go_wp2_with (go_at_call 20; refine (root_no _ _ (by omega) HR.out).mono ?_; rintro e w' ⟨rfl, rfl⟩)
    go_ret2
    exact ⟨rfl, ((Below.refl _ _).alloc (Nat.le_refl _) _).trans (World.drewN_below _ _ _)⟩
  · have z1 : (x == 0) = false := by rw [beq_eq_false_iff_ne]; omega
    clear h0 hz
    go_enter Try.func8, Try.ntmps8
    go_wp2_with fail
    go_quiet (fail)
    go_wp2_with (go_at_call 20; refine (root_no _ _ (by omega) HR.out).mono ?_; rintro e w' ⟨rfl, rfl⟩)
    go_ret2
    exact ⟨rfl, ((Below.refl _ _).alloc (Nat.le_refl _) _).trans (World.drewN_below _ _ _)⟩

set_option maxHeartbeats 1000000 in
theorem fits_ndiv (v k l m x d r : Int) (w : World) (hn : FitNums v k l m) (h : k * (k - l - 1) = (v - k - 1) * m) (hx : 2 * k + (v - 1) * (l - m) = x) (hz : ¬ (x = 0 ∧ v % 2 = 1)) (hd : (l - m) * (l - m) + 4 * (k - m) = d) (r1 : 1 ≤ r) (hr : r * r = d) (hm : x.tmod r ≠ 0) :
    Calls Try.prog 8 #[strongV v k l m] w fun e w' => e = .returned (.tuple #[.bool false, .int .i64 0]) ∧ Below w.heap.size w w' := by
  obtain ⟨v1, v2, k1, k2, l1, l2, m1, m2⟩ := hn
  have A1 := mul_bound k (k - l - 1) 1000 2000 (by omega) (by omega) (by omega) (by omega)
  have A2 := mul_bound (v - k - 1) m 1000 1000 (by omega) (by omega) (by omega) (by omega)
  have A3 := mul_bound (v - 1) (l - m) 1000 1000 (by omega) (by omega) (by omega) (by omega)
  have A4 := mul_bound (l - m) (l - m) 1000 1000 (by omega) (by omega) (by omega) (by omega)
  obtain ⟨A11, A12⟩ := A1
  obtain ⟨A21, A22⟩ := A2
  obtain ⟨A31, A32⟩ := A3
  obtain ⟨A41, A42⟩ := A4
  have hb : (k * (k - l - 1) != (v - k - 1) * m) = false := by rw [h]; simp
  clear h
  have x1 : -3000 * 1000 ≤ x := by omega
  have x2 : x ≤ 3000 * 1000 := by omega
  have d1 : -3000 * 1000 ≤ d := by omega
  have d2 : d ≤ 3000 * 1000 := by omega
  have r2 : r ≤ 3000 := by
    by_cases hh : r ≤ 3000
    · exact hh
    · have := sq_le 3001 r (by omega) (by omega); omega
  have HR := Lib.hid hr
  clear hr
  have hm2 : (x.tmod r != 0) = true := by rw [bne_iff_ne]; exact hm
  clear hm
  have r0 : (r == 0) = false := by rw [beq_eq_false_iff_ne]; omega
  rcases (show (x = 0 ∧ v % 2 = 0) ∨ (x < 0 ∨ 0 < x) by omega) with ⟨h0, hv⟩ | h0
  · have z1 : (x == 0) = true := by rw [h0]; simp
    have z2 : (v % 2 == 1) = false := by rw [beq_eq_false_iff_ne]; omega
    clear h0 hv hz
    go_enter Try.func8, Try.ntmps8
    go_wp2_with fail
    go_quiet (fail)
    go_wp2_with (go_at_call 20; refine (root_yes _ r _ (by omega) (by omega) HR.out).mono ?_; rintro e w' ⟨rfl, rfl⟩)
    go_ret2
    exact ⟨rfl, ((Below.refl _ _).alloc (Nat.le_refl _) _).trans (World.drewN_below _ _ _)⟩
  · have z1 : (x == 0) = false := by rw [beq_eq_false_iff_ne]; omega
    clear h0 hz
    go_enter Try.func8, Try.ntmps8
    go_wp2_with fail
    go_quiet (fail)
    go_wp2_with (go_at_call 20; refine (root_yes _ r _ (by omega) (by omega) HR.out).mono ?_; rintro e w' ⟨rfl, rfl⟩)
    go_ret2
    exact ⟨rfl, ((Below.refl _ _).alloc (Nat.le_refl _) _).trans (World.drewN_below _ _ _)⟩

set_option maxHeartbeats 1000000 in
theorem fits_par (v k l m x d r n s : Int) (w : World) (hn : FitNums v k l m) (h : k * (k - l - 1) = (v - k - 1) * m) (hx : 2 * k + (v - 1) * (l - m) = x) (hz : ¬ (x = 0 ∧ v % 2 = 1)) (hd : (l - m) * (l - m) + 4 * (k - m) = d) (r1 : 1 ≤ r) (hr : r * r = d) (hm : x.tmod r = 0) (hq : x.tdiv r = n) (s0 : 0 ≤ s) (s1 : s ≤ 3000 * 1000) (hs : n = s ∨ (n = -s ∧ 0 < s)) (hp : s % 2 ≠ (v - 1) % 2) :
    Calls Try.prog 8 #[strongV v k l m] w fun e w' => e = .returned (.tuple #[.bool false, .int .i64 0]) ∧ Below w.heap.size w w' := by
  obtain ⟨v1, v2, k1, k2, l1, l2, m1, m2⟩ := hn
  have A1 := mul_bound k (k - l - 1) 1000 2000 (by omega) (by omega) (by omega) (by omega)
  have A2 := mul_bound (v - k - 1) m 1000 1000 (by omega) (by omega) (by omega) (by omega)
  have A3 := mul_bound (v - 1) (l - m) 1000 1000 (by omega) (by omega) (by omega) (by omega)
  have A4 := mul_bound (l - m) (l - m) 1000 1000 (by omega) (by omega) (by omega) (by omega)
  obtain ⟨A11, A12⟩ := A1
  obtain ⟨A21, A22⟩ := A2
  obtain ⟨A31, A32⟩ := A3
  obtain ⟨A41, A42⟩ := A4
  have hb : (k * (k - l - 1) != (v - k - 1) * m) = false := by rw [h]; simp
  clear h
  have x1 : -3000 * 1000 ≤ x := by omega
  have x2 : x ≤ 3000 * 1000 := by omega
  have d1 : -3000 * 1000 ≤ d := by omega
  have d2 : d ≤ 3000 * 1000 := by omega
  have r2 : r ≤ 3000 := by
    by_cases hh : r ≤ 3000
    · exact hh
    · have := sq_le 3001 r (by omega) (by omega); omega
  have HR := Lib.hid hr
  clear hr
  have hm2 : (x.tmod r != 0) = false := by rw [hm]; simp
  clear hm
  have r0 : (r == 0) = false := by rw [beq_eq_false_iff_ne]; omega
  have hp2 : (s % 2 == (v - 1) % 2) = false := by rw [beq_eq_false_iff_ne]; exact hp
  clear hp
  rcases hs with rfl | ⟨rfl, s2⟩
  all_goals
    rcases (show (x = 0 ∧ v % 2 = 0) ∨ (x < 0 ∨ 0 < x) by omega) with ⟨h0, hv⟩ | h0
    · have z1 : (x == 0) = true := by rw [h0]; simp
      have z2 : (v % 2 == 1) = false := by rw [beq_eq_false_iff_ne]; omega
      clear h0 hv hz
      go_enter Try.func8, Try.ntmps8
      go_wp2_with fail
      go_quiet (fail)
      go_wp2_with (go_at_call 20; refine (root_yes _ r _ (by omega) (by omega) HR.out).mono ?_; rintro e w' ⟨rfl, rfl⟩)
      go_ret2
      exact ⟨rfl, ((Below.refl _ _).alloc (Nat.le_refl _) _).trans (World.drewN_below _ _ _)⟩
    · have z1 : (x == 0) = false := by rw [beq_eq_false_iff_ne]; omega
      clear h0 hz
      go_enter Try.func8, Try.ntmps8
      go_wp2_with fail
      go_quiet (fail)
      go_wp2_with (go_at_call 20; refine (root_yes _ r _ (by omega) (by omega) HR.out).mono ?_; rintro e w' ⟨rfl, rfl⟩)
      go_ret2
      exact ⟨rfl, ((Below.refl _ _).alloc (Nat.le_refl _) _).trans (World.drewN_below _ _ _)⟩

set_option maxHeartbeats 1000000 in
theorem fits_le (v k l m x d r n s : Int) (w : World) (hn : FitNums v k l m) (h : k * (k - l - 1) = (v - k - 1) * m) (hx : 2 * k + (v - 1) * (l - m) = x) (hz : ¬ (x = 0 ∧ v % 2 = 1)) (hd : (l - m) * (l - m) + 4 * (k - m) = d) (r1 : 1 ≤ r) (hr : r * r = d) (hm : x.tmod r = 0) (hq : x.tdiv r = n) (s0 : 0 ≤ s) (s1 : s ≤ 3000 * 1000) (hs : n = s ∨ (n = -s ∧ 0 < s)) (hp : s % 2 = (v - 1) % 2) (hl : s ≤ v - 1) :
    Calls Try.prog 8 #[strongV v k l m] w fun e w' => e = .returned (.tuple #[.bool true, .int .i64 0]) ∧ Below w.heap.size w w' := by
  obtain ⟨v1, v2, k1, k2, l1, l2, m1, m2⟩ := hn
  have A1 := mul_bound k (k - l - 1) 1000 2000 (by omega) (by omega) (by omega) (by omega)
  have A2 := mul_bound (v - k - 1) m 1000 1000 (by omega) (by omega) (by omega) (by omega)
  have A3 := mul_bound (v - 1) (l - m) 1000 1000 (by omega) (by omega) (by omega) (by omega)
  have A4 := mul_bound (l - m) (l - m) 1000 1000 (by omega) (by omega) (by omega) (by omega)
  obtain ⟨A11, A12⟩ := A1
  obtain ⟨A21, A22⟩ := A2
  obtain ⟨A31, A32⟩ := A3
  obtain ⟨A41, A42⟩ := A4
  have hb : (k * (k - l - 1) != (v - k - 1) * m) = false := by rw [h]; simp
  clear h
  have x1 : -3000 * 1000 ≤ x := by omega
  have x2 : x ≤ 3000 * 1000 := by omega
  have d1 : -3000 * 1000 ≤ d := by omega
  have d2 : d ≤ 3000 * 1000 := by omega
  have r2 : r ≤ 3000 := by
    by_cases hh : r ≤ 3000
    · exact hh
    · have := sq_le 3001 r (by omega) (by omega); omega
  have HR := Lib.hid hr
  clear hr
  have hm2 : (x.tmod r != 0) = false := by rw [hm]; simp
  clear hm
  have r0 : (r == 0) = false := by rw [beq_eq_false_iff_ne]; omega
  have hp2 : (s % 2 == (v - 1) % 2) = true := by rw [hp]; simp
  clear hp
  have hl2 : decide (s ≤ v - 1) = true := decide_eq_true hl
  rcases hs with rfl | ⟨rfl, s2⟩
  all_goals
    rcases (show (x = 0 ∧ v % 2 = 0) ∨ (x < 0 ∨ 0 < x) by omega) with ⟨h0, hv⟩ | h0
    · have z1 : (x == 0) = true := by rw [h0]; simp
      have z2 : (v % 2 == 1) = false := by rw [beq_eq_false_iff_ne]; omega
      clear h0 hv hz
      go_enter Try.func8, Try.ntmps8
      go_wp2_with fail
      go_quiet (fail)
      go_wp2_with (go_at_call 20; refine (root_yes _ r _ (by omega) (by omega) HR.out).mono ?_; rintro e w' ⟨rfl, rfl⟩)
      go_ret2
      exact ⟨rfl, ((Below.refl _ _).alloc (Nat.le_refl _) _).trans (World.drewN_below _ _ _)⟩
    · have z1 : (x == 0) = false := by rw [beq_eq_false_iff_ne]; omega
      clear h0 hz
      go_enter Try.func8, Try.ntmps8
      go_wp2_with fail
      go_quiet (fail)
      go_wp2_with (go_at_call 20; refine (root_yes _ r _ (by omega) (by omega) HR.out).mono ?_; rintro e w' ⟨rfl, rfl⟩)
      go_ret2
      exact ⟨rfl, ((Below.refl _ _).alloc (Nat.le_refl _) _).trans (World.drewN_below _ _ _)⟩

set_option maxHeartbeats 1000000 in
theorem fits_gt (v k l m x d r n s : Int) (w : World) (hn : FitNums v k l m) (h : k * (k - l - 1) = (v - k - 1) * m) (hx : 2 * k + (v - 1) * (l - m) = x) (hz : ¬ (x = 0 ∧ v % 2 = 1)) (hd : (l - m) * (l - m) + 4 * (k - m) = d) (r1 : 1 ≤ r) (hr : r * r = d) (hm : x.tmod r = 0) (hq : x.tdiv r = n) (s0 : 0 ≤ s) (s1 : s ≤ 3000 * 1000) (hs : n = s ∨ (n = -s ∧ 0 < s)) (hp : s % 2 = (v - 1) % 2) (hl : v - 1 < s) :
    Calls Try.prog 8 #[strongV v k l m] w fun e w' => e = .returned (.tuple #[.bool false, .int .i64 0]) ∧ Below w.heap.size w w' := by
  obtain ⟨v1, v2, k1, k2, l1, l2, m1, m2⟩ := hn
  have A1 := mul_bound k (k - l - 1) 1000 2000 (by omega) (by omega) (by omega) (by omega)
  have A2 := mul_bound (v - k - 1) m 1000 1000 (by omega) (by omega) (by omega) (by omega)
  have A3 := mul_bound (v - 1) (l - m) 1000 1000 (by omega) (by omega) (by omega) (by omega)
  have A4 := mul_bound (l - m) (l - m) 1000 1000 (by omega) (by omega) (by omega) (by omega)
  obtain ⟨A11, A12⟩ := A1
  obtain ⟨A21, A22⟩ := A2
  obtain ⟨A31, A32⟩ := A3
  obtain ⟨A41, A42⟩ := A4
  have hb : (k * (k - l - 1) != (v - k - 1) * m) = false := by rw [h]; simp
  clear h
  have x1 : -3000 * 1000 ≤ x := by omega
  have x2 : x ≤ 3000 * 1000 := by omega
  have d1 : -3000 * 1000 ≤ d := by omega
  have d2 : d ≤ 3000 * 1000 := by omega
  have r2 : r ≤ 3000 := by
    by_cases hh : r ≤ 3000
    · exact hh
    · have := sq_le 3001 r (by omega) (by omega); omega
  have HR := Lib.hid hr
  clear hr
  have hm2 : (x.tmod r != 0) = false := by rw [hm]; simp
  clear hm
  have r0 : (r == 0) = false := by rw [beq_eq_false_iff_ne]; omega
  have hp2 : (s % 2 == (v - 1) % 2) = true := by rw [hp]; simp
  clear hp
  have hl2 : decide (s ≤ v - 1) = false := decide_eq_false (by omega)
  rcases hs with rfl | ⟨rfl, s2⟩
  all_goals
    rcases (show (x = 0 ∧ v % 2 = 0) ∨ (x < 0 ∨ 0 < x) by omega) with ⟨h0, hv⟩ | h0
    · have z1 : (x == 0) = true := by rw [h0]; simp
      have z2 : (v % 2 == 1) = false := by rw [beq_eq_false_iff_ne]; omega
      clear h0 hv hz
      go_enter Try.func8, Try.ntmps8
      go_wp2_with fail
      go_quiet (fail)
      go_wp2_with (go_at_call 20; refine (root_yes _ r _ (by omega) (by omega) HR.out).mono ?_; rintro e w' ⟨rfl, rfl⟩)
      go_ret2
      exact ⟨rfl, ((Below.refl _ _).alloc (Nat.le_refl _) _).trans (World.drewN_below _ _ _)⟩
    · have z1 : (x == 0) = false := by rw [beq_eq_false_iff_ne]; omega
      clear h0 hz
      go_enter Try.func8, Try.ntmps8
      go_wp2_with fail
      go_quiet (fail)
      go_wp2_with (go_at_call 20; refine (root_yes _ r _ (by omega) (by omega) HR.out).mono ?_; rintro e w' ⟨rfl, rfl⟩)
      go_ret2
      exact ⟨rfl, ((Below.refl _ _).alloc (Nat.le_refl _) _).trans (World.drewN_below _ _ _)⟩

set_option maxHeartbeats 1000000 in
theorem fitsOf_noroot (v k l m x d : Int) (w : World) (hn : FitNums v k l m) (h : k * (k - l - 1) = (v - k - 1) * m) (hx : 2 * k + (v - 1) * (l - m) = x) (hz : ¬ (x = 0 ∧ v % 2 = 1)) (hd : (l - m) * (l - m) + 4 * (k - m) = d) (hr : ∀ s : Int, 1 ≤ s → s * s ≠ d) :
    Calls Try.prog 9 #[strongV v k l m] w fun e w' => e = .returned (.tuple #[.bool false, .int .i64 0]) ∧ Below w.heap.size w w' := by
  obtain ⟨v1, v2, k1, k2, l1, l2, m1, m2⟩ := hn
  have A1 := mul_bound k (k - l - 1) 1000 2000 (by omega) (by omega) (by omega) (by omega)
  have A2 := mul_bound (v - k - 1) m 1000 1000 (by omega) (by omega) (by omega) (by omega)
  have A3 := mul_bound (v - 1) (l - m) 1000 1000 (by omega) (by omega) (by omega) (by omega)
  have A4 := mul_bound (l - m) (l - m) 1000 1000 (by omega) (by omega) (by omega) (by omega)
  obtain ⟨A11, A12⟩ := A1
  obtain ⟨A21, A22⟩ := A2
  obtain ⟨A31, A32⟩ := A3
  obtain ⟨A41, A42⟩ := A4
  have hb : (k * (k - l - 1) != (v - k - 1) * m) = false := by rw [h]; simp
  clear h
  have x1 : -3000 * 1000 ≤ x := by omega
  have x2 : x ≤ 3000 * 1000 := by omega
  have d1 : -3000 * 1000 ≤ d := by omega
  have d2 : d ≤ 3000 * 1000 := by omega
  have HR := Lib.hid hr
  clear hr
  rcases (show (x = 0 ∧ v % 2 = 0) ∨ (x < 0 ∨ 0 < x) by omega) with ⟨h0, hv⟩ | h0
  · have z1 : (x == 0) = true := by rw [h0]; simp
    have z2 : (v % 2 == 1) = false := by rw [beq_eq_false_iff_ne]; omega
    clear h0 hv hz
    go_enter Try.func9, Try.ntmps9
    go_wp2
    go_loop [10] (fun i => ∃ t : Int, 1 ≤ t ∧ t ≤ 3001 ∧ i = .int .i64 t) (fun i => (3002 - intOf i).toNat)
    case atStart => exact ⟨1, by omega, by omega, rfl⟩
    case round =>
      obtain ⟨t, ht1, ht2, rfl⟩ := hrel
      have tt0 : 0 ≤ t * t := Int.mul_nonneg (by omega) (by omega)
      have tt1 := sq_le t 3001 (by omega) ht2
      by_cases hlt : t ≤ 3000
      · have hne : (t * t != d) = true := by rw [bne_iff_ne]; exact HR.out t ht1
        go_wp2
        go_round
        case rel => exact ⟨t + 1, by omega, by omega, by go_num⟩
        case measure => simp [intOf]; omega
      · go_wp2
        go_ret2
        exact ⟨rfl, (Below.refl _ _).alloc (Nat.le_refl _) _⟩
  · have z1 : (x == 0) = false := by rw [beq_eq_false_iff_ne]; omega
    clear h0 hz
    go_enter Try.func9, Try.ntmps9
    go_wp2
    go_loop [10] (fun i => ∃ t : Int, 1 ≤ t ∧ t ≤ 3001 ∧ i = .int .i64 t) (fun i => (3002 - intOf i).toNat)
    case atStart => exact ⟨1, by omega, by omega, rfl⟩
    case round =>
      obtain ⟨t, ht1, ht2, rfl⟩ := hrel
      have tt0 : 0 ≤ t * t := Int.mul_nonneg (by omega) (by omega)
      have tt1 := sq_le t 3001 (by omega) ht2
      by_cases hlt : t ≤ 3000
      · have hne : (t * t != d) = true := by rw [bne_iff_ne]; exact HR.out t ht1
        go_wp2
        go_round
        case rel => exact ⟨t + 1, by omega, by omega, by go_num⟩
        case measure => simp [intOf]; omega
      · go_wp2
        go_ret2
        exact ⟨rfl, (Below.refl _ _).alloc (Nat.le_refl _) _⟩

set_option maxHeartbeats 1000000 in
theorem fitsOf_yes (v k l m x d r f0 : Int) (w : World) (hn : FitNums v k l m) (h : k * (k - l - 1) = (v - k - 1) * m) (hx : 2 * k + (v - 1) * (l - m) = x) (hz : ¬ (x = 0 ∧ v % 2 = 1)) (hd : (l - m) * (l - m) + 4 * (k - m) = d) (r1 : 1 ≤ r) (hr : r * r = d) (f1 : 0 ≤ f0) (f2 : f0 < v) (hf : (v - 1 - 2 * f0) * r = x) :
    Calls Try.prog 9 #[strongV v k l m] w fun e w' => e = .returned (.tuple #[.bool true, .int .i64 0]) ∧ Below w.heap.size w w' := by
  obtain ⟨v1, v2, k1, k2, l1, l2, m1, m2⟩ := hn
  have A1 := mul_bound k (k - l - 1) 1000 2000 (by omega) (by omega) (by omega) (by omega)
  have A2 := mul_bound (v - k - 1) m 1000 1000 (by omega) (by omega) (by omega) (by omega)
  have A3 := mul_bound (v - 1) (l - m) 1000 1000 (by omega) (by omega) (by omega) (by omega)
  have A4 := mul_bound (l - m) (l - m) 1000 1000 (by omega) (by omega) (by omega) (by omega)
  obtain ⟨A11, A12⟩ := A1
  obtain ⟨A21, A22⟩ := A2
  obtain ⟨A31, A32⟩ := A3
  obtain ⟨A41, A42⟩ := A4
  have hb : (k * (k - l - 1) != (v - k - 1) * m) = false := by rw [h]; simp
  clear h
  have x1 : -3000 * 1000 ≤ x := by omega
  have x2 : x ≤ 3000 * 1000 := by omega
  have d1 : -3000 * 1000 ≤ d := by omega
  have d2 : d ≤ 3000 * 1000 := by omega
  have r2 : r ≤ 3000 := by
    by_cases hh : r ≤ 3000
    · exact hh
    · have := sq_le 3001 r (by omega) (by omega); omega
  have HR := Lib.hid hr
  clear hr
  have H0 := Lib.hid hf
  clear hf
  rcases (show (x = 0 ∧ v % 2 = 0) ∨ (x < 0 ∨ 0 < x) by omega) with ⟨h0, hv⟩ | h0
  · have z1 : (x == 0) = true := by rw [h0]; simp
    have z2 : (v % 2 == 1) = false := by rw [beq_eq_false_iff_ne]; omega
    clear h0 hv hz
    go_enter Try.func9, Try.ntmps9
    go_wp2
    go_loop [10] (fun i => ∃ t : Int, 1 ≤ t ∧ t ≤ r ∧ i = .int .i64 t) (fun i => (3002 - intOf i).toNat)
    case atStart => exact ⟨1, by omega, by omega, rfl⟩
    case round =>
      obtain ⟨t, ht1, ht2, rfl⟩ := hrel
      have tt0 : 0 ≤ t * t := Int.mul_nonneg (by omega) (by omega)
      have tt1 := sq_le t 3000 (by omega) (by omega)
      by_cases hlt : t < r
      · have hne : (t * t != d) = true := by rw [bne_iff_ne]; have := sq_lt t r (by omega) hlt; rw [HR.out] at this; omega
        go_wp2
        go_round
        case rel => exact ⟨t + 1, by omega, by omega, by go_num⟩
        case measure => simp [intOf]; omega
      · obtain rfl : t = r := by omega
        have hne : (t * t != d) = false := by rw [HR.out]; simp
        go_wp2
        go_loop [11] (fun i => ∃ f : Int, 0 ≤ f ∧ f ≤ f0 ∧ i = .int .i64 f) (fun i => (1001 - intOf i).toNat)
        case atStart => exact ⟨0, by omega, by omega, rfl⟩
        case round =>
          obtain ⟨f, hf1, hf2, rfl⟩ := hrel
          obtain ⟨p1, p2⟩ := mul_bound (v - 1 - 2 * f) t 3000 3000 (by omega) (by omega) (by omega) (by omega)
          by_cases he : (v - 1 - 2 * f) * t = x
          · have he2 : ((v - 1 - 2 * f) * t == x) = true := by rw [he]; simp
            clear he
            go_wp2
            go_ret2
            exact ⟨rfl, (Below.refl _ _).alloc (Nat.le_refl _) _⟩
          · have he2 : ((v - 1 - 2 * f) * t == x) = false := by rw [beq_eq_false_iff_ne]; exact he
            have hlt2 : f < f0 := by
              by_cases h : f = f0
              · exact absurd (h ▸ H0.out) he
              · omega
            clear he
            go_wp2
            go_round
            case rel => exact ⟨f + 1, by omega, by omega, by go_num⟩
            case measure => simp [intOf]; omega
  · have z1 : (x == 0) = false := by rw [beq_eq_false_iff_ne]; omega
    clear h0 hz
    go_enter Try.func9, Try.ntmps9
    go_wp2
    go_loop [10] (fun i => ∃ t : Int, 1 ≤ t ∧ t ≤ r ∧ i = .int .i64 t) (fun i => (3002 - intOf i).toNat)
    case atStart => exact ⟨1, by omega, by omega, rfl⟩
    case round =>
      obtain ⟨t, ht1, ht2, rfl⟩ := hrel
      have tt0 : 0 ≤ t * t := Int.mul_nonneg (by omega) (by omega)
      have tt1 := sq_le t 3000 (by omega) (by omega)
      by_cases hlt : t < r
      · have hne : (t * t != d) = true := by rw [bne_iff_ne]; have := sq_lt t r (by omega) hlt; rw [HR.out] at this; omega
        go_wp2
        go_round
        case rel => exact ⟨t + 1, by omega, by omega, by go_num⟩
        case measure => simp [intOf]; omega
      · obtain rfl : t = r := by omega
        have hne : (t * t != d) = false := by rw [HR.out]; simp
        go_wp2
        go_loop [11] (fun i => ∃ f : Int, 0 ≤ f ∧ f ≤ f0 ∧ i = .int .i64 f) (fun i => (1001 - intOf i).toNat)
        case atStart => exact ⟨0, by omega, by omega, rfl⟩
        case round =>
          obtain ⟨f, hf1, hf2, rfl⟩ := hrel
          obtain ⟨p1, p2⟩ := mul_bound (v - 1 - 2 * f) t 3000 3000 (by omega) (by omega) (by omega) (by omega)
          by_cases he : (v - 1 - 2 * f) * t = x
          · have he2 : ((v - 1 - 2 * f) * t == x) = true := by rw [he]; simp
            clear he
            go_wp2
            go_ret2
            exact ⟨rfl, (Below.refl _ _).alloc (Nat.le_refl _) _⟩
          · have he2 : ((v - 1 - 2 * f) * t == x) = false := by rw [beq_eq_false_iff_ne]; exact he
            have hlt2 : f < f0 := by
              by_cases h : f = f0
              · exact absurd (h ▸ H0.out) he
              · omega
            clear he
            go_wp2
            go_round
            case rel => exact ⟨f + 1, by omega, by omega, by go_num⟩
            case measure => simp [intOf]; omega

set_option maxHeartbeats 1000000 in
theorem fitsOf_no (v k l m x d r : Int) (w : World) (hn : FitNums v k l m) (h : k * (k - l - 1) = (v - k - 1) * m) (hx : 2 * k + (v - 1) * (l - m) = x) (hz : ¬ (x = 0 ∧ v % 2 = 1)) (hd : (l - m) * (l - m) + 4 * (k - m) = d) (r1 : 1 ≤ r) (hr : r * r = d) (hf : ∀ f : Int, 0 ≤ f → f < v → (v - 1 - 2 * f) * r ≠ x) :
    Calls Try.prog 9 #[strongV v k l m] w fun e w' => e = .returned (.tuple #[.bool false, .int .i64 0]) ∧ Below w.heap.size w w' := by
  obtain ⟨v1, v2, k1, k2, l1, l2, m1, m2⟩ := hn
  have A1 := mul_bound k (k - l - 1) 1000 2000 (by omega) (by omega) (by omega) (by omega)
  have A2 := mul_bound (v - k - 1) m 1000 1000 (by omega) (by omega) (by omega) (by omega)
  have A3 := mul_bound (v - 1) (l - m) 1000 1000 (by omega) (by omega) (by omega) (by omega)
  have A4 := mul_bound (l - m) (l - m) 1000 1000 (by omega) (by omega) (by omega) (by omega)
  obtain ⟨A11, A12⟩ := A1
  obtain ⟨A21, A22⟩ := A2
  obtain ⟨A31, A32⟩ := A3
  obtain ⟨A41, A42⟩ := A4
  have hb : (k * (k - l - 1) != (v - k - 1) * m) = false := by rw [h]; simp
  clear h
  have x1 : -3000 * 1000 ≤ x := by omega
  have x2 : x ≤ 3000 * 1000 := by omega
  have d1 : -3000 * 1000 ≤ d := by omega
  have d2 : d ≤ 3000 * 1000 := by omega
  have r2 : r ≤ 3000 := by
    by_cases hh : r ≤ 3000
    · exact hh
    · have := sq_le 3001 r (by omega) (by omega); omega
  have HR := Lib.hid hr
  clear hr
  have H0 := Lib.hid hf
  clear hf
  rcases (show (x = 0 ∧ v % 2 = 0) ∨ (x < 0 ∨ 0 < x) by omega) with ⟨h0, hv⟩ | h0
  · have z1 : (x == 0) = true := by rw [h0]; simp
    have z2 : (v % 2 == 1) = false := by rw [beq_eq_false_iff_ne]; omega
    clear h0 hv hz
    go_enter Try.func9, Try.ntmps9
    go_wp2
    go_loop [10] (fun i => ∃ t : Int, 1 ≤ t ∧ t ≤ 3001 ∧ i = .int .i64 t) (fun i => (3002 - intOf i).toNat)
    case atStart => exact ⟨1, by omega, by omega, rfl⟩
    case round =>
      obtain ⟨t, ht1, ht2, rfl⟩ := hrel
      have tt0 : 0 ≤ t * t := Int.mul_nonneg (by omega) (by omega)
      have tt1 := sq_le t 3001 (by omega) (by omega)
      by_cases hle : t ≤ 3000
      · by_cases hlt : t = r
        · obtain rfl : t = r := hlt
          have hne : (t * t != d) = false := by rw [HR.out]; simp
          go_wp2
          go_loop [11] (fun i => ∃ f : Int, 0 ≤ f ∧ f ≤ v ∧ i = .int .i64 f) (fun i => (1001 - intOf i).toNat)
          case atStart => exact ⟨0, by omega, by omega, rfl⟩
          case round =>
            obtain ⟨f, hf1, hf2, rfl⟩ := hrel
            obtain ⟨p1, p2⟩ := mul_bound (v - 1 - 2 * f) t 3000 3000 (by omega) (by omega) (by omega) (by omega)
            by_cases hlt2 : f < v
            · have he2 : ((v - 1 - 2 * f) * t == x) = false := by rw [beq_eq_false_iff_ne]; exact H0.out f hf1 hlt2
              go_wp2
              go_round
              case rel => exact ⟨f + 1, by omega, by omega, by go_num⟩
              case measure => simp [intOf]; omega
            · go_wp2
              go_round
              case rel => exact ⟨t + 1, by omega, by omega, by go_num⟩
              case measure => simp [intOf]; omega
        · have hne : (t * t != d) = true := by
            rw [bne_iff_ne]
            rcases (show t < r ∨ r < t by omega) with h | h
            · have := sq_lt t r (by omega) h; rw [HR.out] at this; omega
            · have := sq_lt r t (by omega) h; rw [HR.out] at this; omega
          clear hlt
          go_wp2
          go_round
          case rel => exact ⟨t + 1, by omega, by omega, by go_num⟩
          case measure => simp [intOf]; omega
      · go_wp2
        go_ret2
        exact ⟨rfl, (Below.refl _ _).alloc (Nat.le_refl _) _⟩
  · have z1 : (x == 0) = false := by rw [beq_eq_false_iff_ne]; omega
    clear h0 hz
    go_enter Try.func9, Try.ntmps9
    go_wp2
    go_loop [10] (fun i => ∃ t : Int, 1 ≤ t ∧ t ≤ 3001 ∧ i = .int .i64 t) (fun i => (3002 - intOf i).toNat)
    case atStart => exact ⟨1, by omega, by omega, rfl⟩
    case round =>
      obtain ⟨t, ht1, ht2, rfl⟩ := hrel
      have tt0 : 0 ≤ t * t := Int.mul_nonneg (by omega) (by omega)
      have tt1 := sq_le t 3001 (by omega) (by omega)
      by_cases hle : t ≤ 3000
      · by_cases hlt : t = r
        · obtain rfl : t = r := hlt
          have hne : (t * t != d) = false := by rw [HR.out]; simp
          go_wp2
          go_loop [11] (fun i => ∃ f : Int, 0 ≤ f ∧ f ≤ v ∧ i = .int .i64 f) (fun i => (1001 - intOf i).toNat)
          case atStart => exact ⟨0, by omega, by omega, rfl⟩
          case round =>
            obtain ⟨f, hf1, hf2, rfl⟩ := hrel
            obtain ⟨p1, p2⟩ := mul_bound (v - 1 - 2 * f) t 3000 3000 (by omega) (by omega) (by omega) (by omega)
            by_cases hlt2 : f < v
            · have he2 : ((v - 1 - 2 * f) * t == x) = false := by rw [beq_eq_false_iff_ne]; exact H0.out f hf1 hlt2
              go_wp2
              go_round
              case rel => exact ⟨f + 1, by omega, by omega, by go_num⟩
              case measure => simp [intOf]; omega
            · go_wp2
              go_round
              case rel => exact ⟨t + 1, by omega, by omega, by go_num⟩
              case measure => simp [intOf]; omega
        · have hne : (t * t != d) = true := by
            rw [bne_iff_ne]
            rcases (show t < r ∨ r < t by omega) with h | h
            · have := sq_lt t r (by omega) h; rw [HR.out] at this; omega
            · have := sq_lt r t (by omega) h; rw [HR.out] at this; omega
          clear hlt
          go_wp2
          go_round
          case rel => exact ⟨t + 1, by omega, by omega, by go_num⟩
          case measure => simp [intOf]; omega
      · go_wp2
        go_ret2
        exact ⟨rfl, (Below.refl _ _).alloc (Nat.le_refl _) _⟩

end Go.Proofs.Ytllfccfpoigigaa
