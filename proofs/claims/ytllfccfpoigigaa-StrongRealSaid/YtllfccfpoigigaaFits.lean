/- What strong.Fits and parterreref3.FitsOf answer, case by case. Each theorem names its conditions. -/
import Derived.Test.YtllfccfpoigigaaRoot
namespace Go.Proofs.Ytllfccfpoigigaa
open Go.RowKit

/-- The numbers that are let. -/
structure FitNums (v k l m : Int) : Prop where
  v1 : 2 ≤ v
  v2 : v ≤ 1000
  k1 : 1 ≤ k
  k2 : k < v
  l1 : 0 ≤ l
  l2 : l ≤ v
  m1 : 0 ≤ m
  m2 : m ≤ v

theorem mul_bound (a b A B : Int) (h1 : -A ≤ a) (h2 : a ≤ A) (h3 : -B ≤ b) (h4 : b ≤ B) : -(A * B) ≤ a * b ∧ a * b ≤ A * B := by
  have hA : 0 ≤ A := by omega
  have hB : 0 ≤ B := by omega
  have e1 : (a.natAbs : Int) ≤ A := by omega
  have e2 : (b.natAbs : Int) ≤ B := by omega
  have e3 : ((a * b).natAbs : Int) ≤ A * B := by
    rw [Int.natAbs_mul, Int.natCast_mul]
    exact Int.mul_le_mul e1 e2 (by omega) hA
  omega

abbrev strongV (v k l m : Int) : Value := .agg #[.int .i64 v, .int .i64 k, .int .i64 l, .int .i64 m]

set_option maxHeartbeats 1000000 in
theorem fits_bad (v k l m : Int) (w : World) (h : v < 2 ∨ 1000 < v ∨ k < 1 ∨ v ≤ k ∨ l < 0 ∨ v < l ∨ m < 0 ∨ v < m) :
    Calls Try.prog 8 #[strongV v k l m] w fun e w' => e = .returned (.tuple #[.bool false, .int .i64 1]) ∧ Below w.heap.size w w' := by
  by_cases h0 : v < 2
  · clear h
    go_enter Try.func8, Try.ntmps8
    go_wp2_with fail
    go_quiet (fail)
    go_wp2
    go_ret2
    exact ⟨rfl, by first | exact (Below.refl _ _).alloc (Nat.le_refl _) _ | exact ((Below.refl _ _).alloc (Nat.le_refl _) _).trans (World.drewN_below _ _ _)⟩
  by_cases h1 : 1000 < v
  · clear h
    go_enter Try.func8, Try.ntmps8
    go_wp2_with fail
    go_quiet (fail)
    go_wp2
    go_ret2
    exact ⟨rfl, by first | exact (Below.refl _ _).alloc (Nat.le_refl _) _ | exact ((Below.refl _ _).alloc (Nat.le_refl _) _).trans (World.drewN_below _ _ _)⟩
  by_cases h2 : k < 1
  · clear h
    go_enter Try.func8, Try.ntmps8
    go_wp2_with fail
    go_quiet (fail)
    go_wp2
    go_ret2
    exact ⟨rfl, by first | exact (Below.refl _ _).alloc (Nat.le_refl _) _ | exact ((Below.refl _ _).alloc (Nat.le_refl _) _).trans (World.drewN_below _ _ _)⟩
  by_cases h3 : v ≤ k
  · clear h
    go_enter Try.func8, Try.ntmps8
    go_wp2_with fail
    go_quiet (fail)
    go_wp2
    go_ret2
    exact ⟨rfl, by first | exact (Below.refl _ _).alloc (Nat.le_refl _) _ | exact ((Below.refl _ _).alloc (Nat.le_refl _) _).trans (World.drewN_below _ _ _)⟩
  by_cases h4 : l < 0
  · clear h
    go_enter Try.func8, Try.ntmps8
    go_wp2_with fail
    go_quiet (fail)
    go_wp2
    go_ret2
    exact ⟨rfl, by first | exact (Below.refl _ _).alloc (Nat.le_refl _) _ | exact ((Below.refl _ _).alloc (Nat.le_refl _) _).trans (World.drewN_below _ _ _)⟩
  by_cases h5 : v < l
  · clear h
    go_enter Try.func8, Try.ntmps8
    go_wp2_with fail
    go_quiet (fail)
    go_wp2
    go_ret2
    exact ⟨rfl, by first | exact (Below.refl _ _).alloc (Nat.le_refl _) _ | exact ((Below.refl _ _).alloc (Nat.le_refl _) _).trans (World.drewN_below _ _ _)⟩
  by_cases h6 : m < 0
  · clear h
    go_enter Try.func8, Try.ntmps8
    go_wp2_with fail
    go_quiet (fail)
    go_wp2
    go_ret2
    exact ⟨rfl, by first | exact (Below.refl _ _).alloc (Nat.le_refl _) _ | exact ((Below.refl _ _).alloc (Nat.le_refl _) _).trans (World.drewN_below _ _ _)⟩
  have h7 : v < m := by omega
  clear h
  go_enter Try.func8, Try.ntmps8
  go_wp2_with fail
  go_quiet (fail)
  go_wp2
  go_ret2
  exact ⟨rfl, by first | exact (Below.refl _ _).alloc (Nat.le_refl _) _ | exact ((Below.refl _ _).alloc (Nat.le_refl _) _).trans (World.drewN_below _ _ _)⟩

set_option maxHeartbeats 1000000 in
theorem fits_cnt (v k l m : Int) (w : World) (hn : FitNums v k l m) (h : k * (k - l - 1) ≠ (v - k - 1) * m) :
    Calls Try.prog 8 #[strongV v k l m] w fun e w' => e = .returned (.tuple #[.bool false, .int .i64 0]) ∧ Below w.heap.size w w' := by
  obtain ⟨v1, v2, k1, k2, l1, l2, m1, m2⟩ := hn
  have A1 := mul_bound k (k - l - 1) 1000 2000 (by omega) (by omega) (by omega) (by omega)
  have A2 := mul_bound (v - k - 1) m 1000 1000 (by omega) (by omega) (by omega) (by omega)
  have A3 := mul_bound (v - 1) (l - m) 1000 1000 (by omega) (by omega) (by omega) (by omega)
  have A4 := mul_bound (l - m) (l - m) 1000 1000 (by omega) (by omega) (by omega) (by omega)
  obtain ⟨A11, A12⟩ := A1
  obtain ⟨A21, A22⟩ := A2
  obtain ⟨A31, A32⟩ := A3
  obtain ⟨A41, A42⟩ := A4
  have hb : (k * (k - l - 1) != (v - k - 1) * m) = true := by rw [bne_iff_ne]; exact h
  clear h
  go_enter Try.func8, Try.ntmps8
  go_wp2_with fail
  go_quiet (fail)
  go_wp2
  go_ret2
  exact ⟨rfl, by first | exact (Below.refl _ _).alloc (Nat.le_refl _) _ | exact ((Below.refl _ _).alloc (Nat.le_refl _) _).trans (World.drewN_below _ _ _)⟩

set_option maxHeartbeats 1000000 in
theorem fits_zero (v k l m : Int) (w : World) (hn : FitNums v k l m) (h : k * (k - l - 1) = (v - k - 1) * m) (hx : 2 * k + (v - 1) * (l - m) = 0) (hv : v % 2 = 1) :
    Calls Try.prog 8 #[strongV v k l m] w fun e w' => e = .returned (.tuple #[.bool true, .int .i64 0]) ∧ Below w.heap.size w w' := by
  obtain ⟨v1, v2, k1, k2, l1, l2, m1, m2⟩ := hn
  have A1 := mul_bound k (k - l - 1) 1000 2000 (by omega) (by omega) (by omega) (by omega)
  have A2 := mul_bound (v - k - 1) m 1000 1000 (by omega) (by omega) (by omega) (by omega)
  have A3 := mul_bound (v - 1) (l - m) 1000 1000 (by omega) (by omega) (by omega) (by omega)
  have A4 := mul_bound (l - m) (l - m) 1000 1000 (by omega) (by omega) (by omega) (by omega)
  obtain ⟨A11, A12⟩ := A1
  obtain ⟨A21, A22⟩ := A2
  obtain ⟨A31, A32⟩ := A3
  obtain ⟨A41, A42⟩ := A4
  have hb : (k * (k - l - 1) != (v - k - 1) * m) = false := by rw [h]; simp
  clear h
  go_enter Try.func8, Try.ntmps8
  go_wp2_with fail
  go_quiet (fail)
  go_wp2
  go_ret2
  exact ⟨rfl, by first | exact (Below.refl _ _).alloc (Nat.le_refl _) _ | exact ((Below.refl _ _).alloc (Nat.le_refl _) _).trans (World.drewN_below _ _ _)⟩

set_option maxHeartbeats 1000000 in
theorem fitsOf_bad (v k l m : Int) (w : World) (h : v < 2 ∨ 1000 < v ∨ k < 1 ∨ v ≤ k ∨ l < 0 ∨ v < l ∨ m < 0 ∨ v < m) :
    Calls Try.prog 9 #[strongV v k l m] w fun e w' => e = .returned (.tuple #[.bool false, .int .i64 1]) ∧ Below w.heap.size w w' := by
  by_cases h0 : v < 2
  · clear h
    go_enter Try.func9, Try.ntmps9
    go_wp2
    go_ret2
    exact ⟨rfl, by first | exact (Below.refl _ _).alloc (Nat.le_refl _) _ | exact ((Below.refl _ _).alloc (Nat.le_refl _) _).trans (World.drewN_below _ _ _)⟩
  by_cases h1 : 1000 < v
  · clear h
    go_enter Try.func9, Try.ntmps9
    go_wp2
    go_ret2
    exact ⟨rfl, by first | exact (Below.refl _ _).alloc (Nat.le_refl _) _ | exact ((Below.refl _ _).alloc (Nat.le_refl _) _).trans (World.drewN_below _ _ _)⟩
  by_cases h2 : k < 1
  · clear h
    go_enter Try.func9, Try.ntmps9
    go_wp2
    go_ret2
    exact ⟨rfl, by first | exact (Below.refl _ _).alloc (Nat.le_refl _) _ | exact ((Below.refl _ _).alloc (Nat.le_refl _) _).trans (World.drewN_below _ _ _)⟩
  by_cases h3 : v ≤ k
  · clear h
    go_enter Try.func9, Try.ntmps9
    go_wp2
    go_ret2
    exact ⟨rfl, by first | exact (Below.refl _ _).alloc (Nat.le_refl _) _ | exact ((Below.refl _ _).alloc (Nat.le_refl _) _).trans (World.drewN_below _ _ _)⟩
  by_cases h4 : l < 0
  · clear h
    go_enter Try.func9, Try.ntmps9
    go_wp2
    go_ret2
    exact ⟨rfl, by first | exact (Below.refl _ _).alloc (Nat.le_refl _) _ | exact ((Below.refl _ _).alloc (Nat.le_refl _) _).trans (World.drewN_below _ _ _)⟩
  by_cases h5 : v < l
  · clear h
    go_enter Try.func9, Try.ntmps9
    go_wp2
    go_ret2
    exact ⟨rfl, by first | exact (Below.refl _ _).alloc (Nat.le_refl _) _ | exact ((Below.refl _ _).alloc (Nat.le_refl _) _).trans (World.drewN_below _ _ _)⟩
  by_cases h6 : m < 0
  · clear h
    go_enter Try.func9, Try.ntmps9
    go_wp2
    go_ret2
    exact ⟨rfl, by first | exact (Below.refl _ _).alloc (Nat.le_refl _) _ | exact ((Below.refl _ _).alloc (Nat.le_refl _) _).trans (World.drewN_below _ _ _)⟩
  have h7 : v < m := by omega
  clear h
  go_enter Try.func9, Try.ntmps9
  go_wp2
  go_ret2
  exact ⟨rfl, by first | exact (Below.refl _ _).alloc (Nat.le_refl _) _ | exact ((Below.refl _ _).alloc (Nat.le_refl _) _).trans (World.drewN_below _ _ _)⟩

set_option maxHeartbeats 1000000 in
theorem fitsOf_cnt (v k l m : Int) (w : World) (hn : FitNums v k l m) (h : k * (k - l - 1) ≠ (v - k - 1) * m) :
    Calls Try.prog 9 #[strongV v k l m] w fun e w' => e = .returned (.tuple #[.bool false, .int .i64 0]) ∧ Below w.heap.size w w' := by
  obtain ⟨v1, v2, k1, k2, l1, l2, m1, m2⟩ := hn
  have A1 := mul_bound k (k - l - 1) 1000 2000 (by omega) (by omega) (by omega) (by omega)
  have A2 := mul_bound (v - k - 1) m 1000 1000 (by omega) (by omega) (by omega) (by omega)
  have A3 := mul_bound (v - 1) (l - m) 1000 1000 (by omega) (by omega) (by omega) (by omega)
  have A4 := mul_bound (l - m) (l - m) 1000 1000 (by omega) (by omega) (by omega) (by omega)
  obtain ⟨A11, A12⟩ := A1
  obtain ⟨A21, A22⟩ := A2
  obtain ⟨A31, A32⟩ := A3
  obtain ⟨A41, A42⟩ := A4
  have hb : (k * (k - l - 1) != (v - k - 1) * m) = true := by rw [bne_iff_ne]; exact h
  clear h
  go_enter Try.func9, Try.ntmps9
  go_wp2
  go_ret2
  exact ⟨rfl, by first | exact (Below.refl _ _).alloc (Nat.le_refl _) _ | exact ((Below.refl _ _).alloc (Nat.le_refl _) _).trans (World.drewN_below _ _ _)⟩

set_option maxHeartbeats 1000000 in
theorem fitsOf_zero (v k l m : Int) (w : World) (hn : FitNums v k l m) (h : k * (k - l - 1) = (v - k - 1) * m) (hx : 2 * k + (v - 1) * (l - m) = 0) (hv : v % 2 = 1) :
    Calls Try.prog 9 #[strongV v k l m] w fun e w' => e = .returned (.tuple #[.bool true, .int .i64 0]) ∧ Below w.heap.size w w' := by
  obtain ⟨v1, v2, k1, k2, l1, l2, m1, m2⟩ := hn
  have A1 := mul_bound k (k - l - 1) 1000 2000 (by omega) (by omega) (by omega) (by omega)
  have A2 := mul_bound (v - k - 1) m 1000 1000 (by omega) (by omega) (by omega) (by omega)
  have A3 := mul_bound (v - 1) (l - m) 1000 1000 (by omega) (by omega) (by omega) (by omega)
  have A4 := mul_bound (l - m) (l - m) 1000 1000 (by omega) (by omega) (by omega) (by omega)
  obtain ⟨A11, A12⟩ := A1
  obtain ⟨A21, A22⟩ := A2
  obtain ⟨A31, A32⟩ := A3
  obtain ⟨A41, A42⟩ := A4
  have hb : (k * (k - l - 1) != (v - k - 1) * m) = false := by rw [h]; simp
  clear h
  go_enter Try.func9, Try.ntmps9
  go_wp2
  go_ret2
  exact ⟨rfl, by first | exact (Below.refl _ _).alloc (Nat.le_refl _) _ | exact ((Below.refl _ _).alloc (Nat.le_refl _) _).trans (World.drewN_below _ _ _)⟩

end Go.Proofs.Ytllfccfpoigigaa
