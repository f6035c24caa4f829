/- What strong.root answers: the root, or 0. Conditions: the number is at most 9000000. -/
import Derived.Test.YtllfccfpoigigaaBase
namespace Go.Proofs.Ytllfccfpoigigaa
open Go.RowKit

theorem sq_lt (s r : Int) (h0 : 0 ≤ s) (h : s < r) : s * s < r * r := by
  have h1 : s * s ≤ s * r := Int.mul_le_mul_of_nonneg_left (by omega) h0
  have h2 : s * r < r * r := Int.mul_lt_mul_of_pos_right h (by omega)
  omega
theorem sq_le (s r : Int) (h0 : 0 ≤ s) (h : s ≤ r) : s * s ≤ r * r := Int.mul_le_mul h h h0 (by omega)

set_option maxHeartbeats 400000 in
theorem root_yes (d r : Int) (w : World) (h1 : 1 ≤ r) (h2 : r ≤ 3000) (h : r * r = d) :
    Calls Try.prog 20 #[.int .i64 d] w fun e w' => e = .returned (.int .i64 r) ∧ w = w' := by
  have H := Lib.hid h
  have hd : d ≤ 9000000 := by have := sq_le r 3000 (by omega) h2; omega
  clear h
  go_enter Try.func20, Try.ntmps20
  go_wp2
  go_loop [3] (fun i => ∃ s : Int, 1 ≤ s ∧ s ≤ r ∧ i = .int .i64 s) (fun i => (3001 - intOf i).toNat)
  case atStart => exact ⟨1, by omega, h1, rfl⟩
  case round =>
    obtain ⟨s, hs1, hs2, rfl⟩ := hrel
    by_cases hsr : s < r
    · have e1 := sq_lt s r (by omega) hsr
      rw [H.out] at e1
      have e0 : 0 ≤ s * s := Int.mul_nonneg (by omega) (by omega)
      have e2 : (s * s == d) = false := by rw [beq_eq_false_iff_ne]; omega
      go_wp2
      go_round
      case rel => exact ⟨s + 1, by omega, by omega, by go_num⟩
      case measure => simp [intOf]; omega
    · have e1 : s * s = d := by rw [← H.out, show s = r by omega]
      have e2 : (s * s == d) = true := by rw [e1]; simp
      have e3 : s * s ≤ d := by omega
      have e0 : 0 ≤ s * s := Int.mul_nonneg (by omega) (by omega)
      have E1 := Lib.hid (show s = r by omega)
      clear e1
      go_wp2
      go_ret
      exact ⟨by rw [← E1.out]; rfl, rfl⟩

set_option maxHeartbeats 400000 in
theorem root_no (d : Int) (w : World) (hd : d ≤ 9000000) (h : ∀ s : Int, 1 ≤ s → s * s ≠ d) :
    Calls Try.prog 20 #[.int .i64 d] w fun e w' => e = .returned (.int .i64 0) ∧ w = w' := by
  have H := Lib.hid h
  clear h
  go_enter Try.func20, Try.ntmps20
  go_wp2
  go_loop [3] (fun i => ∃ s : Int, 1 ≤ s ∧ s ≤ 3001 ∧ i = .int .i64 s) (fun i => (3002 - intOf i).toNat)
  case atStart => exact ⟨1, by omega, by omega, rfl⟩
  case round =>
    obtain ⟨s, hs1, hs2, rfl⟩ := hrel
    have e0 : 0 ≤ s * s := Int.mul_nonneg (by omega) (by omega)
    have e4 := sq_le s 3001 (by omega) hs2
    have e2 : (s * s == d) = false := by rw [beq_eq_false_iff_ne]; exact H.out s hs1
    by_cases hsr : s * s ≤ d
    · have e5 : s ≤ 3000 := by
        by_cases hh : s ≤ 3000
        · exact hh
        · have := sq_le 3001 s (by omega) (by omega); omega
      go_wp2
      go_round
      case rel => exact ⟨s + 1, by omega, by omega, by go_num⟩
      case measure => simp [intOf]; omega
    · go_wp2
      go_ret
      exact ⟨rfl, rfl⟩

end Go.Proofs.Ytllfccfpoigigaa
