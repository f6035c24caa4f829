/- What parterreref3.Weight and BitsOf answer. Conditions: the number is from 0 to 255; the length is 2 to the power of k, or none such. -/
import Derived.Test.YtbbjjfgainbmdaaSize
namespace Go.Proofs.Ytbbjjfgainbmdaa
open Go.RowKit

/-- How many of the f lowest bits are 1. -/
def wtF : Nat → Nat → Nat
  | 0, _ => 0
  | f + 1, x => x % 2 + wtF f (x / 2)
theorem wtF_zero : ∀ f, wtF f 0 = 0
  | 0 => rfl
  | f + 1 => by rw [wtF, Nat.zero_mod, Nat.zero_div, wtF_zero f]
theorem wtF_le : ∀ f x, wtF f x ≤ f
  | 0, _ => Nat.le_refl _
  | f + 1, x => by rw [wtF]; have := wtF_le f (x / 2); omega
/-- How many of 8 bits are 1. -/
def wt (x : Nat) : Nat := wtF 8 x

set_option maxHeartbeats 400000 in
theorem weight_any (x : Nat) (w : World) (hx : x < 256) :
    Calls Try.prog 34 #[.int .i64 x] w fun e w' => e = .returned (.int .i64 (wt x)) ∧ w = w' := by
  have H0 : ∃ t, Hid (t = wt x) := ⟨_, rfl⟩
  obtain ⟨t, H0⟩ := H0
  have hb := wtF_le 8 x
  have hb2 : t ≤ 8 := by rw [H0.out]; exact hb
  clear hb
  go_enter Try.func34, Try.ntmps34
  go_wp2
  go_loop [0, 3] (fun i n => ∃ f c y : Nat, f ≤ 8 ∧ y < 2 ^ f ∧ i = .int .i64 y ∧ n = .int .i64 c ∧ c + wtF f y = t) (fun i _ => (intOf i).toNat)
  case atStart => exact ⟨8, 0, x, by omega, hx, rfl, rfl, by rw [H0.out]; simp [wt]⟩
  case round =>
    obtain ⟨f, c, y, hf, hy, rfl, rfl, hc⟩ := hrel
    have HC := Lib.hid hc
    have hcle : c ≤ t := by omega
    have hy8 : y < 256 := Nat.lt_of_lt_of_le hy (Nat.pow_le_pow_right (n := 2) (by omega) hf)
    clear hc
    by_cases hy0 : 0 < y
    · obtain ⟨g, rfl⟩ : ∃ g, f = g + 1 := ⟨f - 1, by
        rcases f with _ | f
        · simp at hy; omega
        · rfl⟩
      have hy2 : y / 2 < 2 ^ g := by rw [Nat.pow_succ] at hy; omega
      have HY2 := Lib.hid hy2
      clear hy hy2
      go_wp2
      go_round
      case rel => exact ⟨g, c + y % 2, y / 2, by omega, HY2.out, by go_num, by go_num, by have := HC.out; rw [wtF] at this; omega⟩
      case measure => simp [intOf]; omega
    · obtain rfl : y = 0 := by omega
      have hct : Hid (c = wt x) := by rw [← H0.out, ← HC.out, wtF_zero]; rfl
      go_wp2
      go_ret
      exact ⟨by rw [← hct.out]; rfl, rfl⟩

set_option maxHeartbeats 400000 in
theorem bitsOf_yes (k n : Nat) (w : World) (hk : k ≤ 8) (hn : n = 2 ^ k) :
    Calls Try.prog 20 #[.int .i64 n] w fun e w' => e = .returned (.int .i64 k) ∧ w = w' := by
  have HN := Lib.hid hn
  clear hn
  go_enter Try.func20, Try.ntmps20
  go_wp2
  go_loop [3, 4] (fun p i => ∃ j p0 : Nat, j ≤ k ∧ i = .int .i64 j ∧ p = .int .i64 p0 ∧ p0 = 2 ^ j) (fun _ i => 9 - (intOf i).toNat)
  case atStart => exact ⟨0, 1, by omega, rfl, rfl, rfl⟩
  case round =>
    obtain ⟨j, p0, hj, rfl, rfl, hp⟩ := hrel
    have HP := Lib.hid hp
    have hp8 : p0 ≤ 256 := by rw [hp]; exact Nat.pow_le_pow_right (by omega) (show j ≤ 8 by omega)
    clear hp
    by_cases hjk : j < k
    · have he : (n == p0) = false := by
        rw [beq_eq_false_iff_ne, HP.out, HN.out]
        intro h
        have := pow_inj k j h
        omega
      have he2 : ((n : Int) == (p0 : Int)) = false := by
        rw [beq_eq_false_iff_ne]; rw [beq_eq_false_iff_ne] at he; omega
      go_wp2
      go_round
      case rel => exact ⟨j + 1, 2 * p0, by omega, by go_num, by go_num, by rw [HP.out, Nat.pow_succ]; omega⟩
      case measure => simp [intOf]; omega
    · have he2 : ((n : Int) == (p0 : Int)) = true := by
        rw [beq_iff_eq, HP.out, HN.out, show j = k by omega]
      have E := Lib.hid (show j = k by omega)
      go_wp2
      go_ret
      exact ⟨by rw [← E.out]; rfl, rfl⟩

set_option maxHeartbeats 400000 in
theorem bitsOf_no (n : Nat) (w : World) (hn : ∀ k, k ≤ 8 → n ≠ 2 ^ k) :
    Calls Try.prog 20 #[.int .i64 n] w fun e w' => e = .returned (.int .i64 (-1)) ∧ w = w' := by
  have HN := Lib.hid hn
  clear hn
  go_enter Try.func20, Try.ntmps20
  go_wp2
  go_loop [3, 4] (fun p i => ∃ j p0 : Nat, j ≤ 9 ∧ i = .int .i64 j ∧ p = .int .i64 p0 ∧ p0 = 2 ^ j) (fun _ i => 9 - (intOf i).toNat)
  case atStart => exact ⟨0, 1, by omega, rfl, rfl, rfl⟩
  case round =>
    obtain ⟨j, p0, hj, rfl, rfl, hp⟩ := hrel
    have HP := Lib.hid hp
    have hp8 : p0 ≤ 512 := by rw [hp]; exact Nat.pow_le_pow_right (by omega) (show j ≤ 9 by omega)
    clear hp
    by_cases hjk : j < 9
    · have he2 : ((n : Int) == (p0 : Int)) = false := by
        rw [beq_eq_false_iff_ne]
        intro h
        exact HN.out j (by omega) (by rw [← HP.out]; omega)
      go_wp2
      go_round
      case rel => exact ⟨j + 1, 2 * p0, by omega, by go_num, by go_num, by rw [HP.out, Nat.pow_succ]; omega⟩
      case measure => simp [intOf]; omega
    · go_wp2
      go_ret
      exact ⟨rfl, rfl⟩

end Go.Proofs.Ytbbjjfgainbmdaa
