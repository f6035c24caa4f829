/- The plain laws of matrices of signs whose rows are orthogonal: the side; the sum of all cells. -/
import Derived.Test.YtkgdohoandfaeaaHadaFault
import Derived.Test.YtkgdohoandfaeaaButter
namespace Go.Proofs.Ytkgdohoandfaeaa
open Go.RowKit

theorem dotTo_sum (xs : List Int) (n i k : Nat) : ∀ j, dotTo xs n i k j = sumN (fun q => nth xs (i * n + q) * nth xs (k * n + q)) j
  | 0 => rfl
  | j + 1 => by rw [dotTo, sumN, dotTo_sum xs n i k j]

theorem three_rows {n : Nat} {xs : List Int} (hm : IsMat n xs) (h3 : 3 ≤ n) : ∀ j, j ≤ n → ∃ q, (j : Int) + dotTo xs n 1 0 j + dotTo xs n 2 0 j + dotTo xs n 2 1 j = 4 * q
  | 0, _ => ⟨0, by simp [dotTo]⟩
  | j + 1, hj => by
    obtain ⟨q, hq⟩ := three_rows hm h3 j (by omega)
    rw [dotTo, dotTo, dotTo]
    rcases nth_sign hm (0 * n + j) (place_lt (by omega) (by omega)) with h0 | h0 <;> rcases nth_sign hm (1 * n + j) (place_lt (by omega) (by omega)) with h1 | h1 <;> rcases nth_sign hm (2 * n + j) (place_lt (by omega) (by omega)) with h2 | h2 <;> rw [h0, h1, h2] <;>
      first | exact ⟨q, by push_cast; omega⟩ | exact ⟨q + 1, by push_cast; omega⟩

theorem side_law {n : Nat} {xs : List Int} (hm : IsMat n xs) (ho : Orth n xs) : n = 1 ∨ n = 2 ∨ n % 4 = 0 := by
  by_cases h3 : 3 ≤ n
  · obtain ⟨q, hq⟩ := three_rows hm h3 n (Nat.le_refl _)
    rw [ho 1 0 (by omega) (by omega), ho 2 0 (by omega) (by omega), ho 2 1 (by omega) (by omega)] at hq
    omega
  · have := hm.one; omega

theorem dot_comm (xs : List Int) (n i k : Nat) : ∀ j, dotTo xs n i k j = dotTo xs n k i j
  | 0 => rfl
  | j + 1 => by rw [dotTo, dotTo, dot_comm xs n i k j, Int.mul_comm (nth xs (i * n + j))]
theorem dot_self {n : Nat} {xs : List Int} (hm : IsMat n xs) (i : Nat) (hi : i < n) : ∀ j, j ≤ n → dotTo xs n i i j = j
  | 0, _ => rfl
  | j + 1, hj => by
    rw [dotTo, dot_self hm i hi j (by omega)]
    rcases nth_sign hm (i * n + j) (place_lt hi (by omega)) with h | h <;> rw [h] <;> push_cast <;> omega
theorem dot_all {n : Nat} {xs : List Int} (hm : IsMat n xs) (ho : Orth n xs) (i k : Nat) (hi : i < n) (hk : k < n) : dotTo xs n i k n = if i = k then (n : Int) else 0 := by
  by_cases h : i = k
  · subst h; rw [if_pos rfl, dot_self hm i hi n (Nat.le_refl _)]
  · rw [if_neg h]
    rcases Nat.lt_or_gt_of_ne h with h1 | h1
    · rw [dot_comm, ho k i hk h1]
    · exact ho i k hi h1

theorem sumTo_sum (xs : List Int) : ∀ j, sumTo xs j = sumN (nth xs) j
  | 0 => rfl
  | j + 1 => by rw [sumTo, sumN, sumTo_sum xs j]
theorem sumN_rows (f : Nat → Int) (n : Nat) : ∀ m, sumN f (m * n) = sumN (fun i => sumN (fun j => f (i * n + j)) n) m
  | 0 => by rw [Nat.zero_mul]; rfl
  | m + 1 => by rw [Nat.succ_mul, sumN_add, sumN_rows f n m, sumN]

theorem mul_sumN (f g : Nat → Int) (m n : Nat) : sumN f m * sumN g n = sumN (fun i => sumN (fun k => f i * g k) n) m := by
  rw [Int.mul_comm, ← sumN_mul]
  exact sumN_congr fun i _ => by rw [Int.mul_comm, ← sumN_mul]

theorem sq_nonneg (a : Int) : 0 ≤ a * a := by
  rcases Int.le_total 0 a with h | h
  · exact Int.mul_nonneg h h
  · exact Int.mul_nonneg_of_nonpos_of_nonpos h h

/-- Cauchy's inequality, for the sum of n numbers. -/
theorem cauchy (c : Nat → Int) : ∀ n : Nat, sumN c n * sumN c n ≤ n * sumN (fun j => c j * c j) n
  | 0 => by simp [sumN]
  | n + 1 => by
    have ih := cauchy c n
    have h : 0 ≤ sumN (fun j => (c j - c n) * (c j - c n)) n := sumN_nonneg fun j _ => sq_nonneg _
    have he : sumN (fun j => (c j - c n) * (c j - c n)) n = sumN (fun j => c j * c j) n + (-2 * c n) * sumN c n + n * (c n * c n) := by
      rw [← sumN_mul, ← sumN_const, ← sumN_plus, ← sumN_plus]
      exact sumN_congr fun j _ => by grind
    rw [he] at h
    rw [sumN, sumN]
    push_cast
    generalize sumN c n = S at *
    generalize sumN (fun j => c j * c j) n = Q at *
    generalize c n = x at *
    have e1 : (S + x) * (S + x) = S * S + 2 * x * S + x * x := by grind
    have e2 : ((n : Int) + 1) * (Q + x * x) = n * Q + Q + n * (x * x) + x * x := by grind
    rw [e1, e2]
    have e3 : -2 * x * S = -(2 * x * S) := by grind
    omega

theorem best_law {n : Nat} {xs : List Int} (hm : IsMat n xs) (ho : Orth n xs) : sumTo xs (n * n) * sumTo xs (n * n) ≤ (n : Int) * n * n := by
  have h1 : sumTo xs (n * n) = sumN (fun j => sumN (fun i => nth xs (i * n + j)) n) n := by rw [sumTo_sum, sumN_rows, sumN_comm]
  have h2 : sumN (fun j => sumN (fun i => nth xs (i * n + j)) n * sumN (fun i => nth xs (i * n + j)) n) n = (n : Int) * n := by
    rw [sumN_congr (g := fun j => sumN (fun i => sumN (fun k => nth xs (i * n + j) * nth xs (k * n + j)) n) n) (fun j _ => mul_sumN _ _ n n)]
    rw [sumN_comm]
    rw [sumN_congr (g := fun i => (n : Int)) (fun i hi => ?_), sumN_const]
    rw [sumN_comm]
    rw [sumN_congr (g := fun k => dotTo xs n i k n) (fun k _ => (dotTo_sum xs n i k n).symm)]
    rw [sumN_single i hi (fun k hk hne => by rw [dot_all hm ho i k hi hk, if_neg (fun e => hne e.symm)]), dot_all hm ho i i hi hi, if_pos rfl]
  have h3 := cauchy (fun j => sumN (fun i => nth xs (i * n + j)) n) n
  rw [h2] at h3
  rw [h1, Int.mul_assoc]
  exact h3

end Go.Proofs.Ytkgdohoandfaeaa
