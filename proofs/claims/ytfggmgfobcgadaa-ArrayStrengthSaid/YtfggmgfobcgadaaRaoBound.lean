/- Runs are as many as Rao says: the bound, as array.Rao reckons it; plain. -/
import Derived.Test.YtfggmgfobcgadaaKernel
import Derived.Test.YtfggmgfobcgadaaRaoLaw
namespace Go.Proofs.Ytfggmgfobcgadaa
open Go.RowKit Go.Maps

theorem pow_pos' {z : Int} (hz : 1 ≤ z) : ∀ j : Nat, 1 ≤ z ^ j
  | 0 => by simp
  | j + 1 => by
    have h := pow_pos' hz j
    have := Int.mul_le_mul h hz (by omega) (by omega)
    rw [Int.pow_succ]; omega
theorem termS_small {z c : Int} (hz : 1 ≤ z) (hc : 1 ≤ c) : ∀ j : Nat, z ^ j * c ≤ 1000000000000000000 → termS z c j = z ^ j * c
  | 0, _ => by simp [termS]
  | j + 1, h => by
    have h1 := pow_pos' hz j
    have h2 : 1 ≤ z ^ j * c := by have := Int.mul_le_mul h1 hc (by omega) (by omega); omega
    have h3 : z ^ (j + 1) * c = z ^ j * c * z := by rw [Int.pow_succ]; grind
    rw [h3] at h ⊢
    have h4 : z ^ j * c ≤ z ^ j * c * z := by
      have := Int.mul_le_mul_of_nonneg_left hz (show 0 ≤ z ^ j * c by omega)
      omega
    rw [termS, termS_small hz hc j (by omega), satMul_pos _ _ h2, if_neg (by omega)]
theorem raoSum_small {k : Nat} {z : Int} (hk : k ≤ 30) (hz : 1 ≤ z) : ∀ i, i ≤ k + 1 → sumN (fun i => z ^ i * binM k i) i ≤ 1000000000000000000 → raoSum k z i = sumN (fun i => z ^ i * binM k i) i
  | 0, _, _ => rfl
  | i + 1, hi, h => by
    rw [sumN] at h
    have hb := binM_bound k i hk (by omega)
    have hp := pow_pos' hz i
    have h0 : 1 ≤ z ^ i * binM k i := by have := Int.mul_le_mul hp hb.1 (by omega) (by omega); omega
    have hn : 0 ≤ sumN (fun i => z ^ i * binM k i) i := sumN_nonneg fun y hy => by
      have h1 := pow_pos' hz y
      have h2 := (binM_bound k y hk (by omega)).1
      exact Int.mul_nonneg (by omega) (by omega)
    rw [raoSum, raoSum_small hk hz i (by omega) (by omega), termS_small hz hb.1 i (by omega), if_neg (by omega), sumN]

theorem cnt1 : ∀ k, k < 9 → ∀ i, i < k + 1 → sumN (fun C => if i = onesOf C then 1 else 0) (2 ^ k) = binM k i := by decide +kernel
theorem cnt2 : ∀ k, k < 9 → ∀ u, u < k → sumN (fun C => if onesOf C = u + 1 ∧ inSet C 0 = true then 1 else 0) (2 ^ k) = binM (k - 1) u := by decide +kernel

/-- The sum over the sets. -/
theorem sets_sum (k t : Nat) (z : Int) (hk : k < 9) (ht : t ≤ k) :
    sumN (fun C => (if inF t C = true then 1 else 0) * z ^ onesOf C) (2 ^ k) = sumN (fun i => z ^ i * binM k i) (t / 2 + 1) + if t % 2 = 1 then z ^ (t / 2 + 1) * binM (k - 1) (t / 2) else 0 := by
  have e1 : ∀ C, C < 2 ^ k → (if inF t C = true then 1 else 0) * z ^ onesOf C = sumN (fun i => z ^ i * (if i = onesOf C then 1 else 0)) (t / 2 + 1) + (if t % 2 = 1 then z ^ (t / 2 + 1) else 0) * (if onesOf C = t / 2 + 1 ∧ inSet C 0 = true then 1 else 0) := fun C _ => by
    rw [sumN_delta]
    by_cases h1 : onesOf C ≤ t / 2
    · have h2 : inF t C = true := by unfold inF; rw [decide_eq_true h1]; rfl
      rw [if_pos h2, if_pos (show onesOf C < t / 2 + 1 by omega), if_neg (show ¬ (onesOf C = t / 2 + 1 ∧ inSet C 0 = true) by omega)]
      simp
    · rw [if_neg (show ¬ onesOf C < t / 2 + 1 by omega)]
      by_cases h3 : onesOf C = t / 2 + 1 ∧ inSet C 0 = true
      · rw [if_pos h3]
        by_cases h4 : t % 2 = 1
        · have h2 : inF t C = true := by unfold inF; rw [decide_eq_true h4, decide_eq_true h3.1, h3.2]; simp
          rw [if_pos h2, if_pos h4, h3.1]; simp
        · have h2 : ¬ inF t C = true := by unfold inF; rw [decide_eq_false h4, decide_eq_false h1]; simp
          rw [if_neg h2, if_neg h4]; simp
      · rw [if_neg h3]
        have h2 : ¬ inF t C = true := by
          unfold inF
          rw [decide_eq_false h1]
          simp only [Bool.false_or, Bool.and_eq_true, decide_eq_true_iff]
          exact fun h => h3 ⟨h.1.2, h.2⟩
        rw [if_neg h2]; simp
  rw [sumN_congr e1, sumN_add, sumN_mul, sumN_swap]
  congr 1
  · refine sumN_congr fun i hi => ?_
    rw [sumN_mul, cnt1 k hk i (by omega)]
  · by_cases h4 : t % 2 = 1
    · rw [if_pos h4, if_pos h4, cnt2 k hk (t / 2) (by omega)]
    · rw [if_neg h4, if_neg h4]; simp

theorem rao_bound {S t k : Nat} {xss : List (List Int)} (hR : IsRuns S xss) (hk : (row xss 0).length = k) (hs : StrengthIs S xss t) : raoAll k ((S : Int) - 1) t ≤ xss.length := by
  have hk8 := hR.k8
  have h128 := hR.n128
  have hS := hR.s2
  have ht := hs.1
  rw [hk] at hk8 ht
  have hz : 1 ≤ (S : Int) - 1 := by omega
  have hM := raoM hR hk hs
  rw [sets_sum k t _ (by omega) ht] at hM
  have hn : 0 ≤ sumN (fun i => ((S : Int) - 1) ^ i * binM k i) (t / 2 + 1) := sumN_nonneg fun y hy => by
    have h1 := pow_pos' hz y
    have h2 := (binM_bound k y (by omega) (by omega)).1
    exact Int.mul_nonneg (by omega) (by omega)
  unfold raoAll
  by_cases h4 : t % 2 = 1
  · rw [if_pos h4] at hM ⊢
    have hb := binM_bound (k - 1) (t / 2) (by omega) (by omega)
    have hp := pow_pos' hz (t / 2 + 1)
    have h0 : 1 ≤ ((S : Int) - 1) ^ (t / 2 + 1) * binM (k - 1) (t / 2) := by have := Int.mul_le_mul hp hb.1 (by omega) (by omega); omega
    rw [raoSum_small (by omega) hz (t / 2 + 1) (by omega) (by omega), termS_small hz hb.1 (t / 2 + 1) (by omega)]
    exact hM
  · rw [if_neg h4] at hM ⊢
    rw [raoSum_small (by omega) hz (t / 2 + 1) (by omega) (by omega)]
    omega

end Go.Proofs.Ytfggmgfobcgadaa
