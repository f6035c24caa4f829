/- Rao and RaoOf say the same. Conditions: 1 ≤ k ≤ 30, 1 ≤ a. -/
import Derived.Test.YtfggmgfobcgadaaRaoOf
namespace Go.Proofs.Ytfggmgfobcgadaa
open Go.RowKit

theorem bin_pas_check : ((List.range 31).all fun n => (List.range (n + 1)).all fun i => decide (nth (pasRow n) i = binM n i)) = true := by decide +kernel
theorem bin_pas (n i : Nat) (hn : n ≤ 30) (hi : i ≤ n) : nth (pasRow n) i = binM n i := by
  have h := bin_pas_check
  rw [List.all_eq_true] at h
  have h := h n (List.mem_range.2 (by omega))
  rw [List.all_eq_true] at h
  exact of_decide_eq_true (h i (List.mem_range.2 (by omega)))

theorem div_lt (M x y : Int) (hx : 0 < x) : M / x < y ↔ M < x * y := by
  rw [Int.ediv_lt_iff_lt_mul hx, Int.mul_comm]

theorem tUp_pos (p c : Int) (hp : 1 ≤ p) (hc : 1 ≤ c) : tUp p c = if 1000000000000000000 < c * p then -1 else p * c := by
  unfold tUp
  rw [if_neg (by omega)]
  by_cases h : 1000000000000000000 / c < p
  · rw [if_pos ⟨by omega, h⟩, if_pos ((div_lt _ _ _ (by omega)).1 h)]
  · rw [if_neg (fun hh => h hh.2), if_neg (fun hh => h ((div_lt _ _ _ (by omega)).2 hh))]
theorem satMul_pos (x a : Int) (hx : 1 ≤ x) : satMul x a = if 1000000000000000000 < x * a then 1000000000000000001 else x * a := by
  unfold satMul
  by_cases h : 1000000000000000000 / x < a
  · rw [if_pos ⟨by omega, h⟩, if_pos ((div_lt _ _ _ (by omega)).1 h)]
  · rw [if_neg (fun hh => h hh.2), if_neg (fun hh => h ((div_lt _ _ _ (by omega)).2 hh))]

/-- A power, and what it is of c. -/
theorem pow_term (a c : Int) (ha : 1 ≤ a) (hc : 1 ≤ c) (hc' : c ≤ 200000000) : ∀ j, (rpPow a j = -1 ∧ termS a c j = 1000000000000000001) ∨
    (1 ≤ rpPow a j ∧ ((termS a c j = rpPow a j * c ∧ rpPow a j * c ≤ 1000000000000000000) ∨ (termS a c j = 1000000000000000001 ∧ 1000000000000000000 < rpPow a j * c)))
  | 0 => by right; simp only [rpPow, termS]; refine ⟨by omega, .inl ⟨by omega, by omega⟩⟩
  | j + 1 => by
    have hbig : satMul 1000000000000000001 a = 1000000000000000001 := by
      rw [satMul_pos _ _ (by omega), if_pos (by omega)]
    rw [rpPow, termS]
    rcases pow_term a c ha hc hc' j with ⟨h1, h2⟩ | ⟨h1, h2⟩
    · left
      rw [h1, h2, hbig]
      exact ⟨by unfold tUp; rw [if_pos (.inl (by omega))], rfl⟩
    · generalize rpPow a j = p at *
      generalize termS a c j = T at *
      rw [tUp_pos p a h1 ha]
      have hmono : p * a ≤ p * c * a := by
        have := Int.mul_le_mul_of_nonneg_left hc (show 0 ≤ p * a from Int.mul_nonneg (by omega) (by omega))
        rw [Int.mul_one, Int.mul_right_comm] at this
        exact this
      have hge : p * c ≤ p * a * c := by
        have := Int.mul_le_mul_of_nonneg_left ha (show 0 ≤ p * c from Int.mul_nonneg (by omega) (by omega))
        rw [Int.mul_one, Int.mul_right_comm] at this
        exact this
      by_cases hpa : 1000000000000000000 < a * p
      · left
        rw [if_pos hpa]
        refine ⟨rfl, ?_⟩
        rw [Int.mul_comm] at hpa
        rcases h2 with ⟨h3, h4⟩ | ⟨h3, h4⟩
        · have hpc : 1 ≤ p * c := by have := Int.mul_le_mul h1 hc (by omega) (by omega); omega
          rw [h3, satMul_pos _ _ hpc, if_pos (by omega)]
        · rw [h3, hbig]
      · right
        rw [if_neg hpa]
        have hp1 : 1 ≤ p * a := by have := Int.mul_le_mul h1 ha (by omega) (by omega); omega
        refine ⟨hp1, ?_⟩
        rcases h2 with ⟨h3, h4⟩ | ⟨h3, h4⟩
        · have hpc : 1 ≤ p * c := by have := Int.mul_le_mul h1 hc (by omega) (by omega); omega
          have e : p * c * a = p * a * c := Int.mul_right_comm p c a
          rw [h3, satMul_pos _ _ hpc, e]
          by_cases hb : 1000000000000000000 < p * a * c
          · rw [if_pos hb]; exact .inr ⟨rfl, hb⟩
          · rw [if_neg hb]; exact .inl ⟨rfl, by omega⟩
        · rw [h3, hbig]; exact .inr ⟨rfl, by omega⟩

/-- One term: too great at both, or the same. -/
theorem term_law (a c : Int) (ha : 1 ≤ a) (hc : 1 ≤ c) (hc' : c ≤ 200000000) (j : Nat) :
    (tUp (rpPow a j) c = -1 ∧ termS a c j = 1000000000000000001) ∨ (tUp (rpPow a j) c = termS a c j ∧ 1 ≤ termS a c j ∧ termS a c j ≤ 1000000000000000000) := by
  have hb := termS_bound a c ha hc hc' j
  rcases pow_term a c ha hc hc' j with ⟨h1, h2⟩ | ⟨h1, ⟨h3, h4⟩ | ⟨h3, h4⟩⟩
  · left; exact ⟨by rw [h1]; unfold tUp; rw [if_pos (.inl (by omega))], h2⟩
  · right
    rw [tUp_pos _ _ h1 hc, if_neg (by rw [Int.mul_comm]; omega)]
    exact ⟨h3.symm, hb.1, by omega⟩
  · left
    exact ⟨by rw [tUp_pos _ _ h1 hc, if_pos (by rw [Int.mul_comm]; exact h4)], h3⟩

theorem sum_law (k : Nat) (a : Int) (hk : k ≤ 30) (ha : 1 ≤ a) : ∀ i, i ≤ k + 1 → (raoOfSum k a i = none ∧ raoSum k a i = 1000000000000000001) ∨ (raoOfSum k a i = some (raoSum k a i) ∧ raoSum k a i ≤ 1000000000000000000)
  | 0, _ => .inr ⟨rfl, by unfold raoSum; omega⟩
  | i + 1, h => by
    have hb := binM_bound k i hk (by omega)
    have ht := term_law a _ ha hb.1 hb.2 i
    have hr := raoSum_bound k a hk ha i (by omega)
    have ht2 := termS_bound a _ ha hb.1 hb.2 i
    have hx : raoX k a i = tUp (rpPow a i) (binM k i) := by unfold raoX; rw [bin_pas k i hk (by omega)]
    rw [raoOfSum, raoSum, hx]
    rcases sum_law k a hk ha i (by omega) with ⟨h1, h2⟩ | ⟨h1, h2⟩
    · left; rw [h1, h2]
      refine ⟨rfl, ?_⟩
      rw [if_pos (by omega)]
    · rw [h1]
      simp only
      rcases ht with ⟨h3, h4⟩ | ⟨h3, h4, h5⟩
      · left; rw [h3, h4]
        refine ⟨by rw [if_pos (.inl (by omega))], ?_⟩
        split <;> omega
      · rw [h3]
        by_cases hbig : 1000000000000000000 < raoSum k a i + termS a (binM k i) i
        · left; rw [if_pos (.inr hbig)]
          refine ⟨rfl, ?_⟩
          split <;> omega
        · right; rw [if_neg (by omega), if_neg (by omega)]
          exact ⟨rfl, by omega⟩

theorem rao_law (k t : Nat) (a : Int) (hk : 1 ≤ k) (hk' : k ≤ 30) (ha : 1 ≤ a) (ht : t ≤ k) :
    (1000000000000000000 < raoAll k a t ∧ raoOfAll k a t < 0) ∨ (raoAll k a t = raoOfAll k a t ∧ 0 ≤ raoOfAll k a t ∧ raoAll k a t ≤ 1000000000000000000) := by
  have hs := sum_law k a hk' ha (t / 2 + 1) (by omega)
  have hr := raoSum_bound k a hk' ha (t / 2 + 1) (by omega)
  unfold raoAll raoOfAll
  by_cases hodd : t % 2 = 1
  · rw [if_pos hodd]
    have hb := binM_bound (k - 1) (t / 2) (by omega) (by omega)
    have hl := term_law a _ ha hb.1 hb.2 (t / 2 + 1)
    have hl2 := termS_bound a _ ha hb.1 hb.2 (t / 2 + 1)
    have hx : raoXlast k a t = tUp (rpPow a (t / 2 + 1)) (binM (k - 1) (t / 2)) := by unfold raoXlast; rw [bin_pas (k - 1) (t / 2) (by omega) (by omega)]
    rcases hs with ⟨h1, h2⟩ | ⟨h1, h2⟩
    · rw [h1]; left; simp only; omega
    · rw [h1]; simp only; rw [if_pos hodd, hx]
      rcases hl with ⟨h3, h4⟩ | ⟨h3, h4, h5⟩
      · left; rw [h3, h4, if_pos (.inl (by omega))]; omega
      · rw [h3]
        by_cases hbig : 1000000000000000000 < raoSum k a (t / 2 + 1) + termS a (binM (k - 1) (t / 2)) (t / 2 + 1)
        · left; rw [if_pos (.inr hbig)]; omega
        · right; rw [if_neg (by omega)]; omega
  · rw [if_neg hodd]
    rcases hs with ⟨h1, h2⟩ | ⟨h1, h2⟩
    · rw [h1]; left; simp only; omega
    · rw [h1]; right; simp only; rw [if_neg hodd]; omega

end Go.Proofs.Ytfggmgfobcgadaa
