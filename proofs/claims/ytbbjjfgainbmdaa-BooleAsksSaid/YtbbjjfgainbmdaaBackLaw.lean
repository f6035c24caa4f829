/- Plain law: Back and BackOf say the same of a list of 2 to the power of k numbers. -/
import Derived.Test.YtbbjjfgainbmdaaBackOf
namespace Go.Proofs.Ytbbjjfgainbmdaa
open Go.RowKit

theorem bit_eq (s u : Nat) : bit s u = if u.testBit s then 1 else 0 := by
  unfold bit
  rw [Nat.testBit_eq_decide_div_mod_eq]
  by_cases h : u / 2 ^ s % 2 = 1
  · simp [h]
  · simp [h]; omega

theorem bit_and (s a x : Nat) : bit s (a &&& x) = bit s a * bit s x := by
  rw [bit_eq, bit_eq, bit_eq, Nat.testBit_and]
  cases a.testBit s <;> cases x.testBit s <;> simp

/-- How many of the t lowest bits are 1, from the lowest on. -/
def wtS : Nat → Nat → Nat
  | 0, _ => 0
  | t + 1, u => wtS t u + bit t u
theorem bit_succ (s u : Nat) : bit (s + 1) u = bit s (u / 2) := by
  unfold bit; rw [Nat.pow_succ, Nat.mul_comm, ← Nat.div_div_eq_div_mul]
theorem wtS_shift : ∀ t u, wtS (t + 1) u = u % 2 + wtS t (u / 2)
  | 0, u => by simp [wtS, bit]
  | t + 1, u => by rw [wtS, wtS_shift t u, bit_succ, wtS]; omega
theorem wtF_eq : ∀ t u, wtF t u = wtS t u
  | 0, _ => rfl
  | t + 1, u => by rw [wtF, wtF_eq t, wtS_shift]
theorem wtS_small (k u : Nat) (h : u < 2 ^ k) : ∀ d, wtS (k + d) u = wtS k u
  | 0 => rfl
  | d + 1 => by
    have hb : bit (k + d) u = 0 := by
      unfold bit
      rw [Nat.div_eq_of_lt (Nat.lt_of_lt_of_le h (Nat.pow_le_pow_right (by omega) (by omega)))]
    rw [← Nat.add_assoc, wtS, wtS_small k u h d, hb]
    rfl
theorem wt_eq (k u : Nat) (hk : k ≤ 8) (h : u < 2 ^ k) : wt u = wtS k u := by
  have := wtS_small k u h (8 - k)
  rw [show k + (8 - k) = 8 by omega] at this
  rw [wt, wtF_eq, this]

theorem kern_wtS : ∀ t a x, kern sg t a x = if wtS t (a &&& x) % 2 = 0 then 1 else -1
  | 0, _, _ => rfl
  | t + 1, a, x => by
    rw [kern, kern_wtS t, wtS, bit_and]
    rcases bit_cases t a with h1 | h1 <;> rcases bit_cases t x with h2 | h2 <;> rw [h1, h2]
    · simp [sg]
    · simp [sg]
    · simp [sg]
    · simp only [sg, and_self, if_true]
      by_cases h : wtS t (a &&& x) % 2 = 0
      · rw [if_pos h, if_neg (by omega)]; rfl
      · rw [if_neg h, if_pos (by omega)]; rfl
theorem kern_wt (k a x : Nat) (hk : k ≤ 8) (ha : a < 2 ^ k) : kern sg k a x = if wt (a &&& x) % 2 = 0 then 1 else -1 := by
  rw [kern_wtS, wt_eq k _ hk (Nat.lt_of_le_of_lt Nat.and_le_left ha)]

theorem acc_sum (f : Nat → Int) (st : Nat → Int → Int) (h : ∀ x s, st x s = s + f x) : ∀ n, acc st 0 n = sumN f n
  | 0 => rfl
  | n + 1 => by rw [acc, h, acc_sum f st h n, sumN]

theorem spAcc_spec (t : List Int) (k a : Nat) (hk : k ≤ 8) (ha : a < 2 ^ k) (h01 : ∀ i, nth t i = 0 ∨ nth t i = 1) : spAcc t a (2 ^ k) = spec t k a := by
  unfold spAcc spec
  refine acc_sum _ _ (fun x s => ?_) _
  rw [spStep, kern_wt k a x hk ha]
  rcases h01 x with h | h <;> rw [h] <;> by_cases hp : wt (a &&& x) % 2 = 0
  · rw [if_pos (by omega), if_pos hp]; rfl
  · rw [if_neg (by omega), if_neg hp]; omega
  · rw [if_neg (by omega), if_pos hp]; omega
  · rw [if_pos (by omega), if_neg hp]; omega

theorem bkAcc_mix (xs : List Int) (k x : Nat) (hk : k ≤ 8) (hx : x < 2 ^ k) : bkAcc xs x (2 ^ k) = mix sg (nth xs) k x := by
  rw [mix_all _ _ _ _ hx]
  unfold bkAcc
  refine acc_sum _ _ (fun a s => ?_) _
  rw [bkStep, Nat.and_comm, kern_wt k x a hk hx]
  by_cases hp : wt (x &&& a) % 2 = 0
  · rw [if_pos hp, if_pos hp]; omega
  · rw [if_neg hp, if_neg hp]; omega

theorem spTab_spec (t : List Int) (k : Nat) (hk : k ≤ 8) (h01 : ∀ i, nth t i = 0 ∨ nth t i = 1) : spTab t (2 ^ k) = tab (spec t k) (2 ^ k) :=
  tab_congr fun a ha => spAcc_spec t k a hk ha h01

/-- Where all are n or -n. -/
theorem back_law_yes (xs : List Int) (k : Nat) (hk : k ≤ 8) (hx : xs.length = 2 ^ k) (h : ∀ j, j < 2 ^ k → mix sg (nth xs) k j = ((2 ^ k : Nat) : Int) ∨ mix sg (nth xs) k j = -((2 ^ k : Nat) : Int)) :
    tab (fun j => bitOf ((2 ^ k : Nat) : Int) (mix sg (nth xs) k j)) (2 ^ k) = bkTab xs (2 ^ k) ∧ spTab (bkTab xs (2 ^ k)) (2 ^ k) = xs := by
  have hP := two_pow_pos k
  have e1 : tab (fun j => bitOf ((2 ^ k : Nat) : Int) (mix sg (nth xs) k j)) (2 ^ k) = bkTab xs (2 ^ k) := by
    refine tab_congr fun j hj => ?_
    rw [bkBit, bkAcc_mix xs k j hk hj, bitOf]
    rcases h j hj with h1 | h1 <;> rw [h1]
    · rw [if_pos rfl, if_neg (by omega)]
    · rw [if_neg (by omega), if_pos (by omega)]
  refine ⟨e1, ?_⟩
  rw [spTab_spec _ k hk (bkTab01 _ _)]
  apply nth_ext
  · rw [tab_length, hx]
  · intro a ha
    rw [tab_length] at ha
    rw [nth_tab _ _ _ ha]
    have e2 : ((2 ^ k : Nat) : Int) * spec (bkTab xs (2 ^ k)) k a = 2 ^ k * nth xs a := by
      rw [← spec_back (nth xs) k a ha, spec, ← sumN_mul]
      refine sumN_congr fun x hx' => ?_
      rw [← mix_all sg (nth xs) k x hx', ← e1, nth_tab _ _ _ hx', bitOf, Int.mul_left_comm]
      congr 1
      rcases h x hx' with h1 | h1 <;> rw [h1]
      · rw [if_pos rfl]; omega
      · rw [if_neg (by omega)]; omega
    have e3 : ((2 ^ k : Nat) : Int) = 2 ^ k := by simp
    rw [e3] at e2
    exact Int.eq_of_mul_eq_mul_left (by rw [← e3]; omega) e2

theorem back_law_no (xs : List Int) (k : Nat) (hk : k ≤ 8) (h : ∃ j, j < 2 ^ k ∧ mix sg (nth xs) k j ≠ ((2 ^ k : Nat) : Int) ∧ mix sg (nth xs) k j ≠ -((2 ^ k : Nat) : Int)) :
    spTab (bkTab xs (2 ^ k)) (2 ^ k) ≠ xs := by
  intro he
  obtain ⟨j, hj, h1, h2⟩ := h
  have e3 : ((2 ^ k : Nat) : Int) = 2 ^ k := by simp
  have hm : mix sg (nth xs) k j = 2 ^ k * (1 - 2 * nth (bkTab xs (2 ^ k)) j) := by
    rw [mix_all _ _ _ _ hj, ← spec_back (fun x => 1 - 2 * nth (bkTab xs (2 ^ k)) x) k j hj]
    refine sumN_congr fun a ha => ?_
    have : nth xs a = spec (bkTab xs (2 ^ k)) k a := by
      rw [spTab_spec _ k hk (bkTab01 _ _)] at he
      have := congrArg (fun l => nth l a) he
      rw [nth_tab _ _ _ ha] at this
      exact this.symm
    rw [this]; rfl
  rw [← e3] at hm
  rcases bkTab01 xs (2 ^ k) j with h0 | h0 <;> rw [h0] at hm
  · exact h1 (by rw [hm]; omega)
  · exact h2 (by rw [hm]; omega)

end Go.Proofs.Ytbbjjfgainbmdaa
