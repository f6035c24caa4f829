/- Where each two have just one friend in common somebody is everybody's: plain. -/
import Derived.Test.YtllfccfpoigigaaRealLaw
namespace Go.Proofs.Ytllfccfpoigigaa
open Go.RowKit

theorem sumN_le {f g : Nat → Int} : ∀ {n : Nat}, (∀ y, y < n → f y ≤ g y) → sumN f n ≤ sumN g n
  | 0, _ => Int.le_refl _
  | n + 1, h => by
    have h1 := sumN_le (n := n) (f := f) (g := g) (fun y hy => h y (by omega))
    have h2 := h n (by omega)
    rw [sumN, sumN]; omega
theorem sumN_two {f : Nat → Int} {n v w : Nat} (hf : ∀ y, y < n → 0 ≤ f y) (hv : v < n) (hw : w < n) (hne : v ≠ w) : f v + f w ≤ sumN f n := by
  have h1 := sumN_le (n := n) (f := fun y => f y * (if y = v then 1 else 0) + f y * (if y = w then 1 else 0)) (g := f) (fun y hy => by
    have := hf y hy
    show f y * (if y = v then 1 else 0) + f y * (if y = w then 1 else 0) ≤ f y
    by_cases e1 : y = v
    · rw [if_pos e1, if_neg (by omega)]; omega
    · rw [if_neg e1]
      by_cases e2 : y = w
      · rw [if_pos e2]; omega
      · rw [if_neg e2]; omega)
  rw [sumN_add, sumN_delta, sumN_delta, if_pos hv, if_pos hw] at h1
  exact h1

/-- Each two have one friend in common. -/
theorem one_com {xs : List Int} {n : Nat} (ho : OneUpto xs n n) {i j : Nat} (hi : i < n) (hj : j < n) (hne : i ≠ j) : comTo xs n i j n = 1 := by
  rcases Nat.lt_or_gt_of_ne hne with h | h
  · rw [com_swap]; exact ho j i hj h
  · exact ho i j hi h
theorem one_com_all {xs : List Int} {n : Nat} (ho : OneUpto xs n n) {i j : Nat} (hi : i < n) (hj : j < n) : comTo xs n i j n = 1 + (comTo xs n i i n - 1) * (if j = i then 1 else 0) := by
  by_cases h : j = i
  · subst h; rw [if_pos rfl]; omega
  · rw [if_neg h, one_com ho hi hj (fun e => h e.symm)]; omega
/-- Who are not joined have as many friends. -/
theorem alike_deg {xs : List Int} {n : Nat} (h : IsTab n xs) (hs : IsSym n xs) (ho : OneUpto xs n n) {i j : Nat} (hi : i < n) (hj : j < n) (hne : comTo xs n i i n ≠ comTo xs n j j n) : nth xs (i * n + j) = 1 := by
  have e1 : sumN (fun t => nth xs (i * n + t) * comTo xs n t j n) n = comTo xs n i i n + nth xs (i * n + j) * (comTo xs n j j n - 1) := by
    rw [sumN_congr (g := fun t => nth xs (i * n + t) + (comTo xs n j j n - 1) * (nth xs (i * n + t) * (if t = j then 1 else 0))) (fun t ht => by
      rw [com_swap, one_com_all ho hj ht]; grind), sumN_add, sumN_mul, sumN_delta, if_pos hj, row_sum h hi]
    grind
  have e2 : sumN (fun t => nth xs (j * n + t) * comTo xs n t i n) n = comTo xs n j j n + nth xs (j * n + i) * (comTo xs n i i n - 1) := by
    rw [sumN_congr (g := fun t => nth xs (j * n + t) + (comTo xs n i i n - 1) * (nth xs (j * n + t) * (if t = i then 1 else 0))) (fun t ht => by
      rw [com_swap, one_com_all ho hi ht]; grind), sumN_add, sumN_mul, sumN_delta, if_pos hi, row_sum h hj]
    grind
  have e3 : sumN (fun t => nth xs (i * n + t) * comTo xs n t j n) n = sumN (fun t => nth xs (j * n + t) * comTo xs n t i n) n := by
    rw [sumN_congr (g := fun t => sumN (fun s => nth xs (i * n + t) * (nth xs (t * n + s) * nth xs (j * n + s))) n) (fun t _ => by rw [com_sum, sumN_mul])]
    rw [sumN_swap]
    refine sumN_congr fun s hs' => ?_
    rw [com_sum, ← sumN_mul]
    exact sumN_congr fun t ht => by rw [sym_at hs ht hs']; grind
  rw [e1, e2, ← sym_at hs hi hj] at e3
  rcases nth_bit h _ (place_lt hi hj) with hb | hb
  · rw [hb] at e3; omega
  · exact hb

theorem small_root {r d : Int} (h1 : 1 ≤ r) (h : r * r = d) (hd : d ≤ 16) : r = 1 ∨ r = 2 ∨ r = 3 ∨ r = 4 := by
  have h5 : r ≤ 4 := by
    by_cases h5 : r ≤ 4
    · exact h5
    · have := Int.mul_le_mul (show (5 : Int) ≤ r by omega) (show (5 : Int) ≤ r by omega) (by omega) (by omega)
      omega
  omega

theorem friend_law {xs : List Int} {n : Nat} (h : IsTab n xs) (hs : IsSym n xs) (ho : OneUpto xs n n) : ∃ a, a < n ∧ comTo xs n a a n = (n : Int) - 1 := by
  have h1 := h.one
  by_cases hreg : ∀ i, i < n → comTo xs n i i n = comTo xs n 0 0 n
  · obtain ⟨k, hk⟩ : ∃ k, comTo xs n 0 0 n = k := ⟨_, rfl⟩
    rw [hk] at hreg
    have H : StrongAre xs n k 1 1 := ⟨h, hs, hreg, fun i hi j hj => by rw [one_com_all ho hi hj, hreg i hi]; omega⟩
    have hb := all_com h hs h1 n (Nat.le_refl _)
    rw [if_pos (by omega), hk] at hb
    have hb2 := (comTo_bound h 0 0 h1 h1 n (Nat.le_refl _)).1
    rw [hk] at hb2
    by_cases hu : k = (n : Int) - 1
    · exact ⟨0, h1, by rw [hk]; exact hu⟩
    · exfalso
      have hcount := H.count
      have h24 := h.big
      have hk5 : k ≤ 5 := by
        by_cases h5 : k ≤ 5
        · exact h5
        · have := Int.mul_le_mul_of_nonneg_left (show (4 : Int) ≤ k - 1 - 1 by omega) (show 0 ≤ k by omega)
          omega
      have hc : k = 0 ∨ k = 1 ∨ k = 2 ∨ k = 3 ∨ k = 4 ∨ k = 5 := by omega
      have hfit : 2 ≤ k → _ := fun h2 => H.fits (by omega) (by omega) (by omega) (by omega) (by omega) (by omega) (fun e => by omega)
      rcases hc with rfl | rfl | rfl | rfl | rfl | rfl
      · omega
      · omega
      · omega
      · rcases hfit (by omega) with ⟨h5, _⟩ | ⟨r, y, r1, r2, r3, _⟩
        · omega
        · rcases small_root r1 r2 (by omega) with rfl | rfl | rfl | rfl <;> omega
      · rcases hfit (by omega) with ⟨h5, _⟩ | ⟨r, y, r1, r2, r3, _⟩
        · omega
        · rcases small_root r1 r2 (by omega) with rfl | rfl | rfl | rfl <;> omega
      · rcases hfit (by omega) with ⟨h5, _⟩ | ⟨r, y, r1, r2, r3, _⟩
        · omega
        · rcases small_root r1 r2 (by omega) with rfl | rfl | rfl | rfl <;> omega
  · obtain ⟨v, hv⟩ := Classical.not_forall.1 hreg
    obtain ⟨hv1, hv2⟩ := Classical.not_imp.1 hv
    by_cases hone : ∀ s, s < n → s ≠ 0 → comTo xs n s s n ≠ comTo xs n 0 0 n
    · refine ⟨0, h1, (all_iff h hs h1).1 fun q hq hq0 => ?_⟩
      rw [alike_deg h hs ho h1 hq (fun e => hone q hq hq0 e.symm)]
      decide
    · obtain ⟨s, hs'⟩ := Classical.not_forall.1 hone
      obtain ⟨hs1, hs2⟩ := Classical.not_imp.1 hs'
      obtain ⟨hs3, hs4⟩ := Classical.not_imp.1 hs2
      have hs5 : comTo xs n s s n = comTo xs n 0 0 n := Classical.not_not.1 hs4
      refine ⟨v, hv1, (all_iff h hs hv1).1 fun q hq hqv => ?_⟩
      by_cases hq2 : comTo xs n q q n = comTo xs n 0 0 n
      · rw [alike_deg h hs ho hv1 hq (by rw [hq2]; exact hv2)]
        decide
      · exfalso
        have a1 := alike_deg h hs ho h1 hv1 (fun e => hv2 e.symm)
        have a2 := alike_deg h hs ho h1 hq (fun e => hq2 e.symm)
        have a3 := alike_deg h hs ho hs1 hv1 (fun e => hv2 (by rw [← e, hs5]))
        have a4 := alike_deg h hs ho hs1 hq (fun e => hq2 (by rw [← e, hs5]))
        have hcm := one_com ho h1 hs1 (fun e => hs3 e.symm)
        rw [com_sum] at hcm
        have h2 := sumN_two (f := fun t => nth xs (0 * n + t) * nth xs (s * n + t)) (n := n) (v := q) (w := v) (fun y hy => by
          show 0 ≤ nth xs (0 * n + y) * nth xs (s * n + y)
          rcases nth_bit h _ (place_lt h1 hy) with b1 | b1 <;> rcases nth_bit h _ (place_lt hs1 hy) with b2 | b2 <;> rw [b1, b2] <;> decide) hq hv1 hqv
        rw [hcm] at h2
        have h3 : nth xs (0 * n + q) * nth xs (s * n + q) + nth xs (0 * n + v) * nth xs (s * n + v) ≤ 1 := h2
        rw [a1, a2, a3, a4] at h3
        omega

end Go.Proofs.Ytllfccfpoigigaa
