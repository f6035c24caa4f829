/- Sylvester's, Paley's and products are Hadamard matrices; the excess of a product. -/
import Derived.Test.YtkdbdlkkjkiijaaPaleySigns
import Derived.Test.YtkdbdlkkjkiijaaProduct
import Derived.Test.YtkdbdlkkjkiijaaEvenLaw
import Derived.Test.YtkdbdlkkjkiijaaHadaLaw
namespace Go.Proofs.Ytkdbdlkkjkiijaa
open Go.RowKit

theorem nth_flat {n : Nat} (cell : Nat → Nat → Int) {i j : Nat} (hi : i < n) (hj : j < n) : nth (tab (flat n cell) (n * n)) (i * n + j) = cell i j := by
  rw [nth_tab _ _ _ (place_lt hi hj), flat_at _ hj]
theorem isMat_flat {n : Nat} {cell : Nat → Nat → Int} (h1 : 1 ≤ n) (h2 : n ≤ 24) (hs : ∀ i j, i < n → j < n → cell i j = 1 ∨ cell i j = -1) : IsMat n (tab (flat n cell) (n * n)) :=
  ⟨h1, h2, tab_length _ _, fun x hx => by
    obtain ⟨p, hp, rfl⟩ := mem_nth _ _ hx
    rw [tab_length] at hp
    obtain ⟨i, j, hi, hj, rfl⟩ := place_split h1 hp
    rw [nth_flat cell hi hj]; exact hs i j hi hj⟩
theorem dot_flat {n : Nat} {cell : Nat → Nat → Int} {i k : Nat} (hi : i < n) (hk : k < n) : dotTo (tab (flat n cell) (n * n)) n i k n = sumN (fun j => cell i j * cell k j) n := by
  rw [dotTo_sum]
  exact sumN_congr fun j hj => by rw [nth_flat cell hi hj, nth_flat cell hk hj]

theorem syl_dots : ∀ n, n = 1 ∨ n = 2 ∨ n = 4 ∨ n = 8 ∨ n = 16 → ∀ i, i < n → ∀ k, k < i → sumN (fun j => sylCell i j * sylCell k j) n = 0 := by
  rintro n (rfl | rfl | rfl | rfl | rfl) <;> decide +kernel
theorem pow_five {k : Nat} (h : k ≤ 4) : 2 ^ k = 1 ∨ 2 ^ k = 2 ∨ 2 ^ k = 4 ∨ 2 ^ k = 8 ∨ 2 ^ k = 16 := by
  match k, h with
  | 0, _ => simp
  | 1, _ => simp
  | 2, _ => simp
  | 3, _ => simp
  | 4, _ => simp
theorem sgB_sign (b : Bool) : sgB b = 1 ∨ sgB b = -1 := by cases b <;> simp [sgB]
theorem syl_mat {k : Nat} (hk : k ≤ 4) : IsMat (2 ^ k) (tab (flat (2 ^ k) sylCell) (2 ^ k * 2 ^ k)) ∧ Orth (2 ^ k) (tab (flat (2 ^ k) sylCell) (2 ^ k * 2 ^ k)) := by
  have h5 := pow_five hk
  refine ⟨isMat_flat (by omega) (by omega) fun i j _ _ => sgB_sign _, fun i j hi hj => ?_⟩
  rw [dot_flat hi (by omega)]
  exact syl_dots _ h5 i hi j hj

theorem pal_dots : ∀ p, p = 3 ∨ p = 7 ∨ p = 11 ∨ p = 19 ∨ p = 23 → ∀ i, i < p + 1 → ∀ k, k < i → sumN (fun j => palCell p i j * palCell p k j) (p + 1) = 0 := by
  rintro p (rfl | rfl | rfl | rfl | rfl) <;> decide +kernel
theorem palCell_sign (p i j : Nat) : palCell p i j = 1 ∨ palCell p i j = -1 := by
  unfold palCell; split <;> exact sgB_sign _
theorem pal_mat {p : Nat} (hp : p = 3 ∨ p = 7 ∨ p = 11 ∨ p = 19 ∨ p = 23) : IsMat (p + 1) (tab (flat (p + 1) (palCell p)) ((p + 1) * (p + 1))) ∧ Orth (p + 1) (tab (flat (p + 1) (palCell p)) ((p + 1) * (p + 1))) := by
  refine ⟨isMat_flat (by omega) (by omega) fun i j _ _ => palCell_sign p i j, fun i j hi hj => ?_⟩
  rw [dot_flat hi (by omega)]
  exact pal_dots p hp i hi j hj

theorem sumN_split (f g : Nat → Int) (n m : Nat) : sumN (fun j => f (j / m) * g (j % m)) (n * m) = sumN f n * sumN g m := by
  rw [sumN_rows, mul_sumN]
  exact sumN_congr fun i hi => sumN_congr fun j hj => by rw [div_at hj, mod_at hj]

theorem prod_dot {n m : Nat} {xs ys : List Int} (i k : Nat) :
    sumN (fun j => prodCell xs ys n m i j * prodCell xs ys n m k j) (n * m) = dotTo xs n (i / m) (k / m) n * dotTo ys m (i % m) (k % m) m := by
  rw [dotTo_sum, dotTo_sum, ← sumN_split _ _ n m]
  exact sumN_congr fun j hj => by
    unfold prodCell
    generalize nth xs (i / m * n + j / m) = a
    generalize nth xs (k / m * n + j / m) = b
    generalize nth ys (i % m * m + j % m) = c
    generalize nth ys (k % m * m + j % m) = d
    grind

theorem prod_mat {n m : Nat} {xs ys : List Int} (hx : IsMat n xs) (ox : Orth n xs) (hy : IsMat m ys) (oy : Orth m ys) (hb : ¬ 24 < n * m) :
    IsMat (n * m) (tab (flat (n * m) (prodCell xs ys n m)) ((n * m) * (n * m))) ∧ Orth (n * m) (tab (flat (n * m) (prodCell xs ys n m)) ((n * m) * (n * m))) := by
  have m1 := hy.one
  refine ⟨isMat_flat (Nat.mul_pos hx.one m1) (by omega) fun i j hi hj => ?_, fun i k hi hk => ?_⟩
  · exact sign_mul (nth_sign hx _ (place_lt (div_lt hi) (div_lt hj))) (nth_sign hy _ (place_lt (Nat.mod_lt _ m1) (Nat.mod_lt _ m1)))
  · have hk' : k < n * m := by omega
    rw [dot_flat hi hk', prod_dot, dot_all hx ox _ _ (div_lt hi) (div_lt hk'), dot_all hy oy _ _ (Nat.mod_lt _ m1) (Nat.mod_lt _ m1)]
    by_cases h1 : i / m = k / m
    · have h2 : i % m ≠ k % m := fun h2 => by
        have e1 := Nat.div_add_mod i m
        have e2 := Nat.div_add_mod k m
        rw [h1, h2] at e1; omega
      rw [if_neg h2, Int.mul_zero]
    · rw [if_neg h1, Int.zero_mul]

theorem prod_sum {n m : Nat} {xs ys : List Int} :
    sumTo (tab (flat (n * m) (prodCell xs ys n m)) ((n * m) * (n * m))) ((n * m) * (n * m)) = sumTo xs (n * n) * sumTo ys (m * m) := by
  rw [sumTo_sum, sumTo_sum, sumTo_sum, sumN_rows, sumN_rows (nth xs), sumN_rows (nth ys), ← sumN_split _ _ n m]
  exact sumN_congr fun i hi => by
    rw [← sumN_split _ _ n m]
    exact sumN_congr fun j hj => by rw [nth_flat _ hi hj]; rfl

end Go.Proofs.Ytkdbdlkkjkiijaa
