/- The plain laws of a matrix made even. -/
import Derived.Test.YtkgdohoandfaeaaEvenAll
namespace Go.Proofs.Ytkgdohoandfaeaa
open Go.RowKit

/-- The matrix made even. -/
def evenOf (n : Nat) (xs : List Int) : List Int := tab (flat n (evenCell xs n)) (n * n)

theorem evenOf_length (n : Nat) (xs : List Int) : (evenOf n xs).length = n * n := tab_length _ _
theorem at2_evenOf {n : Nat} (xs : List Int) {i j : Nat} (hi : i < n) (hj : j < n) : at2 (evenOf n xs) n i j = evenCell xs n i j := by
  unfold at2 evenOf
  rw [nth_tab _ _ _ (place_lt hi hj), flat_at _ hj]

theorem sign_sq {x : Int} (h : x = 1 ∨ x = -1) : x * x = 1 := by rcases h with rfl | rfl <;> rfl
theorem evenCell_sign {n : Nat} {xs : List Int} (hm : IsMat n xs) {i j : Nat} (hi : i < n) (hj : j < n) : evenCell xs n i j = 1 ∨ evenCell xs n i j = -1 :=
  sign_mul (sign_mul (at2_sign hm hi hj) (at2_sign hm hi (by omega))) (sign_mul (at2_sign hm (by omega) hj) (at2_sign hm (by omega) (by omega)))
theorem evenCell_row {n : Nat} {xs : List Int} (hm : IsMat n xs) {j : Nat} (hj : j < n) : evenCell xs n 0 j = 1 :=
  sign_sq (sign_mul (at2_sign hm (by omega) hj) (at2_sign hm (by omega) (by omega)))
theorem evenCell_col {n : Nat} {xs : List Int} (hm : IsMat n xs) {i : Nat} (hi : i < n) : evenCell xs n i 0 = 1 := by
  unfold evenCell
  rw [sign_sq (at2_sign hm hi (by omega)), sign_sq (at2_sign hm (by omega) (by omega))]; rfl

theorem place_split {n : Nat} {p : Nat} (hn : 0 < n) (hp : p < n * n) : ∃ i j, i < n ∧ j < n ∧ p = i * n + j :=
  ⟨p / n, p % n, Nat.div_lt_of_lt_mul hp, Nat.mod_lt _ hn, by rw [Nat.mul_comm]; exact (Nat.div_add_mod p n).symm⟩

theorem isMat_evenOf {n : Nat} {xs : List Int} (hm : IsMat n xs) : IsMat n (evenOf n xs) :=
  ⟨hm.one, hm.big, evenOf_length n xs, fun x hx => by
    obtain ⟨p, hp, rfl⟩ := mem_nth _ _ hx
    rw [evenOf_length] at hp
    obtain ⟨i, j, hi, hj, rfl⟩ := place_split hm.one hp
    have h := at2_evenOf xs hi hj
    unfold at2 at h
    rw [h]
    exact evenCell_sign hm hi hj⟩

theorem dot_evenOf {n : Nat} {xs : List Int} (hm : IsMat n xs) {i k : Nat} (hi : i < n) (hk : k < n) : ∀ j, j ≤ n → dotTo (evenOf n xs) n i k j = at2 xs n i 0 * at2 xs n k 0 * dotTo xs n i k j
  | 0, _ => by simp [dotTo]
  | j + 1, hj => by
    have h1 := at2_evenOf xs hi (show j < n by omega)
    have h2 := at2_evenOf xs hk (show j < n by omega)
    have h3 : at2 xs n i j = nth xs (i * n + j) := rfl
    have h4 : at2 xs n k j = nth xs (k * n + j) := rfl
    unfold at2 at h1 h2
    rw [dotTo, dotTo, dot_evenOf hm hi hk j (by omega), h1, h2]
    unfold evenCell
    rw [← h3, ← h4]
    have h5 := sign_sq (sign_mul (at2_sign hm (show 0 < n by omega) (show j < n by omega)) (at2_sign hm (show 0 < n by omega) (show 0 < n by omega)))
    generalize at2 xs n 0 j * at2 xs n 0 0 = r at *
    generalize at2 xs n i j = a at *
    generalize at2 xs n k j = b at *
    generalize at2 xs n i 0 = c at *
    generalize at2 xs n k 0 = d at *
    generalize dotTo xs n i k j = s at *
    grind

theorem orth_evenOf {n : Nat} {xs : List Int} (hm : IsMat n xs) (ho : Orth n xs) : Orth n (evenOf n xs) := by
  intro i k hi hk
  rw [dot_evenOf hm hi (by omega) n (Nat.le_refl _), ho i k hi hk, Int.mul_zero]

theorem evenOf_twice {n : Nat} {xs : List Int} (hm : IsMat n xs) : evenOf n (evenOf n xs) = evenOf n xs := by
  apply nth_ext
  · rw [evenOf_length, evenOf_length]
  · intro p hp
    rw [evenOf_length] at hp
    obtain ⟨i, j, hi, hj, rfl⟩ := place_split hm.one hp
    have h1 := at2_evenOf (evenOf n xs) hi hj
    have h2 := at2_evenOf xs hi hj
    unfold at2 at h1 h2
    rw [h1, h2]
    unfold evenCell
    rw [at2_evenOf xs hi hj, at2_evenOf xs hi (show 0 < n by omega), at2_evenOf xs (show 0 < n by omega) hj, at2_evenOf xs (show 0 < n by omega) (show 0 < n by omega), evenCell_col hm hi, evenCell_row hm hj, evenCell_row hm (show 0 < n by omega)]
    unfold evenCell
    simp

end Go.Proofs.Ytkgdohoandfaeaa
