/- The numbers of spaces, as the program counts them, follow Pascal's rule: reckoned by the kernel. Conditions: 2 ≤ q ≤ 64, k ≤ n ≤ 30. -/
import Derived.Test.YthkafhmciapipaaDoorJSpaceNormalBA
namespace Go.Proofs.YthkafhmciapipaaDoor
open Go.RowKit

def pasAt (x a b pw : Int) : Bool := decide (1000000000000000000 < x) || (decide (x = a * pw + b) && decide (0 ≤ a) && decide (a ≤ 1000000000000000000) && decide (0 ≤ b) && decide (b ≤ 1000000000000000000))
/-- The entries behind the first, by the row ahead. -/
def pasL (q pw : Int) : List Int → List Int → Bool
  | [], [] => true
  | [x], [_] => decide (x = 1)
  | x :: xs, b :: a :: ps => pasAt x a b pw && pasL q (pw * q) xs (a :: ps)
  | _, _ => false
def pasRow (q : Int) (prev : List Int) : List Int → Bool
  | [] => false
  | x :: xs => decide (x = 1) && pasL q q xs prev
def pasN (q : Int) (n : Nat) : Bool := decide (gaRow q n = (gaRow q n).reverse) && (n == 0 || pasRow q (gaRow q (n - 1)) (gaRow q n))
def pasQ (q : Int) : Bool := (List.range 31).all (pasN q) && (List.range 30).all (fun j => decide (gaP q j ≠ 0))
def pasFrom (a n : Nat) : Bool := (List.range n).all fun i => pasQ ((a + i : Nat) : Int)
set_option maxRecDepth 100000
theorem pas2 : pasFrom 2 8 = true := by decide +kernel
theorem pas10 : pasFrom 10 8 = true := by decide +kernel
theorem pas18 : pasFrom 18 8 = true := by decide +kernel
theorem pas26 : pasFrom 26 8 = true := by decide +kernel
theorem pas34 : pasFrom 34 8 = true := by decide +kernel
theorem pas42 : pasFrom 42 8 = true := by decide +kernel
theorem pas50 : pasFrom 50 8 = true := by decide +kernel
theorem pas58 : pasFrom 58 7 = true := by decide +kernel

theorem pasFrom_get (a n i : Nat) (h : pasFrom a n = true) (hi : i < n) : pasQ ((a + i : Nat) : Int) = true := by
  unfold pasFrom at h
  rw [List.all_eq_true] at h
  exact h i (List.mem_range.2 hi)
theorem pasQ_all (q : Nat) (h1 : 2 ≤ q) (h2 : q ≤ 64) : pasQ (q : Int) = true := by
  by_cases h : q < 10
  · have := pasFrom_get 2 8 (q - 2) pas2 (by omega); rwa [show 2 + (q - 2) = q by omega] at this
  by_cases h : q < 18
  · have := pasFrom_get 10 8 (q - 10) pas10 (by omega); rwa [show 10 + (q - 10) = q by omega] at this
  by_cases h : q < 26
  · have := pasFrom_get 18 8 (q - 18) pas18 (by omega); rwa [show 18 + (q - 18) = q by omega] at this
  by_cases h : q < 34
  · have := pasFrom_get 26 8 (q - 26) pas26 (by omega); rwa [show 26 + (q - 26) = q by omega] at this
  by_cases h : q < 42
  · have := pasFrom_get 34 8 (q - 34) pas34 (by omega); rwa [show 34 + (q - 34) = q by omega] at this
  by_cases h : q < 50
  · have := pasFrom_get 42 8 (q - 42) pas42 (by omega); rwa [show 42 + (q - 42) = q by omega] at this
  by_cases h : q < 58
  · have := pasFrom_get 50 8 (q - 50) pas50 (by omega); rwa [show 50 + (q - 50) = q by omega] at this
  · have := pasFrom_get 58 7 (q - 58) pas58 (by omega); rwa [show 58 + (q - 58) = q by omega] at this
theorem pas_all (q : Int) (hq : 2 ≤ q) (hq' : q ≤ 64) : pasQ q = true := by
  have h := pasQ_all q.toNat (by omega) (by omega)
  rwa [show ((q.toNat : Nat) : Int) = q by omega] at h
theorem gaP_ne' (q : Int) (hq : 2 ≤ q) (hq' : q ≤ 64) : ∀ j, j < 30 → gaP q j ≠ 0 := by
  intro j hj
  have h := pas_all q hq hq'
  unfold pasQ at h
  rw [Bool.and_eq_true, List.all_eq_true, List.all_eq_true] at h
  exact of_decide_eq_true (h.2 j (List.mem_range.2 hj))

theorem pasL_get (q : Int) : ∀ (i : Nat) (pw : Int) (xs ps : List Int), pasL q pw xs ps = true → i + 1 < xs.length → pasAt (nth xs i) (nth ps (i + 1)) (nth ps i) (pw * q ^ i) = true
  | _, _, [], _, _, h => by simp at h
  | _, _, [_], _, _, h => by simp at h
  | i, pw, x :: y :: xs, [], h, _ => by simp [pasL] at h
  | i, pw, x :: y :: xs, [b], h, _ => by simp [pasL] at h
  | 0, pw, x :: y :: xs, b :: a :: ps, h, _ => by
    rw [pasL, Bool.and_eq_true] at h
    rw [Int.pow_zero, Int.mul_one]
    exact h.1
  | i + 1, pw, x :: y :: xs, b :: a :: ps, h, hi => by
    rw [pasL, Bool.and_eq_true] at h
    have := pasL_get q i (pw * q) (y :: xs) (a :: ps) h.2 (by simp at hi ⊢; omega)
    rw [show pw * q ^ (i + 1) = pw * q * q ^ i by rw [Int.pow_succ, Int.mul_comm (q ^ i), Int.mul_assoc]]
    exact this
theorem pasL_end (q : Int) : ∀ (pw : Int) (xs ps : List Int), pasL q pw xs ps = true → xs ≠ [] → nth xs (xs.length - 1) = 1
  | _, [], _, _, h => absurd rfl h
  | pw, [x], ps, h, _ => by
    match ps, h with
    | [], h => simp [pasL] at h
    | [_], h => simp [pasL] at h; subst h; rfl
    | _ :: _ :: _, h => simp [pasL] at h
  | pw, x :: y :: xs, [], h, _ => by simp [pasL] at h
  | pw, x :: y :: xs, [b], h, _ => by simp [pasL] at h
  | pw, x :: y :: xs, b :: a :: ps, h, _ => by
    rw [pasL, Bool.and_eq_true] at h
    exact pasL_end q (pw * q) (y :: xs) (a :: ps) h.2 (by simp)

/-- The law of the numbers. -/
theorem pascal_law (n k : Nat) (q : Int) (hn : n ≤ 30) (hk : k ≤ n) (hq : 2 ≤ q) (hq' : q ≤ 64) (hg : nth (gaRow q n) k ≤ 1000000000000000000) :
    nth (gaRow q n) (n - k) = nth (gaRow q n) k ∧ ((k = 0 ∨ k = n) → nth (gaRow q n) k = 1) ∧
    (k ≠ 0 → k ≠ n → nth (gaRow q n) k = nth (gaRow q (n - 1)) k * q ^ k + nth (gaRow q (n - 1)) (k - 1) ∧ 0 ≤ nth (gaRow q (n - 1)) k ∧ nth (gaRow q (n - 1)) k ≤ 1000000000000000000 ∧ 0 ≤ nth (gaRow q (n - 1)) (k - 1) ∧ nth (gaRow q (n - 1)) (k - 1) ≤ 1000000000000000000) := by
  have h := pas_all q hq hq'
  unfold pasQ at h
  rw [Bool.and_eq_true, List.all_eq_true] at h
  have h1 := h.1 n (List.mem_range.2 (by omega))
  unfold pasN at h1
  rw [Bool.and_eq_true, decide_eq_true_eq, Bool.or_eq_true] at h1
  obtain ⟨h2, h3⟩ := h1
  have hl := gaRow_length q n
  refine ⟨?_, fun h0 => ?_, fun h0 hkn => ?_⟩
  · have e : nth (gaRow q n) (n - k) = nth (gaRow q n).reverse (n - k) := by rw [← h2]
    rw [e, nth_eq _ _ (by rw [List.length_reverse, hl]; omega), nth_eq _ _ (by rw [hl]; omega), List.getElem_reverse]
    congr 1
    omega
  · by_cases hn0 : n = 0
    · subst hn0
      obtain rfl : k = 0 := by omega
      rfl
    · rcases h3 with h3 | h3
      · rw [beq_iff_eq] at h3; omega
      · cases hr : gaRow q n with
        | nil => rw [hr] at hl; simp at hl
        | cons x xs =>
          rw [hr] at h3 hl
          rw [pasRow, Bool.and_eq_true, decide_eq_true_eq] at h3
          rcases h0 with rfl | rfl
          · exact h3.1
          · have h4 := pasL_end q q xs _ h3.2 (by intro e; rw [e] at hl; simp at hl; omega)
            have h5 : xs.length = k := by simpa using hl
            have : nth (x :: xs) k = nth xs (k - 1) := by
              obtain ⟨j, rfl⟩ : ∃ j, k = j + 1 := ⟨k - 1, by omega⟩
              rfl
            rw [this, ← h5]; exact h4
  · rcases h3 with h3 | h3
    · rw [beq_iff_eq] at h3; omega
    · cases hr : gaRow q n with
      | nil => rw [hr] at hl; simp at hl
      | cons x xs =>
        rw [hr] at h3 hl hg
        rw [pasRow, Bool.and_eq_true, decide_eq_true_eq] at h3
        obtain ⟨j, rfl⟩ : ∃ j, k = j + 1 := ⟨k - 1, by omega⟩
        have h5 : xs.length = n := by simpa using hl
        have h4 := pasL_get q j q xs _ h3.2 (by omega)
        have e1 : nth (x :: xs) (j + 1) = nth xs j := rfl
        rw [e1] at hg ⊢
        rw [show q * q ^ j = q ^ (j + 1) by rw [Int.pow_succ, Int.mul_comm]] at h4
        unfold pasAt at h4
        simp only [Bool.or_eq_true, Bool.and_eq_true, decide_eq_true_eq] at h4
        rw [Nat.add_sub_cancel]
        rcases h4 with h4 | h4
        · omega
        · exact ⟨h4.1.1.1.1, h4.1.1.1.2, h4.1.1.2, h4.1.2, h4.2⟩

end Go.Proofs.YthkafhmciapipaaDoor
