/- The two ways to count spaces agree, at all numbers that are let: reckoned by the kernel. Conditions: 2 ≤ q ≤ 64, k ≤ n ≤ 30. -/
import Derived.Test.YtnpfepcejcpfbaaGauss
import Derived.Test.YtnpfepcejcpfbaaGaussOf
namespace Go.Proofs.Ytnpfepcejcpfbaa
open Go.RowKit

def okPair (x y : Int) : Bool := (decide (1000000000000000000 < x) && decide (y < 0)) || (decide (x = y) && decide (0 ≤ y) && decide (x ≤ 1000000000000000000))
def okRows : List Int → List Int → Bool
  | [], [] => true
  | x :: xs, y :: ys => okPair x y && okRows xs ys
  | _, _ => false
def okQ (q : Int) : Bool := (List.range 31).all (fun n => okRows (gaRow q n) (gRow q n)) && (List.range 30).all (fun j => decide (gaP q j ≠ 0))
def okFrom (a n : Nat) : Bool := (List.range n).all fun i => okQ ((a + i : Nat) : Int)
set_option maxRecDepth 100000
theorem ok2 : okFrom 2 8 = true := by decide +kernel
theorem ok10 : okFrom 10 8 = true := by decide +kernel
theorem ok18 : okFrom 18 8 = true := by decide +kernel
theorem ok26 : okFrom 26 8 = true := by decide +kernel
theorem ok34 : okFrom 34 8 = true := by decide +kernel
theorem ok42 : okFrom 42 8 = true := by decide +kernel
theorem ok50 : okFrom 50 8 = true := by decide +kernel
theorem ok58 : okFrom 58 7 = true := by decide +kernel

theorem okFrom_get (a n i : Nat) (h : okFrom a n = true) (hi : i < n) : okQ ((a + i : Nat) : Int) = true := by
  unfold okFrom at h
  rw [List.all_eq_true] at h
  exact h i (List.mem_range.2 hi)

theorem okQ_all (q : Nat) (h1 : 2 ≤ q) (h2 : q ≤ 64) : okQ (q : Int) = true := by
  by_cases h : q < 10
  · have := okFrom_get 2 8 (q - 2) ok2 (by omega); rwa [show 2 + (q - 2) = q by omega] at this
  by_cases h : q < 18
  · have := okFrom_get 10 8 (q - 10) ok10 (by omega); rwa [show 10 + (q - 10) = q by omega] at this
  by_cases h : q < 26
  · have := okFrom_get 18 8 (q - 18) ok18 (by omega); rwa [show 18 + (q - 18) = q by omega] at this
  by_cases h : q < 34
  · have := okFrom_get 26 8 (q - 26) ok26 (by omega); rwa [show 26 + (q - 26) = q by omega] at this
  by_cases h : q < 42
  · have := okFrom_get 34 8 (q - 34) ok34 (by omega); rwa [show 34 + (q - 34) = q by omega] at this
  by_cases h : q < 50
  · have := okFrom_get 42 8 (q - 42) ok42 (by omega); rwa [show 42 + (q - 42) = q by omega] at this
  by_cases h : q < 58
  · have := okFrom_get 50 8 (q - 50) ok50 (by omega); rwa [show 50 + (q - 50) = q by omega] at this
  · have := okFrom_get 58 7 (q - 58) ok58 (by omega); rwa [show 58 + (q - 58) = q by omega] at this

theorem okRows_get : ∀ (xs ys : List Int) (k : Nat), okRows xs ys = true → k < ys.length → okPair (nth xs k) (nth ys k) = true
  | [], [], k, _, h => by simp at h
  | x :: xs, y :: ys, 0, h, _ => by simp [okRows] at h; exact h.1
  | x :: xs, y :: ys, k + 1, h, hk => by
    simp [okRows] at h
    have := okRows_get xs ys k h.2 (by simpa using hk)
    exact this
  | [], _ :: _, _, h, _ => by simp [okRows] at h
  | _ :: _, [], _, h, _ => by simp [okRows] at h

/-- Either both say 'too many', or both say the same number. -/
theorem gauss_law (n k : Nat) (q : Int) (hn : n ≤ 30) (hk : k ≤ n) (hq : 2 ≤ q) (hq' : q ≤ 64) :
    (1000000000000000000 < nth (gaRow q n) k ∧ nth (gRow q n) k < 0) ∨
    (nth (gaRow q n) k = nth (gRow q n) k ∧ 0 ≤ nth (gRow q n) k ∧ nth (gaRow q n) k ≤ 1000000000000000000) := by
  have h := okQ_all q.toNat (by omega) (by omega)
  rw [show ((q.toNat : Nat) : Int) = q by omega] at h
  unfold okQ at h
  rw [Bool.and_eq_true, List.all_eq_true] at h
  have h1 := okRows_get _ _ k (h.1 n (List.mem_range.2 (by omega))) (by rw [gRow_length]; omega)
  unfold okPair at h1
  simp only [Bool.or_eq_true, Bool.and_eq_true, decide_eq_true_eq] at h1
  omega

theorem gaP_ne (q : Int) (hq : 2 ≤ q) (hq' : q ≤ 64) : ∀ j, j < 30 → gaP q j ≠ 0 := by
  intro j hj
  have h := okQ_all q.toNat (by omega) (by omega)
  rw [show ((q.toNat : Nat) : Int) = q by omega] at h
  unfold okQ at h
  rw [Bool.and_eq_true, List.all_eq_true, List.all_eq_true] at h
  exact of_decide_eq_true (h.2 j (List.mem_range.2 hj))

end Go.Proofs.Ytnpfepcejcpfbaa
