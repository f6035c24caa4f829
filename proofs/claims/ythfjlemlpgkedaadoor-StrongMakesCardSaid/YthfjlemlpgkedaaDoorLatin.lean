/- Latin squares, plain: what is wrong with a square. -/
import Derived.Test.YthfjlemlpgkedaaDoorBase
namespace Go.Proofs.YthfjlemlpgkedaaDoor
open Go.RowKit

/-- No number stands twice in a row or a column. -/
def Once (n : Nat) (xs : List Int) (m : Nat) : Prop := ∀ i j, i < j → j < m → nth xs i = nth xs j → i / n ≠ j / n ∧ i % n ≠ j % n
/-- No cell. -/
def badCell (n x : Int) : Bool := decide (x < 0) || decide (n ≤ x)
/-- A Latin square. -/
structure IsLatin (n : Nat) (xs : List Int) : Prop where
  one : 1 ≤ n
  big : n ≤ 8
  len : xs.length = n * n
  cell : ∀ x ∈ xs, 0 ≤ x ∧ x < n
  once : Once n xs (n * n)
theorem IsLatin.at {n : Nat} {xs : List Int} (h : IsLatin n xs) (j : Nat) (hj : j < n * n) : 0 ≤ nth xs j ∧ nth xs j < n := h.cell _ (nth_mem xs j (by rw [h.len]; exact hj))

open Classical in
/-- What is wrong. -/
noncomputable def latinFaultOf (m : Int) (xs : List Int) : Int :=
  if m < 1 ∨ 8 < m then 1 else if xs.length ≠ m.toNat * m.toNat then 2 else if xs.any (badCell m) = true then 1 else if Once m.toNat xs (m.toNat * m.toNat) then 0 else 6

theorem good_cells {m : Int} {xs : List Int} (h : ¬ xs.any (badCell m) = true) : ∀ x ∈ xs, 0 ≤ x ∧ x < m := fun x hx => by
  have h3 : xs.any (badCell m) = false := by simpa using h
  have := List.any_eq_false.1 h3 x hx
  unfold badCell at this
  simp at this
  omega
theorem latinFaultOf_zero {m : Int} {xs : List Int} (h : latinFaultOf m xs = 0) : ∃ n : Nat, m = n ∧ IsLatin n xs := by
  unfold latinFaultOf at h
  split at h
  · omega
  · rename_i h1
    split at h
    · omega
    · rename_i h2
      split at h
      · omega
      · rename_i h3
        split at h
        · rename_i h4
          refine ⟨m.toNat, by omega, by omega, by omega, by omega, fun x hx => ?_, h4⟩
          have := good_cells h3 x hx
          omega
        · omega
theorem latinFaultOf_latin {n : Nat} {xs : List Int} (h : IsLatin n xs) : latinFaultOf n xs = 0 := by
  unfold latinFaultOf
  have h1 := h.one
  have h2 := h.big
  rw [if_neg (by omega), if_neg (by have := h.len; simpa using this), if_neg, if_pos (by simpa using h.once)]
  simp only [List.any_eq_true, not_exists, not_and, Bool.not_eq_true]
  intro x hx
  have := h.cell x hx
  unfold badCell
  rw [decide_eq_false (by omega), decide_eq_false (by omega)]
  rfl

/-- What stands above or at the left. -/
theorem Once.succ {n : Nat} {xs : List Int} {m : Nat} (h : Once n xs m) (h' : ∀ i, i < m → nth xs i = nth xs m → i / n ≠ m / n ∧ i % n ≠ m % n) : Once n xs (m + 1) := by
  intro i j hij hj he
  rcases Nat.lt_succ_iff_lt_or_eq.1 hj with h1 | rfl
  · exact h i j hij h1 he
  · exact h' i hij he
theorem Once.mono {n : Nat} {xs : List Int} {m l : Nat} (h : Once n xs m) (hl : l ≤ m) : Once n xs l := fun i j hij hj => h i j hij (by omega)

/-- The squares' runs. -/
def runAt (n : Nat) (list : List (List Int)) (at' : Nat) : List Int := ((at' / n : Nat) : Int) :: ((at' % n : Nat) : Int) :: list.map fun xs => nth xs at'
def runsOf (n : Nat) (list : List (List Int)) : List (List Int) := (List.range (n * n)).map (runAt n list)

end Go.Proofs.YthfjlemlpgkedaaDoor
