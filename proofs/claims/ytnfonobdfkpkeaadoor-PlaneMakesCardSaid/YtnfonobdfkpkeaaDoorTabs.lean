/- Lists that a function tells, and what a store makes of them. No conditions. -/
import Derived.Test.YtnfonobdfkpkeaaDoorBlk
namespace Go.Proofs.YtnfonobdfkpkeaaDoor
open Go.RowKit

theorem tab_congr (f g : Nat → Int) : ∀ N, (∀ q, q < N → f q = g q) → tab f N = tab g N
  | 0, _ => rfl
  | N + 1, h => by rw [tab, tab, tab_congr f g N (fun q hq => h q (by omega)), h N (by omega)]
theorem tab_of (xs : List Int) : tab (nth xs) xs.length = xs :=
  nth_ext _ _ (tab_length _ _) fun j hj => nth_tab _ _ _ (by rwa [tab_length] at hj)
theorem tab_set (f g : Nat → Int) (N p : Nat) (v : Int) (hp : p < N) (h : ∀ q, q < N → g q = if q = p then v else f q) : (ints (tab f N)).set p (.int .i64 v) = ints (tab g N) := by
  rw [ints_set]
  congr 1
  apply nth_ext
  · rw [List.length_set, tab_length, tab_length]
  · intro j hj
    rw [List.length_set, tab_length] at hj
    rw [nth_tab g N j hj, h j hj]
    by_cases e : j = p
    · subst e; simp [nth, tab_length, hj]
    · rw [if_neg e]
      have := nth_tab f N j hj
      simp only [nth, List.getD_eq_getElem?_getD] at this ⊢
      rw [List.getElem?_set_ne (Ne.symm e), this]

theorem tab_zero : ∀ n, List.replicate n (0 : Int) = tab (fun _ => 0) n
  | 0 => rfl
  | n + 1 => by rw [tab, ← tab_zero n, List.replicate_succ']
/-- A function with one value anew. -/
def upd (f : Nat → Int) (p : Nat) (v : Int) (q : Nat) : Int := if q = p then v else f q
theorem tab_upd (f : Nat → Int) (N p : Nat) (v : Int) (hp : p < N) : (ints (tab f N)).set p (.int .i64 v) = ints (tab (upd f p v) N) := tab_set f (upd f p v) N p v hp fun _ _ => rfl

theorem div_at {n i j : Nat} (hj : j < n) : (i * n + j) / n = i := by rw [Nat.mul_comm, Nat.mul_add_div (by omega), Nat.div_eq_of_lt hj, Nat.add_zero]
theorem mod_at {n i j : Nat} (hj : j < n) : (i * n + j) % n = j := by rw [Nat.mul_comm, Nat.mul_add_mod, Nat.mod_eq_of_lt hj]

end Go.Proofs.YtnfonobdfkpkeaaDoor
