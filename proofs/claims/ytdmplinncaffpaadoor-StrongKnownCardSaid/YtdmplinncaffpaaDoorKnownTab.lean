/- Tables of graphs that are seen to be strong. Plain, no program. -/
import Derived.Test.YtdmplinncaffpaaDoorStrongFact
import Derived.Test.YtdmplinncaffpaaDoorSums
namespace Go.Proofs.YtdmplinncaffpaaDoor
open Go.RowKit

/-- A table that is strong, with its numbers. -/
structure KnownTab (n : Nat) (xs : List Int) (d l m : Int) (far : Prop) : Prop where
  tab : IsTab n xs
  sym : IsSym n xs
  no : ¬ Clash xs n
  deg : outOf xs n 2 = d
  near : outOf xs n 1 = l
  far : far → outOf xs n 0 = m

def comF (f : Nat → Nat → Int) (n i j : Nat) : Int := sm (fun k => f i k * f j k) n
theorem sm_succ (f : Nat → Int) (n : Nat) : sm f (n + 1) = sm f n + f n := rfl
theorem comTo_flat {f : Nat → Nat → Int} {n i j : Nat} (hi : i < n) (hj : j < n) : ∀ k, k ≤ n → comTo (tab (flat n f) (n * n)) n i j k = sm (fun k => f i k * f j k) k
  | 0, _ => rfl
  | k + 1, hk => by
    rw [comTo, comTo_flat hi hj k (by omega), sm_succ, nth_tab _ _ _ (place_lt hi (by omega)), nth_tab _ _ _ (place_lt hj (by omega)), flat_at f (by omega), flat_at f (by omega)]
theorem joinCell_bit (p : Nat → Nat → Bool) (i j : Nat) : joinCell p i j = 0 ∨ joinCell p i j = 1 := by
  unfold joinCell; split <;> simp
theorem join_tab (n : Nat) (p : Nat → Nat → Bool) (h1 : 1 ≤ n) (h24 : n ≤ 24) : IsTab n (tab (flat n (joinCell p)) (n * n)) := by
  refine ⟨h1, h24, tab_length _ _, fun x hx => ?_⟩
  obtain ⟨i, hi, rfl⟩ := mem_nth _ _ hx
  rw [tab_length] at hi
  rw [nth_tab _ _ _ hi]
  exact joinCell_bit p _ _
theorem join_sym (n : Nat) (p : Nat → Nat → Bool) (hp : ∀ i j, i < n → j < i → p i j = p j i) : IsSym n (tab (flat n (joinCell p)) (n * n)) := by
  intro i j hi hj
  rw [nth_tab _ _ _ (place_lt hi (by omega)), nth_tab _ _ _ (place_lt (by omega) hi), flat_at _ (by omega), flat_at _ hi]
  unfold joinCell
  refine ⟨?_, fun h => by rw [if_neg (fun g => g.1 h)]⟩
  by_cases e : i = j
  · rw [if_neg (fun g => g.1 e), if_neg (fun g => g.1 e.symm)]
  · rw [hp i j hi (by omega)]
    by_cases e2 : p j i = true
    · rw [if_pos ⟨e, e2⟩, if_pos ⟨Ne.symm e, e2⟩]
    · rw [if_neg (fun g => e2 g.2), if_neg (fun g => e2 g.2)]

theorem known_join {n : Nat} {p : Nat → Nat → Bool} {d l m : Int} {far : Prop} (h1 : 1 ≤ n) (h24 : n ≤ 24) (hp : ∀ i j, i < n → j < i → p i j = p j i)
    (hd : ∀ i, i < n → comF (joinCell p) n i i = d) (hl : ∀ i, i < n → ∀ j, j < i → comF (joinCell p) n i j = if joinCell p i j = 1 then l else m)
    (hnear : ∃ i j, i < n ∧ j < i ∧ p i j = true) (hfar : far → ∃ i j, i < n ∧ j < i ∧ p i j = false) : KnownTab n (tab (flat n (joinCell p)) (n * n)) d l m far := by
  have ht := join_tab n p h1 h24
  have hc : ∀ i j, i < n → j < n → nth (tab (flat n (joinCell p)) (n * n)) (i * n + j) = joinCell p i j := fun i j hi hj => by rw [nth_tab _ _ _ (place_lt hi hj), flat_at _ hj]
  obtain ⟨k1, k2, k3, k4⟩ := strong_known (d := d) (l := l) (m := m) ht (fun i hi => (comTo_flat hi hi n (Nat.le_refl _)).trans (hd i hi)) (fun i hi j hj => by
    rw [comTo_flat hi (by omega) n (Nat.le_refl _), hc i j hi (by omega)]; exact hl i hi j hj)
  refine ⟨ht, join_sym n p hp, k1, k2, k3 ?_, fun h => k4 ?_⟩
  · obtain ⟨i, j, hi, hj, e⟩ := hnear
    exact ⟨i, j, hi, hj, by rw [hc i j hi (by omega)]; unfold joinCell; rw [if_pos ⟨by omega, e⟩]⟩
  · obtain ⟨i, j, hi, hj, e⟩ := hfar h
    exact ⟨i, j, hi, hj, by rw [hc i j hi (by omega)]; unfold joinCell; rw [if_neg (fun g => by rw [e] at g; exact absurd g.2 (by simp))]⟩

/-- The same, asked by a program. -/
def knownB (n : Nat) (p : Nat → Nat → Bool) (d l m : Int) (far : Bool) : Bool :=
  (List.range n).all (fun i => decide (comF (joinCell p) n i i = d) && (List.range i).all fun j => p i j == p j i && decide (comF (joinCell p) n i j = if joinCell p i j = 1 then l else m)) &&
  (List.range n).any (fun i => (List.range i).any fun j => p i j) && (!far || (List.range n).any fun i => (List.range i).any fun j => !p i j)
theorem known_of {n : Nat} {p : Nat → Nat → Bool} {d l m : Int} {far : Bool} (h1 : 1 ≤ n) (h24 : n ≤ 24) (h : knownB n p d l m far = true) : KnownTab n (tab (flat n (joinCell p)) (n * n)) d l m (far = true) := by
  unfold knownB at h
  simp only [Bool.and_eq_true, List.all_eq_true, List.any_eq_true, List.mem_range, beq_iff_eq, decide_eq_true_eq, Bool.or_eq_true, Bool.not_eq_true'] at h
  obtain ⟨⟨ha, hb⟩, hc⟩ := h
  refine known_join h1 h24 (fun i j hi hj => ((ha i hi).2 j hj).1) (fun i hi => (ha i hi).1) (fun i hi j hj => ((ha i hi).2 j hj).2) ?_ (fun e => ?_)
  · obtain ⟨i, hi, j, hj, e⟩ := hb; exact ⟨i, j, hi, hj, e⟩
  · rcases hc with hc | ⟨i, hi, j, hj, e'⟩
    · rw [e] at hc; exact absurd hc (by simp)
    · exact ⟨i, j, hi, hj, e'⟩

theorem triangle_known (n : Nat) (h4 : 4 ≤ n) (h7 : n ≤ 7) : KnownTab (triNum n) (tab (flat (triNum n) (joinCell (triJoin n))) (triNum n * triNum n)) (2 * ((n : Int) - 2)) ((n : Int) - 2) 4 True := by
  have h : ∀ n, n < 8 → 4 ≤ n → 1 ≤ triNum n ∧ triNum n ≤ 24 ∧ knownB (triNum n) (triJoin n) (2 * ((n : Int) - 2)) ((n : Int) - 2) 4 true = true := by decide +kernel
  obtain ⟨k1, k2, k3⟩ := h n (by omega) h4
  have := known_of k1 k2 k3
  exact ⟨this.tab, this.sym, this.no, this.deg, this.near, fun _ => this.far rfl⟩

end Go.Proofs.YtdmplinncaffpaaDoor
