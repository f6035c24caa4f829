/- Rows of truth values. No conditions. -/
import Derived.Test.YthfjlemlpgkedaaDoorBlk
namespace Go.Proofs.YthfjlemlpgkedaaDoor
open Go.RowKit

/-- A row of truth values. -/
def bools (f : Nat → Bool) (n : Nat) : Array Value := ((List.range n).map fun q => Value.bool (f q)).toArray
theorem bools_get (f : Nat → Bool) (n j : Nat) (h : j < n) : (bools f n)[j]? = some (.bool (f j)) := by simp [bools, h]
theorem bools_set (f : Nat → Bool) (n j : Nat) (b : Bool) : (bools f n).setIfInBounds j (.bool b) = bools (fun q => if q = j then b else f q) n := by
  unfold bools
  apply Array.ext
  · simp
  · intro i h1 h2
    simp at h1 h2 ⊢
    rw [List.getElem_set]
    by_cases e : j = i
    · rw [if_pos e, if_pos e.symm]
    · rw [if_neg e, if_neg (Ne.symm e)]; simp
theorem bools_congr (f g : Nat → Bool) (n : Nat) (h : ∀ q, q < n → f q = g q) : bools f n = bools g n := by
  unfold bools
  congr 1
  apply List.map_congr_left
  intro q hq
  rw [h q (List.mem_range.1 hq)]
theorem falses (T : TypeId) (w : World) : w.alloc (.cells #[.bool false, .bool false, .bool false, .bool false, .bool false, .bool false, .bool false, .bool false, .bool false, .bool false, .bool false, .bool false, .bool false, .bool false, .bool false, .bool false, .bool false, .bool false, .bool false, .bool false, .bool false, .bool false, .bool false, .bool false, .bool false, .bool false, .bool false, .bool false, .bool false, .bool false, .bool false, .bool false, .bool false, .bool false, .bool false, .bool false, .bool false, .bool false, .bool false, .bool false, .bool false, .bool false, .bool false, .bool false, .bool false, .bool false, .bool false, .bool false, .bool false, .bool false, .bool false, .bool false, .bool false, .bool false, .bool false, .bool false, .bool false, .bool false, .bool false, .bool false, .bool false, .bool false, .bool false, .bool false] T) = w.alloc (.cells (bools (fun _ => false) 64) T) := rfl

end Go.Proofs.YthfjlemlpgkedaaDoor
