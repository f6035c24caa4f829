/- Rows of truth values of a call's own. No conditions. -/
import Derived.Test.YtnhdngnolepkcaaDoorJmanplccnef
import Derived.Test.YtnhdngnolepkcaaDoorJpoobehflpg
namespace Go.Proofs.YtnhdngnolepkcaaDoor
open Go.RowKit

/-- The truth values that a function tells. -/
def boolL (T : Nat → Bool) (n : Nat) : List Value := (List.range n).map fun i => Value.bool (T i)
theorem boolL_length (T : Nat → Bool) (n : Nat) : (boolL T n).length = n := by simp [boolL]
theorem boolL_get (T : Nat → Bool) {n i : Nat} (h : i < n) : (boolL T n)[i]? = some (.bool (T i)) := by simp [boolL, h]
theorem boolL_congr {T U : Nat → Bool} {n : Nat} (h : ∀ i, i < n → T i = U i) : boolL T n = boolL U n := by
  unfold boolL
  exact List.map_congr_left fun i hi => by rw [h i (List.mem_range.1 hi)]
theorem boolL_set (T : Nat → Bool) {n j : Nat} (b : Bool) : (boolL T n).set j (.bool b) = boolL (fun i => if i = j then b else T i) n := by
  refine List.ext_getElem (by simp [boolL]) fun i h1 h2 => ?_
  rw [List.getElem_set]
  simp [boolL] at h2 ⊢
  by_cases e : j = i
  · rw [if_pos e, if_pos e.symm]
  · rw [if_neg e, if_neg (Ne.symm e)]
theorem boolL_snoc (T : Nat → Bool) (n : Nat) : boolL T (n + 1) = boolL T n ++ [.bool (T n)] := by unfold boolL; rw [List.range_succ, List.map_append]; rfl

theorem eBool : Elt 30 4 (.bool false) 1 := ⟨Tryd.underlying30, by kernel_rfl, rfl, by decide⟩

/-- A row of truth values of the call's own. -/
structure OwnB (w0 wr : World) (g N cap : Nat) (T : Nat → Bool) : Prop where
  ext : Ext w0 wr
  row : RowOf 4 wr w0.heap.size (some ⟨g, 0, none⟩) N cap (boolL T N)
namespace OwnB
variable {w0 wr w' : World} {g N cap : Nat} {T U : Nat → Bool}
theorem cellAt (h : OwnB w0 wr g N cap T) {j : Nat} (hj : j < N) : wr.cell? ⟨g, j, none⟩ = some (.bool (T j)) := h.row.known.2.2.1 j _ (boolL_get T hj)
theorem f (h : OwnB w0 wr g N cap T) (j : Nat) : wr.frozen? ⟨g, j, none⟩ = false := h.row.known.2.2.2 j
theorem lt (h : OwnB w0 wr g N cap T) : w0.heap.size ≤ g ∧ g < wr.heap.size := ⟨h.row.known.1, h.row.known.2.1⟩
theorem carry (h : OwnB w0 wr g N cap T) (hx : Ext wr w') : OwnB w0 w' g N cap T := ⟨h.ext.trans hx, hx.row h.row⟩
theorem congr (h : OwnB w0 wr g N cap T) (e : ∀ i, i < N → T i = U i) : OwnB w0 wr g N cap U := ⟨h.ext, by rw [← boolL_congr e]; exact h.row⟩
theorem set (h : OwnB w0 wr g N cap T) (j : Nat) (b : Bool) : OwnB w0 (wr.setCell ⟨g, j, none⟩ (.bool b)) g N cap (fun i => if i = j then b else T i) :=
  ⟨h.ext.set h.lt.1 _, by rw [← boolL_set T b]; exact h.row.stored j _⟩
theorem reads (h : OwnB w0 wr g N cap T) : Reads wr (some ⟨g, 0, none⟩) (boolL T N) := h.row.reads
end OwnB

/-- make([]bool, n). -/
theorem mk_bools (n : Nat) (hn : n ≤ 1099511627776) (w : World) : (Instr.makeSlice 30 (.int .i64 (n : Int)) (.int .i64 (n : Int))).run Tryd.prog w = .ok (.slice (some ⟨w.heap.size, 0, none⟩) n n) (w.alloc (.cells (madeCells #[.bool false] n) 4)) :=
  run_make_row' 30 4 (.bool false) 1 eBool.und eBool.inf rfl .i64 .i64 n (by omega) (by omega) w
theorem madeCells_bools (n : Nat) : (madeCells #[Value.bool false] n).toList = boolL (fun _ => false) n := by
  simp [madeCells, boolL]
  intro a _; simp [Nat.mod_one]
theorem OwnB.made (w : World) (n : Nat) (hn : n ≤ 1099511627776) : OwnB w (w.alloc (.cells (madeCells #[.bool false] n) 4)) w.heap.size n n (fun _ => false) := by
  refine ⟨(Ext.refl w).alloc _, ?_⟩
  have h := RowOf.lit' 4 w (madeCells #[.bool false] n) (by rw [size_madeCells]; unfold maxLen; omega) rfl
  rwa [madeCells_bools, size_madeCells] at h

end Go.Proofs.YtnhdngnolepkcaaDoor
