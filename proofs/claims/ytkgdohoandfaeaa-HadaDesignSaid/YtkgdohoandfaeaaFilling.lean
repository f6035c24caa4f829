/- Square tables that are being filled. -/
import Derived.Test.YtkgdohoandfaeaaIntsEq
import Derived.Test.YtkgdohoandfaeaaBlk
namespace Go.Proofs.Ytkgdohoandfaeaa
open Go.RowKit

/-- A call of a Go function, as one step of a region that draws its order. -/
theorem step_call {w : World} {ops : Array Oper} {o : Oper} {a : Act} {K : Act → World → Prop} {Q : Exit → Act → World → Prop} {El : Prop} {f : FuncId} {args : Array Value} {R : World → Prop} (v : Value)
    (hgd : o.guard = none) (hc : Calls Try.prog f args w fun e w' => e = .returned v ∧ R w') (hrun : (execOp a.eval o).run Try.prog w = .ok (.enter f args) w)
    (h : ∀ w', R w' → K (a.put o.dst v) w') :
    if Region.wanted o (yielded ops a.tmps) = true then Oper.wp Try.prog o a w K Q else El := by
  have hw : Region.wanted o (yielded ops a.tmps) = true := by simp [Region.wanted, hgd]
  rw [if_pos hw]
  unfold Oper.wp
  rw [hrun, Oper.upon_enter]
  refine hc.mono ?_
  rintro e w' ⟨rfl, hr⟩
  exact h w' hr

/-- The matrix, row by row. -/
def flat (n : Nat) (cell : Nat → Nat → Int) (p : Nat) : Int := cell (p / n) (p % n)
theorem flat_at {n : Nat} (cell : Nat → Nat → Int) {i j : Nat} (hj : j < n) : flat n cell (i * n + j) = cell i j := by
  unfold flat
  rw [Nat.mul_comm, Nat.mul_add_div (by omega), Nat.div_eq_of_lt hj, Nat.mul_add_mod, Nat.mod_eq_of_lt hj, Nat.add_zero]

/-- A struct of two cells in a block. -/
structure BoxAt (w : World) (b : Nat) (u v : Value) : Prop where
  c0 : w.cell? ⟨b, 0, none⟩ = some u
  c1 : w.cell? ⟨b, 1, none⟩ = some v
  f0 : w.frozen? ⟨b, 0, none⟩ = false
  f1 : w.frozen? ⟨b, 1, none⟩ = false

theorem BoxAt.lt {w : World} {b : Nat} {u v : Value} (h : BoxAt w b u v) : b < w.heap.size := World.block_lt_of_cell? w _ h.c0
theorem BoxAt.carry {w w' : World} {b : Nat} {u v : Value} (h : BoxAt w b u v) (hb : w'.heap[b]? = w.heap[b]?) : BoxAt w' b u v :=
  ⟨by rw [World.cell?_of_block (w := w) hb]; exact h.c0, by rw [World.cell?_of_block (w := w) hb]; exact h.c1, by rw [World.frozen?_of_block (w := w) hb]; exact h.f0, by rw [World.frozen?_of_block (w := w) hb]; exact h.f1⟩
theorem BoxAt.drawn {w w' : World} {b : Nat} {u v : Value} (h : BoxAt w b u v) (hd : Drawn w w') : BoxAt w' b u v := by
  obtain ⟨n, rfl⟩ := hd; exact h.carry rfl
theorem BoxAt.alloc {w : World} {b : Nat} {u v : Value} (h : BoxAt w b u v) (o : Obj) : BoxAt (w.alloc o) b u v :=
  h.carry (Below.heap_alloc _ _ _ h.lt)
theorem BoxAt.put1 {w : World} {b : Nat} {u v : Value} (h : BoxAt w b u v) (x : Value) : BoxAt (w.setCell ⟨b, 1, none⟩ x) b u x :=
  ⟨by rw [World.cell?_setCell_other _ _ _ _ (by simp)]; exact h.c0, World.cell?_setCell_same _ _ _ h.c1, by rw [World.frozen?_setCell]; exact h.f0, by rw [World.frozen?_setCell]; exact h.f1⟩
theorem BoxAt.put {w : World} {b : Nat} {u v : Value} (h : BoxAt w b u v) (x y : Value) : BoxAt ((w.setCell ⟨b, 0, none⟩ x).setCell ⟨b, 1, none⟩ y) b x y := by
  have h0 : BoxAt (w.setCell ⟨b, 0, none⟩ x) b x v :=
    ⟨World.cell?_setCell_same _ _ _ h.c0, by rw [World.cell?_setCell_other _ _ _ _ (by simp)]; exact h.c1, by rw [World.frozen?_setCell]; exact h.f0, by rw [World.frozen?_setCell]; exact h.f1⟩
  exact h0.put1 y
theorem BoxAt.new (w : World) (u v : Value) (t : TypeId) : BoxAt (w.alloc (.cells #[u, v] t)) w.heap.size u v :=
  ⟨by simp [World.cell?_alloc_at], by simp [World.cell?_alloc_at], World.frozen?_alloc_new _ _ _ _, World.frozen?_alloc_new _ _ _ _⟩

/-- A matrix that is being filled. -/
structure Filling (w0 w : World) (b n m : Nat) (g : Nat → Int) (ao : Option Addr) (cap : Nat) : Prop where
  box : BoxAt w b (.int .i64 n) (.slice ao m cap)
  row : RowOf 3 w (b + 1) ao m cap (ints (tab g m))
  bel : Below b w0 w

theorem Filling.drawn {w0 w w' : World} {b n m : Nat} {g : Nat → Int} {ao : Option Addr} {cap : Nat} (h : Filling w0 w b n m g ao cap) (hd : Drawn w w') : Filling w0 w' b n m g ao cap :=
  ⟨h.box.drawn hd, h.row.below (hd.below w.heap.size) (Nat.le_refl _), h.bel.trans (hd.below _)⟩

theorem Filling.grown {w0 w w1 w2 : World} {b n m : Nat} {g : Nat → Int} {ao ao' : Option Addr} {cap cap' : Nat} {o : Obj} {y : Int} (h : Filling w0 w b n m g ao cap)
    (hw : w1 = w.alloc o) (hg : w1.grownBy w2 (Value.slice ao m cap).ownBlock) (hr : RowOf 3 w2 (b + 1) ao' (m + 1) cap' (ints (tab g m) ++ [.int .i64 y])) (hy : g m = y) :
    BoxAt w2 b (.int .i64 n) (.slice ao m cap) ∧ Filling w0 (w2.setCell ⟨b, 1, none⟩ (.slice ao' (m + 1) cap')) b n (m + 1) g ao' cap' := by
  subst hw
  have hbx := (h.box.alloc o)
  have hne : some b ≠ (Value.slice ao m cap).ownBlock := fun e => by have := (h.row.block b e.symm).1; omega
  have h2 : BoxAt w2 b (.int .i64 n) (.slice ao m cap) := hbx.carry (hg.block b hbx.lt hne)
  have hle := h.box.lt
  refine ⟨h2, h2.put1 _, ?_, ?_⟩
  · rw [← tab_snoc g m y hy]
    exact hr.beside _ (by simp) _
  · exact ((h.bel.alloc (by omega) o).grown hg (by simp; omega) (fun k hk => by have := (h.row.block k hk).1; omega)).setCell (Nat.le_refl _) _

theorem Filling.size {w0 w : World} {b n m : Nat} {g : Nat → Int} {ao : Option Addr} {cap : Nat} (h : Filling w0 w b n m g ao cap) : b + 1 ≤ w.heap.size := h.box.lt

theorem Filling.grown2 {w0 w w2 : World} {b n m : Nat} {g : Nat → Int} {ao ao' : Option Addr} {cap cap' : Nat} {y : Int} (h : Filling w0 w b n m g ao cap)
    (hg : w.grownBy w2 (Value.slice ao m cap).ownBlock) (hr : RowOf 3 w2 (b + 1) ao' (m + 1) cap' (ints (tab g m) ++ [.int .i64 y])) (hb : ∀ B0 w0, Below B0 w0 w → B0 ≤ b + 1 → Below B0 w0 w2) (hy : g m = y) :
    BoxAt w2 b (.int .i64 n) (.slice ao m cap) ∧ Filling w0 (w2.setCell ⟨b, 1, none⟩ (.slice ao' (m + 1) cap')) b n (m + 1) g ao' cap' := by
  have hne : some b ≠ (Value.slice ao m cap).ownBlock := fun e => by have := (h.row.block b e.symm).1; omega
  have h2 : BoxAt w2 b (.int .i64 n) (.slice ao m cap) := h.box.carry (hg.block b h.box.lt hne)
  refine ⟨h2, h2.put1 _, ?_, (hb _ _ h.bel (by omega)).setCell (Nat.le_refl _) _⟩
  rw [← tab_snoc g m y hy]
  exact hr.beside _ (by simp) _

end Go.Proofs.Ytkgdohoandfaeaa
