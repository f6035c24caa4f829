/- Worlds that only grow; blocks that are known whole. No conditions. -/
import Derived.Test.YtnfonobdfkpkeaaDoorBase
import Derived.Laws.Rows
import Derived.Deep.OwnRows
namespace Go.Proofs.YtnfonobdfkpkeaaDoor
open Go.RowKit

/-- All that was there is as it was. -/
def Ext (w w' : World) : Prop := Below w.heap.size w w'
theorem Ext.refl (w : World) : Ext w w := Below.refl _ _
theorem Ext.size {w w' : World} (h : Ext w w') : w.heap.size ≤ w'.heap.size := Below.size h
theorem Ext.trans {a b c : World} (h : Ext a b) (k : Ext b c) : Ext a c := Below.trans h (Below.mono k h.size)
theorem Ext.alloc {a w : World} (h : Ext a w) (o : Obj) : Ext a (w.alloc o) := Below.alloc h h.size o
theorem Ext.drewN {a w : World} (h : Ext a w) (n : Nat) : Ext a (w.drewN n) := Below.trans h (World.drewN_below _ _ _)
theorem Ext.drew {a w : World} (h : Ext a w) : Ext a w.drew := Below.drew h
theorem Ext.set {a w : World} (h : Ext a w) {p : Addr} (hp : a.heap.size ≤ p.block) (u : Value) : Ext a (w.setCell p u) := Below.setCell h hp u
theorem Ext.drawn {a w w' : World} (h : Ext a w) (hd : Drawn w w') : Ext a w' := Below.trans h (hd.below _)
theorem Drawn.ext {w w' : World} (hd : Drawn w w') : Ext w w' := hd.below _
theorem Ext.cell {w w' : World} (h : Ext w w') {b o : Nat} (hb : b < w.heap.size) : w'.cell? ⟨b, o, none⟩ = w.cell? ⟨b, o, none⟩ := Below.cell (p := ⟨b, o, none⟩) h hb
theorem Ext.reads {w w' : World} (h : Ext w w') {ao : Option Addr} {xs : List Value} (hr : Reads w ao xs) : Reads w' ao xs := hr.below h (Nat.le_refl _)
theorem Ext.row {w w' : World} (h : Ext w w') {e : TypeId} {B : Nat} {ao : Option Addr} {n cap : Nat} {xs : List Value} (hr : RowOf e w B ao n cap xs) : RowOf e w' B ao n cap xs := hr.below h (Nat.le_refl _)

/-- A block that is known whole. -/
def Blk (w : World) (b : Nat) (cs : Array Value) (t : TypeId) : Prop := w.heap[b]? = some (.cells cs t)
theorem Blk.lt {w : World} {b : Nat} {cs : Array Value} {t : TypeId} (h : Blk w b cs t) : b < w.heap.size := (Array.getElem?_eq_some_iff.1 h).1
theorem Blk.c {w : World} {b : Nat} {cs : Array Value} {t : TypeId} (h : Blk w b cs t) (j : Nat) (v : Value) (hj : cs[j]? = some v) : w.cell? ⟨b, j, none⟩ = some v := by
  have h' : w.heap[b]? = some (.cells cs t) := h
  simp [World.cell?, h', hj]
theorem Blk.f {w : World} {b : Nat} {cs : Array Value} {t : TypeId} (h : Blk w b cs t) (j : Nat) : w.frozen? ⟨b, j, none⟩ = false := by
  have h' : w.heap[b]? = some (.cells cs t) := h
  simp [World.frozen?, h']
theorem Blk.ext {w w' : World} {b : Nat} {cs : Array Value} {t : TypeId} (h : Blk w b cs t) (hx : Ext w w') : Blk w' b cs t := (hx.block b h.lt).trans h
theorem Blk.drawn {w w' : World} {b : Nat} {cs : Array Value} {t : TypeId} (h : Blk w b cs t) (hx : Drawn w w') : Blk w' b cs t := h.ext hx.ext
theorem Blk.alloc {w : World} {b : Nat} {cs : Array Value} {t : TypeId} (h : Blk w b cs t) (o : Obj) : Blk (w.alloc o) b cs t := h.ext ((Ext.refl _).alloc o)
theorem Blk.drewN {w : World} {b : Nat} {cs : Array Value} {t : TypeId} (h : Blk w b cs t) (n : Nat) : Blk (w.drewN n) b cs t := h
theorem Blk.drew {w : World} {b : Nat} {cs : Array Value} {t : TypeId} (h : Blk w b cs t) : Blk w.drew b cs t := h
theorem Blk.new (w : World) (cs : Array Value) (t : TypeId) : Blk (w.alloc (.cells cs t)) w.heap.size cs t := by
  have := heap_alloc_new w (.cells cs t); exact this
theorem Blk.new' (w : World) (cs : Array Value) (t : TypeId) {b : Nat} (hb : b = w.heap.size) : Blk (w.alloc (.cells cs t)) b cs t := by
  subst hb; exact Blk.new w cs t
theorem Blk.set {w : World} {b : Nat} {cs : Array Value} {t : TypeId} (h : Blk w b cs t) (j : Nat) (v : Value) : Blk (w.setCell ⟨b, j, none⟩ v) b (cs.setIfInBounds j v) t := by
  have h' : w.heap[b]? = some (.cells cs t) := h
  unfold Blk
  simp only [World.setCell, Array.getElem?_modify, h']
  simp
theorem Blk.beside {w : World} {b : Nat} {cs : Array Value} {t : TypeId} (h : Blk w b cs t) (a : Addr) (ha : a.block ≠ b) (v : Value) : Blk (w.setCell a v) b cs t :=
  (Below.heap_setCell w a v b (Ne.symm ha)).trans h

theorem RowOf.lit' (e : TypeId) (w : World) (cs : Array Value) (hm : cs.size ≤ maxLen) {b : Nat} (hb : b = w.heap.size) : RowOf e (w.alloc (.cells cs e)) b (some ⟨b, 0, none⟩) cs.size cs.size cs.toList := by
  subst hb; exact RowOf.lit e w cs hm
theorem Blk.one {w : World} {b : Nat} {u : Value} {t : TypeId} (h : Blk w b #[u] t) : w.cell? ⟨b, 0, none⟩ = some u := h.c 0 u rfl
theorem Blk.two {w : World} {b : Nat} {u v : Value} {t : TypeId} (h : Blk w b #[u, v] t) : w.cell? ⟨b, 0, none⟩ = some u ∧ w.cell? ⟨b, 1, none⟩ = some v := ⟨h.c 0 u rfl, h.c 1 v rfl⟩
theorem Blk.three {w : World} {b : Nat} {u v x : Value} {t : TypeId} (h : Blk w b #[u, v, x] t) : w.cell? ⟨b, 0, none⟩ = some u ∧ w.cell? ⟨b, 1, none⟩ = some v ∧ w.cell? ⟨b, 2, none⟩ = some x := ⟨h.c 0 u rfl, h.c 1 v rfl, h.c 2 x rfl⟩
theorem Blk.four {w : World} {b : Nat} {u v x y : Value} {t : TypeId} (h : Blk w b #[u, v, x, y] t) : w.cell? ⟨b, 0, none⟩ = some u ∧ w.cell? ⟨b, 1, none⟩ = some v ∧ w.cell? ⟨b, 2, none⟩ = some x ∧ w.cell? ⟨b, 3, none⟩ = some y := ⟨h.c 0 u rfl, h.c 1 v rfl, h.c 2 x rfl, h.c 3 y rfl⟩

/-- The rows behind a store into a block that is not theirs. -/
theorem RowOf.beside {e : TypeId} {w : World} {B : Nat} {ao : Option Addr} {n cap : Nat} {xs : List Value} (h : RowOf e w B ao n cap xs) (a : Addr) (ha : a.block < B) (u : Value) : RowOf e (w.setCell a u) B ao n cap xs :=
  h.kept fun k hk => Below.heap_setCell _ _ _ _ (by have := (h.block k hk).1; omega)

/-- make([]int, n). -/
theorem mk_ints (n : Nat) (hn : n ≤ 1099511627776) (w : World) : (Instr.makeSlice 22 (.int .i64 (n : Int)) (.int .i64 (n : Int))).run Tryd.prog w = .ok (.slice (some ⟨w.heap.size, 0, none⟩) n n) (w.alloc (.cells (madeCells #[.int .i64 0] n) 3)) :=
  run_make_row' 22 3 (.int .i64 0) 8 eInt.und eInt.inf rfl .i64 .i64 n (by omega) (by omega) w
theorem madeCells_ints (n : Nat) : (madeCells #[Value.int .i64 0] n).toList = ints (List.replicate n 0) := by
  simp [madeCells, ints]
  apply List.ext_getElem
  · simp
  · intro j h1 h2; simp [Nat.mod_one]
theorem RowOf.made (w : World) (n : Nat) (hn : n ≤ 1099511627776) {b : Nat} (hb : b = w.heap.size) : RowOf 3 (w.alloc (.cells (madeCells #[.int .i64 0] n) 3)) b (some ⟨b, 0, none⟩) n n (ints (List.replicate n 0)) := by
  have h := RowOf.lit' 3 w (madeCells #[.int .i64 0] n) (by rw [size_madeCells]; unfold maxLen; omega) hb
  rwa [madeCells_ints, size_madeCells] at h

theorem ext_box (w : World) (cs : Array Value) (t : TypeId) : Ext w (w.alloc (.cells cs t)) := (Ext.refl _).alloc _

end Go.Proofs.YtnfonobdfkpkeaaDoor
