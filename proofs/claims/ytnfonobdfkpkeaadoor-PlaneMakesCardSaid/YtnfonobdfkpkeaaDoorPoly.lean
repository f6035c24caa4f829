/- Blocks of seven ints: the digits of an element. No conditions. -/
import Derived.Test.YtnfonobdfkpkeaaDoorBlk
import Derived.Test.YtnfonobdfkpkeaaDoorTabs
import Derived.Test.YtnfonobdfkpkeaaDoorFieldMath
namespace Go.Proofs.YtnfonobdfkpkeaaDoor
open Go.RowKit

/-- A block of seven ints. -/
def Pol (w : World) (b : Nat) (f : Nat → Int) : Prop := Blk w b #[.int .i64 (f 0), .int .i64 (f 1), .int .i64 (f 2), .int .i64 (f 3), .int .i64 (f 4), .int .i64 (f 5), .int .i64 (f 6)] 63
theorem Pol.at {w : World} {b : Nat} {f : Nat → Int} (h : Pol w b f) : ∀ j, j < 7 → w.cell? ⟨b, j, none⟩ = some (.int .i64 (f j))
  | 0, _ => h.c 0 _ rfl
  | 1, _ => h.c 1 _ rfl
  | 2, _ => h.c 2 _ rfl
  | 3, _ => h.c 3 _ rfl
  | 4, _ => h.c 4 _ rfl
  | 5, _ => h.c 5 _ rfl
  | 6, _ => h.c 6 _ rfl
theorem Pol.f {w : World} {b : Nat} {f : Nat → Int} (h : Pol w b f) (j : Nat) : w.frozen? ⟨b, j, none⟩ = false := Blk.f h j
theorem Pol.lt {w : World} {b : Nat} {f : Nat → Int} (h : Pol w b f) : b < w.heap.size := Blk.lt h
theorem Pol.ext {w w' : World} {b : Nat} {f : Nat → Int} (h : Pol w b f) (hx : Ext w w') : Pol w' b f := Blk.ext h hx
theorem Pol.drewN {w : World} {b : Nat} {f : Nat → Int} (h : Pol w b f) (n : Nat) : Pol (w.drewN n) b f := h
theorem Pol.drew {w : World} {b : Nat} {f : Nat → Int} (h : Pol w b f) : Pol w.drew b f := h
theorem Pol.alloc {w : World} {b : Nat} {f : Nat → Int} (h : Pol w b f) (o : Obj) : Pol (w.alloc o) b f := Blk.alloc h o
theorem Pol.beside {w : World} {b : Nat} {f : Nat → Int} (h : Pol w b f) (a : Addr) (ha : a.block ≠ b) (v : Value) : Pol (w.setCell a v) b f := Blk.beside h a ha v
theorem Pol.new (w : World) (f : Nat → Int) : Pol (w.alloc (.cells #[.int .i64 (f 0), .int .i64 (f 1), .int .i64 (f 2), .int .i64 (f 3), .int .i64 (f 4), .int .i64 (f 5), .int .i64 (f 6)] 63)) w.heap.size f := Blk.new w _ _
theorem Pol.new' (w : World) (f : Nat → Int) {b : Nat} (hb : b = w.heap.size) : Pol (w.alloc (.cells #[.int .i64 (f 0), .int .i64 (f 1), .int .i64 (f 2), .int .i64 (f 3), .int .i64 (f 4), .int .i64 (f 5), .int .i64 (f 6)] 63)) b f := Blk.new' w _ _ hb
theorem Pol.congr {w : World} {b : Nat} {f g : Nat → Int} (h : Pol w b f) (he : ∀ i, i < 7 → f i = g i) : Pol w b g := by
  unfold Pol
  rw [← he 0 (by omega), ← he 1 (by omega), ← he 2 (by omega), ← he 3 (by omega), ← he 4 (by omega), ← he 5 (by omega), ← he 6 (by omega)]
  exact h
theorem Pol.set {w : World} {b : Nat} {f : Nat → Int} (h : Pol w b f) (j : Nat) (hj : j < 7) (v : Int) : Pol (w.setCell ⟨b, j, none⟩ (.int .i64 v)) b (upd f j v) := by
  have h1 := Blk.set h j (.int .i64 v)
  have e : (#[.int .i64 (f 0), .int .i64 (f 1), .int .i64 (f 2), .int .i64 (f 3), .int .i64 (f 4), .int .i64 (f 5), .int .i64 (f 6)] : Array Value).setIfInBounds j (.int .i64 v) = #[.int .i64 ((upd f j v) 0), .int .i64 ((upd f j v) 1), .int .i64 ((upd f j v) 2), .int .i64 ((upd f j v) 3), .int .i64 ((upd f j v) 4), .int .i64 ((upd f j v) 5), .int .i64 ((upd f j v) 6)] := by
    match j, hj with
    | 0, _ => rfl
    | 1, _ => rfl
    | 2, _ => rfl
    | 3, _ => rfl
    | 4, _ => rfl
    | 5, _ => rfl
    | 6, _ => rfl
  rw [e] at h1
  exact h1
theorem Pol.seven {w : World} {b : Nat} {f : Nat → Int} (h : Pol w b f) : w.cell? ⟨b, 0, none⟩ = some (.int .i64 (f 0)) ∧ w.cell? ⟨b, 1, none⟩ = some (.int .i64 (f 1)) ∧ w.cell? ⟨b, 2, none⟩ = some (.int .i64 (f 2)) ∧
    w.cell? ⟨b, 3, none⟩ = some (.int .i64 (f 3)) ∧ w.cell? ⟨b, 4, none⟩ = some (.int .i64 (f 4)) ∧ w.cell? ⟨b, 5, none⟩ = some (.int .i64 (f 5)) ∧ w.cell? ⟨b, 6, none⟩ = some (.int .i64 (f 6)) :=
  ⟨h.at 0 (by omega), h.at 1 (by omega), h.at 2 (by omega), h.at 3 (by omega), h.at 4 (by omega), h.at 5 (by omega), h.at 6 (by omega)⟩

theorem Pol.stored {w : World} {b : Nat} {f : Nat → Int} (h : Pol w b f) (g : Nat → Int) :
    Pol (((((((w.setCell ⟨b, 0, none⟩ (.int .i64 (g 0))).setCell ⟨b, 1, none⟩ (.int .i64 (g 1))).setCell ⟨b, 2, none⟩ (.int .i64 (g 2))).setCell ⟨b, 3, none⟩ (.int .i64 (g 3))).setCell ⟨b, 4, none⟩ (.int .i64 (g 4))).setCell ⟨b, 5, none⟩ (.int .i64 (g 5))).setCell ⟨b, 6, none⟩ (.int .i64 (g 6))) b g := by
  refine (((((((h.set 0 (by omega) (g 0)).set 1 (by omega) (g 1)).set 2 (by omega) (g 2)).set 3 (by omega) (g 3)).set 4 (by omega) (g 4)).set 5 (by omega) (g 5)).set 6 (by omega) (g 6)).congr fun i hi => ?_
  match i, hi with
  | 0, _ => rfl
  | 1, _ => rfl
  | 2, _ => rfl
  | 3, _ => rfl
  | 4, _ => rfl
  | 5, _ => rfl
  | 6, _ => rfl
theorem Ext.stored {a w : World} (h : Ext a w) {b : Nat} (hb : a.heap.size ≤ b) (v0 v1 v2 v3 v4 v5 v6 : Value) :
    Ext a (((((((w.setCell ⟨b, 0, none⟩ v0).setCell ⟨b, 1, none⟩ v1).setCell ⟨b, 2, none⟩ v2).setCell ⟨b, 3, none⟩ v3).setCell ⟨b, 4, none⟩ v4).setCell ⟨b, 5, none⟩ v5).setCell ⟨b, 6, none⟩ v6) :=
  ((((((h.set (p := ⟨b, 0, none⟩) hb _).set (p := ⟨b, 1, none⟩) hb _).set (p := ⟨b, 2, none⟩) hb _).set (p := ⟨b, 3, none⟩) hb _).set (p := ⟨b, 4, none⟩) hb _).set (p := ⟨b, 5, none⟩) hb _).set (p := ⟨b, 6, none⟩) hb _

theorem poly_set (f : Nat → Int) (j : Nat) (hj : j < 7) (v : Int) : ([.int .i64 (f 0), .int .i64 (f 1), .int .i64 (f 2), .int .i64 (f 3), .int .i64 (f 4), .int .i64 (f 5), .int .i64 (f 6)].set j (.int .i64 v) : List Value).toArray = #[.int .i64 ((upd f j v) 0), .int .i64 ((upd f j v) 1), .int .i64 ((upd f j v) 2), .int .i64 ((upd f j v) 3), .int .i64 ((upd f j v) 4), .int .i64 ((upd f j v) 5), .int .i64 ((upd f j v) 6)] := by
  match j, hj with
  | 0, _ => rfl
  | 1, _ => rfl
  | 2, _ => rfl
  | 3, _ => rfl
  | 4, _ => rfl
  | 5, _ => rfl
  | 6, _ => rfl

/-- The primes. -/
def primesL : List Int := [2, 3, 5, 7, 11, 13, 17, 19, 23, 29, 31, 37, 41, 43, 47, 53, 59, 61]
/-- The variable that holds them. -/
def Primes (w : World) : Prop := 0 < w.heap.size ∧ ∀ i, i < 18 → w.cell? ⟨0, i, none⟩ = some (.int .i64 (nth primesL i))
theorem Primes.ext {w w' : World} (h : Primes w) (hx : Ext w w') : Primes w' := ⟨Nat.lt_of_lt_of_le h.1 hx.size, fun i hi => (hx.cell h.1).trans (h.2 i hi)⟩

end Go.Proofs.YtnfonobdfkpkeaaDoor
