/- A whole polynomial is stored: as one step. No conditions. -/
import Derived.Test.YtnfonobdfkpkeaaDoorPoly
import Derived.Deep.MidRow
namespace Go.Proofs.YtnfonobdfkpkeaaDoor
open Go.RowKit

/-- Seven cells are stored. -/
def put7 (W : World) (b : Nat) (x0 x1 x2 x3 x4 x5 x6 : Int) : World := W.setCells b 0 [.int .i64 x0, .int .i64 x1, .int .i64 x2, .int .i64 x3, .int .i64 x4, .int .i64 x5, .int .i64 x6]
theorem Pol.put {W : World} {b : Nat} {f : Nat → Int} (h : Pol W b f) (g : Nat → Int) : Pol (put7 W b (g 0) (g 1) (g 2) (g 3) (g 4) (g 5) (g 6)) b g := h.stored g
theorem Ext.put {a W : World} (h : Ext a W) {b : Nat} (hb : a.heap.size ≤ b) (x0 x1 x2 x3 x4 x5 x6 : Int) : Ext a (put7 W b x0 x1 x2 x3 x4 x5 x6) := h.stored hb _ _ _ _ _ _ _
theorem setCells_beside {b c : Nat} {cs : Array Value} {t : TypeId} (hne : c ≠ b) : ∀ (vs : List Value) (o : Nat) (W : World), Blk W c cs t → Blk (W.setCells b o vs) c cs t
  | [], _, _, h => h
  | v :: r, o, _, h => setCells_beside hne r (o + 1) _ (h.beside _ (Ne.symm hne) v)
theorem Blk.put {W : World} {c : Nat} {cs : Array Value} {t : TypeId} (h : Blk W c cs t) {b : Nat} (hne : c ≠ b) (x0 x1 x2 x3 x4 x5 x6 : Int) : Blk (put7 W b x0 x1 x2 x3 x4 x5 x6) c cs t := setCells_beside hne _ _ _ h
theorem Pol.put_other {W : World} {c : Nat} {f : Nat → Int} (h : Pol W c f) {b : Nat} (hne : c ≠ b) (x0 x1 x2 x3 x4 x5 x6 : Int) : Pol (put7 W b x0 x1 x2 x3 x4 x5 x6) c f := Blk.put h hne _ _ _ _ _ _ _
theorem pol_info : (Tryd.prog.info? 63).map (·.size) = some 7 := by kernel_rfl
theorem Pol.there {W : World} {b : Nat} {f : Nat → Int} (h : Pol W b f) : W.there b 0 7 := fun j hj => ⟨by rw [Nat.zero_add, h.at j hj]; rfl, h.f _⟩
/-- Some polynomial lies there. -/
def IsPol (W : World) (b : Nat) : Prop := ∃ f, Pol W b f
theorem Pol.is {W : World} {b : Nat} {f : Nat → Int} (h : Pol W b f) : IsPol W b := ⟨f, h⟩
/-- The store, behind a name. -/
def storePol (p v : Value) : Sem Unit := Instr.storeAt 63 p v
theorem storePol_eq (p v : Value) : Instr.storeAt 63 p v = storePol p v := rfl
theorem run_put7 (W : World) (b : Nat) (x0 x1 x2 x3 x4 x5 x6 : Int) (h : IsPol W b) :
    (storePol (.pointer (some ⟨b, 0, none⟩)) (.agg #[.int .i64 x0, .int .i64 x1, .int .i64 x2, .int .i64 x3, .int .i64 x4, .int .i64 x5, .int .i64 x6])).run Tryd.prog W = .ok () (put7 W b x0 x1 x2 x3 x4 x5 x6) := by
  obtain ⟨f, h⟩ := h
  exact run_storeAt_mid W b 0 63 #[.int .i64 x0, .int .i64 x1, .int .i64 x2, .int .i64 x3, .int .i64 x4, .int .i64 x5, .int .i64 x6] h.there pol_info (by simp [Value.oneCell'])
theorem cell_put7 (W : World) (b c j : Nat) (x0 x1 x2 x3 x4 x5 x6 : Int) (hne : c ≠ b) : (put7 W b x0 x1 x2 x3 x4 x5 x6).cell? ⟨c, j, none⟩ = W.cell? ⟨c, j, none⟩ :=
  World.cell?_setCells_out b _ 0 W ⟨c, j, none⟩ (fun hb _ => absurd hb hne)
theorem cell_past (W : World) (o : Obj) (c j : Nat) (h : c < W.heap.size) : (W.alloc o).cell? ⟨c, j, none⟩ = W.cell? ⟨c, j, none⟩ := ((Ext.refl W).alloc o).cell h
theorem pol_new0 (W : World) (b : Nat) (hb : b = W.heap.size) : IsPol (W.alloc (.cells #[.int .i64 0, .int .i64 0, .int .i64 0, .int .i64 0, .int .i64 0, .int .i64 0, .int .i64 0] 63)) b := ⟨fun _ => 0, Pol.new' W (fun _ => 0) hb⟩
theorem pol_alloc0 (W : World) (b : Nat) (o : Obj) (h : IsPol W b) : IsPol (W.alloc o) b := by obtain ⟨f, h⟩ := h; exact ⟨f, h.alloc o⟩
theorem pol_put0 (W : World) (b c : Nat) (x0 x1 x2 x3 x4 x5 x6 : Int) (hne : c ≠ b) (h : IsPol W c) : IsPol (put7 W b x0 x1 x2 x3 x4 x5 x6) c := by obtain ⟨f, h⟩ := h; exact ⟨f, h.put_other hne _ _ _ _ _ _ _⟩
theorem IsPol.ext {W W' : World} {b : Nat} (h : IsPol W b) (hx : Ext W W') : IsPol W' b := by obtain ⟨f, h⟩ := h; exact ⟨f, h.ext hx⟩

/-- A room's box, and two polynomials of the call's own. -/
structure AdSt (w wr : World) (p k q : Int) (ao : Option Addr) (len cap b7 b8 : Nat) (f g : Nat → Int) : Prop where
  ext : Ext w wr
  rb : Blk wr w.heap.size #[.int .i64 p, .int .i64 k, .slice ao len cap, .int .i64 q] 55
  p7 : Pol wr b7 f
  p8 : Pol wr b8 g
  ne : b7 ≠ b8
  l7 : w.heap.size < b7
  l8 : w.heap.size < b8
theorem AdSt.mk7 {w w0 W : World} {p k q : Int} {ao : Option Addr} {len cap b7 b8 : Nat} (f g : Nat → Int) (hx0 : Ext w w0) (hlt : w.heap.size < w0.heap.size) (hR : Blk w0 w.heap.size #[.int .i64 p, .int .i64 k, .slice ao len cap, .int .i64 q] 55)
    (hx : Ext w0 W) (h7 : IsPol W b7) (h8 : IsPol W b8) (hne : b7 ≠ b8) (l7 : w0.heap.size ≤ b7) (l8 : w0.heap.size ≤ b8) :
    AdSt w (put7 (put7 W b7 (f 0) (f 1) (f 2) (f 3) (f 4) (f 5) (f 6)) b8 (g 0) (g 1) (g 2) (g 3) (g 4) (g 5) (g 6)) p k q ao len cap b7 b8 f g := by
  obtain ⟨f', h7⟩ := h7
  obtain ⟨g', h8⟩ := h8
  have hx' := hx0.trans hx
  have e7 : w.heap.size ≠ b7 := by omega
  have e8 : w.heap.size ≠ b8 := by omega
  exact ⟨(hx'.put (by omega) _ _ _ _ _ _ _).put (by omega) _ _ _ _ _ _ _, ((hR.ext hx).put e7 _ _ _ _ _ _ _).put e8 _ _ _ _ _ _ _, (h7.put f).put_other hne _ _ _ _ _ _ _, (h8.put_other (Ne.symm hne) _ _ _ _ _ _ _).put g, hne, by omega, by omega⟩
theorem AdSt.drew {w wr : World} {p k q : Int} {ao : Option Addr} {len cap b7 b8 : Nat} {f g : Nat → Int} (h : AdSt w wr p k q ao len cap b7 b8 f g) : AdSt w wr.drew p k q ao len cap b7 b8 f g := ⟨h.ext.drew, h.rb.drew, h.p7.drew, h.p8.drew, h.ne, h.l7, h.l8⟩
theorem AdSt.set {w wr : World} {p k q : Int} {ao : Option Addr} {len cap b7 b8 : Nat} {f g : Nat → Int} (h : AdSt w wr p k q ao len cap b7 b8 f g) {j : Nat} (hj : j < 7) (v : Int) : AdSt w (wr.setCell ⟨b7, j, none⟩ (.int .i64 v)) p k q ao len cap b7 b8 (upd f j v) g :=
  ⟨h.ext.set (by have := h.l7; simp; omega) _, h.rb.beside _ (by have := h.l7; simp; omega) _, h.p7.set j hj v, h.p8.beside _ (by simpa using h.ne) _, h.ne, h.l7, h.l8⟩
theorem AdSt.congr {w wr : World} {p k q : Int} {ao : Option Addr} {len cap b7 b8 : Nat} {f f' g : Nat → Int} (h : AdSt w wr p k q ao len cap b7 b8 f g) (he : ∀ i, i < 7 → f i = f' i) : AdSt w wr p k q ao len cap b7 b8 f' g := ⟨h.ext, h.rb, h.p7.congr he, h.p8, h.ne, h.l7, h.l8⟩

end Go.Proofs.YtnfonobdfkpkeaaDoor
