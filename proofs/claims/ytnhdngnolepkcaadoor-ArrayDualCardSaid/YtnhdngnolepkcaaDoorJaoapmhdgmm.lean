/- What space.open answers. Condition: the variable of primes holds them. -/
import Derived.Test.YtnhdngnolepkcaaDoorJopiplgejoi
import Derived.Test.YtnhdngnolepkcaaDoorJjonogjjgoa
import Derived.Test.YtnhdngnolepkcaaDoorJaiofclfbhd
import Derived.Deep.RegionHeld3
import Derived.BigRegion
import Derived.Outline
import Derived.Deep.DeepCutAuto
namespace Go.Proofs.YtnhdngnolepkcaaDoor
open Go.RowKit

set_option maxHeartbeats 1000000 in
theorem open_no (p k : Int) (ao : Option Addr) (len cap : Nat) (low : List Int) (n : Int) (w : World) (hP : Primes w) (hl : low.length = len) (hr : Reads w ao (ints low)) (h0 : fieldFault p k low ≠ 0) :
    Calls Tryd.prog 57 #[.agg #[.int .i64 p, .int .i64 k, .slice ao len cap], .int .i64 n] w fun e w' => e = .returned (.tuple #[.pointer none, .int .i64 (fieldFault p k low)]) ∧ Ext w w' := by
  have HX0 : Hid (Ext w (w.alloc (.cells #[.int .i64 p, .int .i64 k, .slice ao len cap] 24))) := (Ext.refl w).alloc _
  have HO := Lib.hid (fieldCheck_any p k ao len cap low _ (hP.ext HX0.out) hl (HX0.out.reads hr))
  obtain ⟨c, hc⟩ : ∃ c, fieldFault p k low = c := ⟨_, rfl⟩
  rw [hc] at h0 HO ⊢
  have b1 : (c != 0) = true := by rw [bne_iff_ne]; exact h0
  clear hc hP hl hr h0
  go_enter Tryd.func57, Tryd.ntmps57
  go_wp2_with fail
  refine Calls.mono HO.out ?_
  rintro e w1 ⟨rfl, hx⟩
  have HX := Lib.hid (HX0.out.trans hx)
  clear hx
  go_wp2
  go_ret2
  exact ⟨rfl, HX.out⟩

set_option maxHeartbeats 1000000 in
theorem open_range (p k : Int) (ao : Option Addr) (len cap : Nat) (low : List Int) (n : Int) (w : World) (hP : Primes w) (hl : low.length = len) (hr : Reads w ao (ints low)) (h0 : fieldFault p k low = 0) (hn : n < 1 ∨ 6 < n) :
    Calls Tryd.prog 57 #[.agg #[.int .i64 p, .int .i64 k, .slice ao len cap], .int .i64 n] w fun e w' => e = .returned (.tuple #[.pointer none, .int .i64 1]) ∧ Ext w w' := by
  have HX0 : Hid (Ext w (w.alloc (.cells #[.int .i64 p, .int .i64 k, .slice ao len cap] 24))) := (Ext.refl w).alloc _
  have HO := fieldCheck_any p k ao len cap low _ (hP.ext HX0.out) hl (HX0.out.reads hr)
  rw [h0] at HO
  have HO := Lib.hid HO
  clear hP hl hr h0
  rcases hn with hn | hn
  · have b1 : decide (n < 1) = true := decide_eq_true hn
    clear hn
    go_enter Tryd.func57, Tryd.ntmps57
    go_wp2_with fail
    refine Calls.mono HO.out ?_
    rintro e w1 ⟨rfl, hx⟩
    have HX := Lib.hid (HX0.out.trans hx)
    clear hx
    go_wp2
    go_ret2
    exact ⟨rfl, HX.out⟩
  · have b1 : decide (n < 1) = false := decide_eq_false (by omega)
    have b2 : decide (6 < n) = true := decide_eq_true hn
    clear hn
    go_enter Tryd.func57, Tryd.ntmps57
    go_wp2_with fail
    refine Calls.mono HO.out ?_
    rintro e w1 ⟨rfl, hx⟩
    have HX := Lib.hid (HX0.out.trans hx)
    clear hx
    go_wp2
    go_ret2
    exact ⟨rfl, HX.out⟩

theorem Blk.eight {w : World} {b : Nat} {a0 a1 a2 a3 a4 a5 a6 a7 : Value} {t : TypeId} (h : Blk w b #[a0, a1, a2, a3, a4, a5, a6, a7] t) : w.cell? ⟨b, 0, none⟩ = some a0 ∧ w.cell? ⟨b, 1, none⟩ = some a1 ∧ w.cell? ⟨b, 2, none⟩ = some a2 ∧ w.cell? ⟨b, 3, none⟩ = some a3 ∧
    w.cell? ⟨b, 4, none⟩ = some a4 ∧ w.cell? ⟨b, 5, none⟩ = some a5 ∧ w.cell? ⟨b, 6, none⟩ = some a6 ∧ w.cell? ⟨b, 7, none⟩ = some a7 := ⟨h.c 0 a0 rfl, h.c 1 a1 rfl, h.c 2 a2 rfl, h.c 3 a3 rfl, h.c 4 a4 rfl, h.c 5 a5 rfl, h.c 6 a6 rfl, h.c 7 a7 rfl⟩

/-- The world while a room is made. -/
structure OpnSt (w wr : World) (p k : Int) (fo : Option Addr) (fl fc : Nat) (b : Nat) (n : Int) (x : Int) (mo : Option Addr) (i mc : Nat) (so : Option Addr) (j sc : Nat) (io : Option Addr) (l ic : Nat) : Prop where
  ext : Ext w wr
  b1 : w.heap.size + 1 ≤ b
  fb : Blk wr w.heap.size #[.int .i64 p, .int .i64 k, .slice fo fl fc] 24
  rb : Blk wr b #[.int .i64 p, .int .i64 k, .slice fo fl fc, .int .i64 n, .int .i64 x, .slice mo i mc, .slice so j sc, .slice io l ic] 89
theorem OpnSt.carry {w wr w' : World} {p k : Int} {fo : Option Addr} {fl fc : Nat} {b : Nat} {n x : Int} {mo so io : Option Addr} {i mc j sc l ic : Nat} (h : OpnSt w wr p k fo fl fc b n x mo i mc so j sc io l ic) (hx : Ext wr w') : OpnSt w w' p k fo fl fc b n x mo i mc so j sc io l ic :=
  ⟨h.ext.trans hx, h.b1, h.fb.ext hx, h.rb.ext hx⟩

theorem OpnSt.order {w wr : World} {p k : Int} {fo : Option Addr} {fl fc : Nat} {b : Nat} {n x : Int} {mo so io : Option Addr} {i mc j sc l ic : Nat} (h : OpnSt w wr p k fo fl fc b n x mo i mc so j sc io l ic) (y : Int) : OpnSt w (wr.setCell ⟨b, 4, none⟩ (.int .i64 y)) p k fo fl fc b n y mo i mc so j sc io l ic := by
  have h1 := h.b1
  exact ⟨h.ext.set (show w.heap.size ≤ b by omega) _, h.b1, h.fb.beside _ (show b ≠ w.heap.size by omega) _, h.rb.set 4 _⟩

/-- Two rows of ints that are made side by side since w0. -/
structure Twos (w0 w : World) (ta : Option Addr) (m tc : Nat) (uo : Option Addr) (l uc : Nat) (xs ys : List Int) : Prop where
  ext : Ext w0 w
  t : RowOf 3 w w0.heap.size ta m tc (ints xs)
  u : RowOf 3 w w0.heap.size uo l uc (ints ys)
  ap : Apart (.slice ta m tc) (.slice uo l uc)
theorem Twos.carry {w0 w w' : World} {ta uo : Option Addr} {m tc l uc : Nat} {xs ys : List Int} (h : Twos w0 w ta m tc uo l uc xs ys) (hx : Ext w w') : Twos w0 w' ta m tc uo l uc xs ys := ⟨h.ext.trans hx, hx.row h.t, hx.row h.u, h.ap⟩
theorem Twos.swap {w0 w : World} {ta uo : Option Addr} {m tc l uc : Nat} {xs ys : List Int} (h : Twos w0 w ta m tc uo l uc xs ys) : Twos w0 w uo l uc ta m tc ys xs := ⟨h.ext, h.u, h.t, h.ap.symm⟩
theorem Twos.on {w0 w w' : World} {ta uo : Option Addr} {m tc l uc : Nat} {xs ys : List Int} (h : Twos w0 w ta m tc uo l uc xs ys) {ta' : Option Addr} {tc' : Nat} {y : Int}
    (hrow : RowOf 3 w' w0.heap.size ta' (m + 1) tc' (ints xs ++ [.int .i64 y])) (hg : w.grownBy w' (Value.slice ta m tc).ownBlock)
    (hat : (Value.slice ta' (m + 1) tc').ownBlock = (Value.slice ta m tc).ownBlock ∨ (Value.slice ta' (m + 1) tc').ownBlock = some w.heap.size) : Twos w0 w' ta' (m + 1) tc' uo l uc (xs ++ [y]) ys :=
  ⟨Below.grown h.ext hg h.ext.size fun k hk => (h.t.block k hk).1, by simpa [ints_append, ints_one] using hrow, h.u.grown hg h.ap, h.ap.next hat fun b hb => (h.u.block b hb).2⟩

/-- The world while a row is put behind both tables. -/
structure R29 (w wo W : World) (p k : Int) (fo : Option Addr) (fl fc : Nat) (b : Nat) (n q : Int) (mo0 : Option Addr) (i0 mc0 : Nat) (so0 : Option Addr) (j0 sc0 : Nat) (mo : Option Addr) (i mc : Nat) (so : Option Addr) (j sc : Nat) (io : Option Addr) (l ic : Nat)
    (ta : Option Addr) (m tc : Nat) (uo : Option Addr) (uc : Nat) (R S : List (List Int)) (V xs ys : List Int) : Prop where
  op : OpnSt w W p k fo fl fc b n q mo0 i0 mc0 so0 j0 sc0 io l ic
  tb : Tabs3 W (b + 1) mo i mc so j sc io l ic R S V
  tr : RowOf 3 W wo.heap.size ta m tc (ints xs)
  ur : RowOf 3 W wo.heap.size uo m uc (ints ys)
  sz : b < wo.heap.size ∧ wo.heap.size ≤ W.heap.size ∧ m ≤ maxLen
  mt : Apart (.slice mo i mc) (.slice ta m tc) ∧ Apart (.slice mo i mc) (.slice uo m uc)
  st : Apart (.slice so j sc) (.slice ta m tc) ∧ Apart (.slice so j sc) (.slice uo m uc)
  it : ∀ c, (Value.slice io l ic).ownBlock = some c → c < wo.heap.size
theorem R29.ext {w wo W W' : World} {p k : Int} {fo : Option Addr} {fl fc b : Nat} {n q : Int} {mo0 so0 mo so io ta uo : Option Addr} {i0 mc0 j0 sc0 i mc j sc l ic m tc uc : Nat} {R S : List (List Int)} {V xs ys : List Int}
    (h : R29 w wo W p k fo fl fc b n q mo0 i0 mc0 so0 j0 sc0 mo i mc so j sc io l ic ta m tc uo uc R S V xs ys) (hx : Ext W W') : R29 w wo W' p k fo fl fc b n q mo0 i0 mc0 so0 j0 sc0 mo i mc so j sc io l ic ta m tc uo uc R S V xs ys :=
  ⟨h.op.carry hx, h.tb.ext hx, hx.row h.tr, hx.row h.ur, ⟨h.sz.1, Nat.le_trans h.sz.2.1 hx.size, h.sz.2.2⟩, h.mt, h.st, h.it⟩
theorem OpnSt.grown {w wr w' : World} {p k : Int} {fo : Option Addr} {fl fc : Nat} {b : Nat} {n x : Int} {mo so io : Option Addr} {i mc j sc l ic : Nat} (h : OpnSt w wr p k fo fl fc b n x mo i mc so j sc io l ic) {g : Option Nat} (hg : wr.grownBy w' g) (hb : ∀ c, g = some c → b + 1 ≤ c) : OpnSt w w' p k fo fl fc b n x mo i mc so j sc io l ic := by
  have h1 := h.b1
  exact ⟨Below.grown h.ext hg h.ext.size fun c hc => by have := hb c hc; omega, h.b1, h.fb.grown hg fun e => by have := hb _ e.symm; omega, h.rb.grown hg fun e => by have := hb _ e.symm; omega⟩
theorem R29.mulOn {w wo W W' : World} {p k : Int} {fo : Option Addr} {fl fc b : Nat} {n q : Int} {mo0 so0 mo so io ta uo : Option Addr} {i0 mc0 j0 sc0 i mc j sc l ic m tc uc : Nat} {R S : List (List Int)} {V xs ys : List Int}
    (h : R29 w wo W p k fo fl fc b n q mo0 i0 mc0 so0 j0 sc0 mo i mc so j sc io l ic ta m tc uo uc R S V xs ys) {vs : List Value} {mo' : Option Addr} {mc' : Nat}
    (hvs : RowOf 22 W (b + 1) mo i mc vs ∧ Rows2X W (fun c => b + 1 ≤ c ∧ some c ≠ (Value.slice so j sc).ownBlock ∧ some c ≠ (Value.slice io l ic).ownBlock) (Value.slice mo i mc).ownBlock vs R)
    (hrow : RowOf 22 W' (b + 1) mo' (i + 1) mc' (vs ++ [.slice ta m tc])) (hg : W.grownBy W' (Value.slice mo i mc).ownBlock)
    (hat : (Value.slice mo' (i + 1) mc').ownBlock = (Value.slice mo i mc).ownBlock ∨ (Value.slice mo' (i + 1) mc').ownBlock = some W.heap.size) :
    R29 w wo W' p k fo fl fc b n q mo0 i0 mc0 so0 j0 sc0 mo' (i + 1) mc' so j sc io l ic ta m tc uo uc (R ++ [xs]) S V xs ys := by
  have hs := h.sz.1
  have hy : InnerX W (fun c => b + 1 ≤ c ∧ some c ≠ (Value.slice so j sc).ownBlock ∧ some c ≠ (Value.slice io l ic).ownBlock) (Value.slice mo i mc).ownBlock (.slice ta m tc) xs :=
    h.tr.innerOf _ _ (fun c hc e => ⟨⟨by omega, fun e' => h.st.1 c e'.symm e, fun e' => by have := h.it c e'.symm; omega⟩, fun e' => h.mt.1 c e'.symm e⟩) h.sz.2.2
  refine ⟨h.op.grown hg fun c hc => (h.tb.mul.block c hc).1, h.tb.mulOn hvs hy hrow hg hat, h.tr.grown hg h.mt.1, h.ur.grown hg h.mt.2, ⟨h.sz.1, Nat.le_trans h.sz.2.1 hg.size, h.sz.2.2⟩, ⟨h.mt.1.next hat fun c hc => (h.tr.block c hc).2, h.mt.2.next hat fun c hc => (h.ur.block c hc).2⟩, h.st, h.it⟩
theorem R29.addOn {w wo W W' : World} {p k : Int} {fo : Option Addr} {fl fc b : Nat} {n q : Int} {mo0 so0 mo so io ta uo : Option Addr} {i0 mc0 j0 sc0 i mc j sc l ic m tc uc : Nat} {R S : List (List Int)} {V xs ys : List Int}
    (h : R29 w wo W p k fo fl fc b n q mo0 i0 mc0 so0 j0 sc0 mo i mc so j sc io l ic ta m tc uo uc R S V xs ys) {vs : List Value} {so' : Option Addr} {sc' : Nat}
    (hvs : RowOf 22 W (b + 1) so j sc vs ∧ Rows2X W (fun c => b + 1 ≤ c ∧ some c ≠ (Value.slice mo i mc).ownBlock ∧ some c ≠ (Value.slice io l ic).ownBlock) (Value.slice so j sc).ownBlock vs S)
    (hrow : RowOf 22 W' (b + 1) so' (j + 1) sc' (vs ++ [.slice uo m uc])) (hg : W.grownBy W' (Value.slice so j sc).ownBlock)
    (hat : (Value.slice so' (j + 1) sc').ownBlock = (Value.slice so j sc).ownBlock ∨ (Value.slice so' (j + 1) sc').ownBlock = some W.heap.size) :
    R29 w wo W' p k fo fl fc b n q mo0 i0 mc0 so0 j0 sc0 mo i mc so' (j + 1) sc' io l ic ta m tc uo uc R (S ++ [ys]) V xs ys := by
  have hs := h.sz.1
  have hy : InnerX W (fun c => b + 1 ≤ c ∧ some c ≠ (Value.slice mo i mc).ownBlock ∧ some c ≠ (Value.slice io l ic).ownBlock) (Value.slice so j sc).ownBlock (.slice uo m uc) ys :=
    h.ur.innerOf _ _ (fun c hc e => ⟨⟨by omega, fun e' => h.mt.2 c e'.symm e, fun e' => by have := h.it c e'.symm; omega⟩, fun e' => h.st.2 c e'.symm e⟩) h.sz.2.2
  refine ⟨h.op.grown hg fun c hc => (h.tb.add.block c hc).1, (h.tb.swap.mulOn hvs hy hrow hg hat).swap, h.tr.grown hg h.st.1, h.ur.grown hg h.st.2, ⟨h.sz.1, Nat.le_trans h.sz.2.1 hg.size, h.sz.2.2⟩, h.mt, ⟨h.st.1.next hat fun c hc => (h.tr.block c hc).2, h.st.2.next hat fun c hc => (h.ur.block c hc).2⟩, h.it⟩

/-- Both slices are stored. -/
theorem R29.fin {w wo W : World} {p k : Int} {fo : Option Addr} {fl fc b : Nat} {n q : Int} {mo0 so0 mo so io ta uo : Option Addr} {i0 mc0 j0 sc0 i mc j sc l ic m tc uc : Nat} {R S : List (List Int)} {V xs ys : List Int}
    (h : R29 w wo W p k fo fl fc b n q mo0 i0 mc0 so0 j0 sc0 mo i mc so j sc io l ic ta m tc uo uc R S V xs ys) :
    (OpnSt w ((W.setCell ⟨b, 5, none⟩ (.slice mo i mc)).setCell ⟨b, 6, none⟩ (.slice so j sc)) p k fo fl fc b n q mo i mc so j sc io l ic ∧ Tabs3 ((W.setCell ⟨b, 5, none⟩ (.slice mo i mc)).setCell ⟨b, 6, none⟩ (.slice so j sc)) (b + 1) mo i mc so j sc io l ic R S V ∧
      RowOf 3 ((W.setCell ⟨b, 5, none⟩ (.slice mo i mc)).setCell ⟨b, 6, none⟩ (.slice so j sc)) wo.heap.size ta m tc (ints xs)) ∧
    (OpnSt w ((W.setCell ⟨b, 6, none⟩ (.slice so j sc)).setCell ⟨b, 5, none⟩ (.slice mo i mc)) p k fo fl fc b n q mo i mc so j sc io l ic ∧ Tabs3 ((W.setCell ⟨b, 6, none⟩ (.slice so j sc)).setCell ⟨b, 5, none⟩ (.slice mo i mc)) (b + 1) mo i mc so j sc io l ic R S V ∧
      RowOf 3 ((W.setCell ⟨b, 6, none⟩ (.slice so j sc)).setCell ⟨b, 5, none⟩ (.slice mo i mc)) wo.heap.size ta m tc (ints xs)) := by
  have h1 := h.op.b1
  have h2 := h.sz.1
  have f1 : b ≠ w.heap.size := by omega
  have f2 : w.heap.size ≤ b := by omega
  have f3 : b < b + 1 := by omega
  refine ⟨⟨⟨(h.op.ext.set f2 _).set f2 _, h.op.b1, (h.op.fb.beside _ f1 _).beside _ f1 _, (h.op.rb.set 5 _).set 6 _⟩, (h.tb.beside _ f3 _).beside _ f3 _, (h.tr.beside _ h2 _).beside _ h2 _⟩,
    ⟨⟨(h.op.ext.set f2 _).set f2 _, h.op.b1, (h.op.fb.beside _ f1 _).beside _ f1 _, (h.op.rb.set 6 _).set 5 _⟩, (h.tb.beside _ f3 _).beside _ f3 _, (h.tr.beside _ h2 _).beside _ h2 _⟩⟩

/-- append at the inverses, as a step of a region that draws. -/
theorem Tabs3.stepI {w Wb W : World} {p k : Int} {fo : Option Addr} {fl fc b : Nat} {n q : Int} {mo so io : Option Addr} {i mc j sc l ic : Nat} {R S : List (List Int)} {V : List Int} {y : Int}
    (ht : Tabs3 Wb (b + 1) mo i mc so j sc io l ic R S V) (hop : OpnSt w Wb p k fo fl fc b n q mo i mc so j sc io l ic) (hl : l ≤ 1099511627776)
    {ops : Array Oper} {o : Oper} {a : Act} {K : Act → World → Prop} {Q : Exit → Act → World → Prop} {El : Prop}
    (hgd : o.guard = none) (s x : Operand) (ho : o.op = .call { callee := .builtin .append, args := #[s, x], argTypes := #[22, 22] })
    (he : Ext Wb W) (hs : a.eval s = .slice io l ic) (hx : ∃ ad, a.eval x = .slice (some ad) 1 1 ∧ W.cell? ad = some (.int .i64 y))
    (hK : ∀ io' ic' W', OpnSt w (W'.setCell ⟨b, 7, none⟩ (.slice io' (l + 1) ic')) p k fo fl fc b n q mo i mc so j sc io' (l + 1) ic' ∧ Tabs3 (W'.setCell ⟨b, 7, none⟩ (.slice io' (l + 1) ic')) (b + 1) mo i mc so j sc io' (l + 1) ic' R S (V ++ [y]) →
      Blk W' b #[.int .i64 p, .int .i64 k, .slice fo fl fc, .int .i64 n, .int .i64 q, .slice mo i mc, .slice so j sc, .slice io l ic] 89 → K (a.put o.dst (.slice io' (l + 1) ic')) W') :
    if Region.wanted o (yielded ops a.tmps) = true then Oper.wp Tryd.prog o a W K Q else El := by
  have ht := ht.ext he
  have hop := hop.carry he
  obtain ⟨ad, hx, hc⟩ := hx
  have h1 := hop.b1
  refine step_one eInt hgd s x ho (b + 1) hs ht.inv ad _ hx hc rfl hl ht.size fun io' ic' W' hr hg ha => ?_
  have hop' := hop.grown hg fun c hc => (ht.inv.block c hc).1
  refine hK io' ic' W' ⟨⟨hop'.ext.set (show w.heap.size ≤ b by omega) _, h1, hop'.fb.beside _ (show b ≠ w.heap.size by omega) _, hop'.rb.set 7 _⟩, (ht.invOn hr hg ha).beside _ (show b < b + 1 by omega) _⟩ hop'.rb

/-- append at the products, as a step of a region that draws. -/
theorem R29.stepM {w wo Wb W : World} {p k : Int} {fo : Option Addr} {fl fc b : Nat} {n q : Int} {mo0 so0 mo so io ta uo : Option Addr} {i0 mc0 j0 sc0 i mc j sc l ic m tc uc : Nat} {R S : List (List Int)} {V xs ys : List Int}
    (h : R29 w wo Wb p k fo fl fc b n q mo0 i0 mc0 so0 j0 sc0 mo i mc so j sc io l ic ta m tc uo uc R S V xs ys) (hold : ∀ c, (Value.slice mo i mc).ownBlock = some c → c < wo.heap.size) (hi : i ≤ 1099511627776)
    {ops : Array Oper} {o : Oper} {a : Act} {K : Act → World → Prop} {Q : Exit → Act → World → Prop} {El : Prop}
    (hgd : o.guard = none) (s x : Operand) (ho : o.op = .call { callee := .builtin .append, args := #[s, x], argTypes := #[25, 25] })
    (he : Ext Wb W) (hs : a.eval s = .slice mo i mc) (hx : ∃ ad, a.eval x = .slice (some ad) 1 1 ∧ W.cell? ad = some (.slice ta m tc))
    (hK : ∀ mo' mc' W', R29 w wo W' p k fo fl fc b n q mo0 i0 mc0 so0 j0 sc0 mo' (i + 1) mc' so j sc io l ic ta m tc uo uc (R ++ [xs]) S V xs ys → (∀ c v, wo.heap.size ≤ c → W.cell? ⟨c, 0, none⟩ = some v → W'.cell? ⟨c, 0, none⟩ = some v) → W.heap.size ≤ W'.heap.size → K (a.put o.dst (.slice mo' (i + 1) mc')) W') :
    if Region.wanted o (yielded ops a.tmps) = true then Oper.wp Tryd.prog o a W K Q else El := by
  have h := h.ext he
  obtain ⟨vs, hvs⟩ := h.tb.mul
  obtain ⟨ad, hx, hc⟩ := hx
  refine step_one eRow hgd s x ho (b + 1) hs hvs.1 ad _ hx hc rfl hi h.tb.size fun mo' mc' W' hr hg ha => ?_
  refine hK mo' mc' W' (h.mulOn hvs hr hg ha) (fun c v hcw hv => ?_) hg.size
  have hlt : c < W.heap.size := by
    unfold World.cell? at hv
    cases hb : W.heap[c]? with
    | none => simp [hb] at hv
    | some o => exact (Array.getElem?_eq_some_iff.1 hb).1
  rw [World.cell?_of_block (w := W) (hg.block c hlt fun e => by have := hold c e.symm; omega)]
  exact hv
theorem R29.stepA {w wo Wb W : World} {p k : Int} {fo : Option Addr} {fl fc b : Nat} {n q : Int} {mo0 so0 mo so io ta uo : Option Addr} {i0 mc0 j0 sc0 i mc j sc l ic m tc uc : Nat} {R S : List (List Int)} {V xs ys : List Int}
    (h : R29 w wo Wb p k fo fl fc b n q mo0 i0 mc0 so0 j0 sc0 mo i mc so j sc io l ic ta m tc uo uc R S V xs ys) (hold : ∀ c, (Value.slice so j sc).ownBlock = some c → c < wo.heap.size) (hj : j ≤ 1099511627776)
    {ops : Array Oper} {o : Oper} {a : Act} {K : Act → World → Prop} {Q : Exit → Act → World → Prop} {El : Prop}
    (hgd : o.guard = none) (s x : Operand) (ho : o.op = .call { callee := .builtin .append, args := #[s, x], argTypes := #[25, 25] })
    (he : Ext Wb W) (hs : a.eval s = .slice so j sc) (hx : ∃ ad, a.eval x = .slice (some ad) 1 1 ∧ W.cell? ad = some (.slice uo m uc))
    (hK : ∀ so' sc' W', R29 w wo W' p k fo fl fc b n q mo0 i0 mc0 so0 j0 sc0 mo i mc so' (j + 1) sc' io l ic ta m tc uo uc R (S ++ [ys]) V xs ys → (∀ c v, wo.heap.size ≤ c → W.cell? ⟨c, 0, none⟩ = some v → W'.cell? ⟨c, 0, none⟩ = some v) → W.heap.size ≤ W'.heap.size → K (a.put o.dst (.slice so' (j + 1) sc')) W') :
    if Region.wanted o (yielded ops a.tmps) = true then Oper.wp Tryd.prog o a W K Q else El := by
  have h := h.ext he
  obtain ⟨vs, hvs⟩ := h.tb.add
  obtain ⟨ad, hx, hc⟩ := hx
  refine step_one eRow hgd s x ho (b + 1) hs hvs.1 ad _ hx hc rfl hj h.tb.size fun mo' mc' W' hr hg ha => ?_
  refine hK mo' mc' W' (h.addOn hvs hr hg ha) (fun c v hcw hv => ?_) hg.size
  have hlt : c < W.heap.size := by
    unfold World.cell? at hv
    cases hb : W.heap[c]? with
    | none => simp [hb] at hv
    | some o => exact (Array.getElem?_eq_some_iff.1 hb).1
  rw [World.cell?_of_block (w := W) (hg.block c hlt fun e => by have := hold c e.symm; omega)]
  exact hv

set_option maxHeartbeats 4000000 in
set_option maxRecDepth 100000 in
theorem open_is (p k n : Nat) (ao : Option Addr) (cap : Nat) (low : List Int) (w : World) (hP : Primes w) (hF : IsField p k low) (hr : Reads w ao (ints low)) (hn1 : 1 ≤ n) (hn6 : n ≤ 6) :
    Calls Tryd.prog 57 #[.agg #[.int .i64 p, .int .i64 k, .slice ao k cap], .int .i64 n] w fun e w' =>
      (4096 < (p ^ k) ^ n → e = .returned (.tuple #[.pointer none, .int .i64 3]) ∧ Ext w w') ∧
      ((p ^ k) ^ n ≤ 4096 → ∃ b, e = .returned (.tuple #[.pointer (some ⟨b, 0, none⟩), .int .i64 0]) ∧ RoomAt w' b p k low n ∧ w.heap.size ≤ b ∧ Ext w w') := by
  have HX0 : Hid (Ext w (w.alloc (.cells #[.int .i64 p, .int .i64 k, .slice ao k cap] 24))) := (Ext.refl w).alloc _
  have HB0 : Hid (Blk (w.alloc (.cells #[.int .i64 p, .int .i64 k, .slice ao k cap] 24)) w.heap.size #[.int .i64 p, .int .i64 k, .slice ao k cap] 24) := Blk.new _ _ _
  have HO := fieldCheck_any p k ao k cap low _ (hP.ext HX0.out) hF.len (HX0.out.reads hr)
  rw [hF.fault.1] at HO
  have HO := Lib.hid HO
  have hpos : 1 ≤ p := by have := hF.p2; omega
  have HPW : Hid (∀ c, c < k → p ^ c * p = p ^ (c + 1) ∧ p ^ (c + 1) ≤ p ^ k) := fun c hc => ⟨rfl, Nat.pow_le_pow_right hpos hc⟩
  have HMUL : Hid (∀ w' (a c : Nat), Ext w w' → a < p ^ k → c < p ^ k → _) := fun w' a c (hx : Ext w w') ha hc => fieldMul_ok p k a c ao k cap low w' (hP.ext hx) hF hF.len (hx.reads hr) ha hc
  have HADD : Hid (∀ w' (a c : Nat), Ext w w' → a < p ^ k → c < p ^ k → _) := fun w' a c (hx : Ext w w') ha hc => fieldAdd_ok p k a c ao k cap low w' (hP.ext hx) hF hF.len (hx.reads hr) ha hc
  have h64 := hF.big
  have hk6 := hF.k6
  have hk1 := hF.k1
  have hp61 := hF.p61
  have HRD := Lib.hid hr
  have b1 : decide ((n : Int) < 1) = false := decide_eq_false (by omega)
  have b2 : decide (6 < (n : Int)) = false := decide_eq_false (by omega)
  have HQ2 := Lib.hid (one_lt_pow' hF.p2 hF.k1)
  clear hP hF hr
  go_enter Tryd.func57, Tryd.ntmps57
  go_wp2_with fail
  refine Calls.mono HO.out ?_
  rintro e w1 ⟨rfl, hx⟩
  have HX1 := Lib.hid (HX0.out.trans hx)
  have HB1 := Lib.hid (HB0.out.ext hx)
  have k1 := (HB0.out.ext hx).three
  clear hx
  have hsz := HX1.out.size
  have hlt := HB1.out.lt
  have HST : Hid (OpnSt w (w1.alloc (.cells #[.int .i64 p, .int .i64 k, .slice ao k cap, .int .i64 n, .int .i64 1, .slice none 0 0, .slice none 0 0, .slice none 0 0] 89)) p k ao k cap w1.heap.size n 1 none 0 0 none 0 0 none 0 0) :=
    ⟨HX1.out.alloc _, by omega, HB1.out.alloc _, Blk.new _ _ _⟩
  go_wp2
  obtain ⟨w0, hw0⟩ : ∃ w0, w0 = w1.alloc (.cells #[.int .i64 p, .int .i64 k, .slice ao k cap, .int .i64 n, .int .i64 1, .slice none 0 0, .slice none 0 0, .slice none 0 0] 89) := ⟨_, rfl⟩
  obtain ⟨b, hb⟩ : ∃ b, w1.heap.size = b := ⟨_, rfl⟩
  rw [← hw0, hb] at HST
  rw [hb, ← hw0]
  have HWB : Hid (w.heap.size ≤ b) := by have := HST.out.b1; show _ ≤ _; omega
  clear hw0 hb hsz hlt HX1 HB1 k1 HX0 HB0
  have HPS : Hid (p ^ 0 = 1) := rfl
  go_loopw [37] (fun a wr => ∃ c : Nat, c ≤ k ∧ a = .int .i64 c ∧ OpnSt w wr p k ao k cap b n (p ^ c : Nat) none 0 0 none 0 0 none 0 0) (fun a _ => k - (intOf a).toNat)
  case atStart => exact ⟨0, by omega, rfl, by rw [HPS.out]; exact HST.out⟩
  case round =>
    obtain ⟨c, hck, rfl, hst⟩ := hrel
    have HS := Lib.hid hst
    clear hst
    by_cases hlt : c < k
    · obtain ⟨hp1, hp2⟩ := HPW.out c hlt
      obtain ⟨u, hu⟩ : ∃ u, p ^ c = u := ⟨_, rfl⟩
      obtain ⟨v, hv⟩ : ∃ v, p ^ (c + 1) = v := ⟨_, rfl⟩
      have HV := Lib.hid hv
      rw [hu, hv] at hp1
      rw [hv] at hp2
      have hm : (u : Int) * (p : Int) = (v : Nat) := by rw [← hp1, Int.natCast_mul]
      have hv64 : v ≤ 64 := by omega
      rw [hu] at HS
      have k2 := HS.out.rb.eight
      have k3 := HS.out.rb.f
      clear hu hv hp1 hp2 h64
      go_wp2_with fail
      go_region
      have HN := Lib.hid ((HS.out.order v).carry (Ext.refl _).drew)
      all_goals
        go_wp2
        go_roundw
        case rel => exact ⟨c + 1, by omega, by go_num, by rw [HV.out]; exact HN.out⟩
        case measure => simp [intOf]; omega
    · obtain rfl : k = c := by omega
      obtain ⟨q, hq⟩ : ∃ q, p ^ k = q := ⟨_, rfl⟩
      have HQ := Lib.hid hq
      have hq2 : 2 ≤ q := by have := HQ2.out; rw [hq] at this; exact this
      rw [hq] at HS HMUL HADD h64
      have k2 := HS.out.rb.eight
      have HPN : Hid (∀ c, c < n → q ^ c * q = q ^ (c + 1)) := fun c _ => rfl
      have HPL : Hid (∀ c, c ≤ n → q ^ c ≤ q ^ n) := fun c hc => Nat.pow_le_pow_right (by omega) hc
      have HP0 : Hid (q ^ 0 = 1) := rfl
      clear hq hlt
      obtain ⟨wB, rfl⟩ : ∃ wB : World, wB = wr := ⟨_, rfl⟩
      go_wp2
      go_loop [8, 53] (fun y a => ∃ c : Nat, c ≤ n ∧ a = .int .i64 c ∧ y = .int .i64 (q ^ c : Nat) ∧ q ^ c ≤ 4096) (fun _ a => n - (intOf a).toNat)
      case atStart => exact ⟨0, by omega, rfl, by rw [HP0.out]; rfl, by rw [HP0.out]; omega⟩
      case round =>
        obtain ⟨c, hcn, rfl, rfl, hle⟩ := hrel
        by_cases hlt : c < n
        · have hp1 := HPN.out c hlt
          obtain ⟨u, hu⟩ : ∃ u, q ^ c = u := ⟨_, rfl⟩
          obtain ⟨v, hv⟩ : ∃ v, q ^ (c + 1) = v := ⟨_, rfl⟩
          have HV := Lib.hid hv
          rw [hu] at hle
          rw [hu, hv] at hp1
          have hm : (u : Int) * (q : Int) = (v : Nat) := by rw [← hp1, Int.natCast_mul]
          have hvb : v ≤ 262144 := by rw [← hp1]; exact Nat.mul_le_mul hle h64
          rw [hu]
          clear hu hv hp1
          by_cases hbig : 4096 < v
          · have b3 : decide (4096 < (v : Int)) = true := decide_eq_true (by omega)
            have HF : Hid (4096 < q ^ n) := by have := HPL.out (c + 1) (by omega); have h2 := HV.out; show _ < _; omega
            have HE := Lib.hid HS.out.ext
            go_wp2
            refine bodyPost_ret (v := .tuple #[.pointer none, .int .i64 3]) (by simp [results, Tryd.results57, go_sem]) rfl ?_
            rw [HQ.out]
            exact ⟨fun _ => ⟨rfl, HE.out⟩, fun h => absurd HF.out (by omega)⟩
          · have b3 : decide (4096 < (v : Int)) = false := decide_eq_false (by omega)
            go_wp2
            go_round
            case rel => exact ⟨c + 1, by omega, by go_num, by rw [HV.out], by rw [HV.out]; omega⟩
            case measure => simp [intOf]; omega
        · obtain rfl : n = c := by omega
          obtain ⟨N, hN⟩ : ∃ N, q ^ n = N := ⟨_, rfl⟩
          rw [hN] at hle
          have HNN := Lib.hid hN
          clear hN HPN HPL HP0
          go_wp2
          have HTA : Hid (∃ (mo so io : Option Addr) (mc sc ic : Nat), OpnSt w wB p k ao k cap b n q mo 0 mc so 0 sc io 0 ic ∧ Tabs3 wB (b + 1) mo 0 mc so 0 sc io 0 ic (ltab (mulR p k low q) 0) (ltab (addR p k q) 0) (tab (invI p k low q) 0)) :=
            ⟨none, none, none, 0, 0, 0, HS.out, Tabs3.nil _ (by have := HS.out.rb.lt; omega)⟩
          clear HS k2
          go_loopw [68] (fun x wr => ∃ i : Nat, i ≤ q ∧ x = .int .i64 i ∧ ∃ (mo so io : Option Addr) (mc sc ic : Nat), OpnSt w wr p k ao k cap b n q mo i mc so i sc io i ic ∧ Tabs3 wr (b + 1) mo i mc so i sc io i ic (ltab (mulR p k low q) i) (ltab (addR p k q) i) (tab (invI p k low q) i)) (fun x _ => q - (intOf x).toNat)
          case atStart => exact ⟨0, by omega, rfl, HTA.out⟩
          case round =>
            obtain ⟨i, hiq, rfl, mo, so, io, mc, sc, ic, hst, htb⟩ := hrel
            have HS := Lib.hid hst
            have HT := Lib.hid htb
            clear hst htb HTA
            by_cases hlt : i < q
            · obtain ⟨wo, rfl⟩ : ∃ wo : World, wo = wr := ⟨_, rfl⟩
              have k2 := HS.out.rb.eight
              have HTW : Hid (Twos wo wo none 0 0 none 0 0 [] []) := ⟨Ext.refl _, RowOf.nil _ _ _, RowOf.nil _ _ _, fun b h => by cases h⟩
              go_wp2
              go_loopw [10, 11, 75] (fun x y z wr => ∃ (m tc uc : Nat) (ta uo : Option Addr), m ≤ q ∧ z = .int .i64 m ∧ x = .slice ta m tc ∧ y = .slice uo m uc ∧ Twos wo wr ta m tc uo m uc (tab (fun c => (mulF p k (nth low) i c : Nat)) m) (tab (fun c => (addF p k i c : Nat)) m)) (fun _ _ z _ => q - (intOf z).toNat)
              case atStart => exact ⟨0, 0, 0, none, none, by omega, rfl, rfl, rfl, HTW.out⟩
              case round =>
                obtain ⟨m, tc, uc, ta, uo, hmq, rfl, rfl, rfl, htw⟩ := hrel
                have HW := Lib.hid htw
                clear htw HTW k2
                by_cases hlm : m < q
                · have k3 := (HS.out.fb.ext HW.out.ext).three
                  have HXA : Hid (Ext w wr) := HS.out.ext.trans HW.out.ext
                  have HVM : Hid (tab (fun c => ((mulF p k (nth low) i c : Nat) : Int)) (m + 1) = tab (fun c => ((mulF p k (nth low) i c : Nat) : Int)) m ++ [((mulF p k (nth low) i m : Nat) : Int)]) := rfl
                  have HVA : Hid (tab (fun c => ((addF p k i c : Nat) : Int)) (m + 1) = tab (fun c => ((addF p k i c : Nat) : Int)) m ++ [((addF p k i m : Nat) : Int)]) := rfl
                  have HM := Lib.hid (HMUL.out wr i m HXA.out hlt hlm)
                  have HA := Lib.hid (fun w' hx => HADD.out w' i m hx hlt hlm)
                  obtain ⟨vm, hvm⟩ : ∃ v, mulF p k (nth low) i m = v := ⟨_, rfl⟩
                  obtain ⟨va, hva⟩ : ∃ v, addF p k i m = v := ⟨_, rfl⟩
                  rw [hvm] at HM HVM
                  rw [hva] at HA HVA
                  clear hvm hva
                  go_wp2_with fail
                  refine Calls.mono HM.out ?_
                  rintro e w2 ⟨rfl, hx2⟩
                  have HW2 := Lib.hid (HW.out.carry hx2)
                  have HX2 := Lib.hid (HXA.out.trans hx2)
                  have k4 := (HS.out.fb.ext HW2.out.ext).three
                  clear hx2 k3
                  go_wp2_with fail
                  refine Calls.mono (HA.out _ HX2.out) ?_
                  rintro e w3 ⟨rfl, hx3⟩
                  have HW3 := Lib.hid (HW2.out.carry hx3)
                  clear hx3 k4
                  have h3s := HW3.out.ext.size
                  go_wp2_with (at_builtin; first | (refine wpList_one eInt rfl (.tmp 92) (.tmp 94) rfl wo.heap.size (by rfl) ((HW3.out.carry (ext_box _ _ _)).t) ⟨w3.heap.size, 0, none⟩ (.int .i64 vm) (by rfl) (by rw [World.cell?_alloc_at _ _ _ _ rfl]; rfl) rfl (by omega) (by simp; omega) ?_; intro to4 tc4 w4 hr4 hg4 ha4; have HW4 := Lib.hid (Twos.on (HW3.out.carry (ext_box _ _ _)) hr4 hg4 ha4); clear hr4 hg4 ha4; have h4s := HW4.out.ext.size) | (refine wpList_one eInt rfl (.tmp 96) (.tmp 98) rfl wo.heap.size (by rfl) ((HW4.out.carry (ext_box _ _ _)).u) ⟨w4.heap.size, 0, none⟩ (.int .i64 va) (by rfl) (by rw [World.cell?_alloc_at _ _ _ _ rfl]; rfl) rfl (by omega) (by simp; omega) ?_; intro to5 tc5 w5 hr5 hg5 ha5; have HW5 := Lib.hid (Twos.on (HW4.out.carry (ext_box _ _ _)).swap hr5 hg5 ha5).swap; clear hr5 hg5 ha5))
                  go_roundw
                  case rel => exact ⟨m + 1, tc4, tc5, to4, to5, by omega, by go_num, rfl, rfl, by rw [HVM.out, HVA.out]; exact HW5.out⟩
                  case measure => simp [intOf]; omega
                · obtain rfl : q = m := by omega
                  have hbw := HS.out.rb.lt
                  have HR0 : Hid (R29 w wo wr p k ao k cap b n q mo i mc so i sc mo i mc so i sc io i ic ta q tc uo uc (ltab (mulR p k low q) i) (ltab (addR p k q) i) (tab (invI p k low q) i) (mulR p k low q i) (addR p k q i)) :=
                    ⟨HS.out.carry HW.out.ext, HT.out.ext HW.out.ext, HW.out.t, HW.out.u, ⟨hbw, HW.out.ext.size, by unfold maxLen; omega⟩,
                      ⟨fun c hc e => by have := (HT.out.mul.block c hc).2; have := (HW.out.t.block c e).1; omega, fun c hc e => by have := (HT.out.mul.block c hc).2; have := (HW.out.u.block c e).1; omega⟩,
                      ⟨fun c hc e => by have := (HT.out.add.block c hc).2; have := (HW.out.t.block c e).1; omega, fun c hc e => by have := (HT.out.add.block c hc).2; have := (HW.out.u.block c e).1; omega⟩, fun c hc => (HT.out.inv.block c hc).2⟩
                  have k2 := HR0.out.op.rb.eight
                  have k3 := HR0.out.op.rb.f
                  have h0s := HR0.out.sz.2.1
                  have hi9 : i ≤ 1099511627776 := by omega
                  have l1 : b < wr.heap.size := by omega
                  have l2 : b < wr.heap.size + 1 := by omega
                  have n1 : b ≠ wr.heap.size := by omega
                  have n2 : b ≠ wr.heap.size + 1 := by omega
                  have HOM : Hid (∀ c, (Value.slice mo i mc).ownBlock = some c → c < wo.heap.size) := fun c hc => (HT.out.mul.block c hc).2
                  have HOA : Hid (∀ c, (Value.slice so i sc).ownBlock = some c → c < wo.heap.size) := fun c hc => (HT.out.add.block c hc).2
                  go_upto_region 29 with fail
                  go_cut [] (fun wx => ∃ (mo' so' : Option Addr) (mc' sc' : Nat), OpnSt w wx p k ao k cap b n q mo' (i + 1) mc' so' (i + 1) sc' io i ic ∧ Tabs3 wx (b + 1) mo' (i + 1) mc' so' (i + 1) sc' io i ic (ltab (mulR p k low q) (i + 1)) (ltab (addR p k q) (i + 1)) (tab (invI p k low q) i) ∧ RowOf 3 wx wo.heap.size ta q tc (ints (mulR p k low q i)))
                  case first =>
                    clear HO HMUL HADD HPW HQ2 HPS hpos hk6 hk1 hp61 HRD HST HWB HQ HNN h64 hle hck hcn HW HT HS b1 b2 hn1 hn6
                    go_region_law (first | (refine R29.stepA HRm.out HOA.out hi9 rfl (.tmp 113) (.tmp 115) rfl ?_ ?_ ?_ ?_; (next => ((repeat (first | exact Ext.refl _ | refine Ext.alloc ?_ _ | refine Ext.drew ?_)); done)); (next => (first | rfl | (simp [Act.eval, Act.put]; done))); (next => refine ⟨_, rfl, ?_⟩; (first | (simp [World.cell?_alloc_at]; done) | (exact kb _ _ (by first | omega | (simp; omega)) (by simp [World.cell?_alloc_at, World.cell?_alloc_past])) | (simp [World.cell?_alloc_past, World.cell?_alloc_at]; done))); intro so9 sc9 w9 hr_ kb hz9; have HRf := Lib.hid hr_; clear hr_; have q1 := HRf.out.op.rb.eight; have q2 := HRf.out.op.rb.f) | (refine R29.stepM HRa.out HOM.out hi9 rfl (.tmp 106) (.tmp 108) rfl ?_ ?_ ?_ ?_; (next => ((repeat (first | exact Ext.refl _ | refine Ext.alloc ?_ _ | refine Ext.drew ?_)); done)); (next => (first | rfl | (simp [Act.eval, Act.put]; done))); (next => refine ⟨_, rfl, ?_⟩; (first | (simp [World.cell?_alloc_at]; done) | (exact kb _ _ (by first | omega | (simp; omega)) (by simp [World.cell?_alloc_at, World.cell?_alloc_past])) | (simp [World.cell?_alloc_past, World.cell?_alloc_at]; done))); intro mo9 mc9 w9 hr_ kb hz9; have HRf := Lib.hid hr_; clear hr_; have q1 := HRf.out.op.rb.eight; have q2 := HRf.out.op.rb.f) | (refine R29.stepM HR0.out HOM.out hi9 rfl (.tmp 106) (.tmp 108) rfl ?_ ?_ ?_ ?_; (next => ((repeat (first | exact Ext.refl _ | refine Ext.alloc ?_ _ | refine Ext.drew ?_)); done)); (next => (first | rfl | (simp [Act.eval, Act.put]; done))); (next => refine ⟨_, rfl, ?_⟩; (first | (simp [World.cell?_alloc_at]; done) | (exact kb _ _ (by first | omega | (simp; omega)) (by simp [World.cell?_alloc_at, World.cell?_alloc_past])) | (simp [World.cell?_alloc_past, World.cell?_alloc_at]; done))); intro mo9 mc9 w8 hr_ kb hz8; have HRm := Lib.hid hr_; clear hr_; have q1 := HRm.out.op.rb.eight; have q2 := HRm.out.op.rb.f; have q3 := HRm.out.op.rb.lt; have q4 : b ≠ w8.heap.size := (by omega); have q6 : b < w8.heap.size + 1 := (by omega); have q5 : b ≠ w8.heap.size + 1 := (by omega)) | (refine R29.stepA HR0.out HOA.out hi9 rfl (.tmp 113) (.tmp 115) rfl ?_ ?_ ?_ ?_; (next => ((repeat (first | exact Ext.refl _ | refine Ext.alloc ?_ _ | refine Ext.drew ?_)); done)); (next => (first | rfl | (simp [Act.eval, Act.put]; done))); (next => refine ⟨_, rfl, ?_⟩; (first | (simp [World.cell?_alloc_at]; done) | (exact kb _ _ (by first | omega | (simp; omega)) (by simp [World.cell?_alloc_at, World.cell?_alloc_past])) | (simp [World.cell?_alloc_past, World.cell?_alloc_at]; done))); intro so9 sc9 w8 hr_ kb hz8; have HRa := Lib.hid hr_; clear hr_; have q1 := HRa.out.op.rb.eight; have q2 := HRa.out.op.rb.f; have q3 := HRa.out.op.rb.lt; have q4 : b ≠ w8.heap.size := (by omega); have q6 : b < w8.heap.size + 1 := (by omega); have q5 : b ≠ w8.heap.size + 1 := (by omega)) | fail)
                    all_goals
                      go_wp2_with fail
                      go_meet
                      first | exact ⟨mo9, so9, mc9, sc9, HRf.out.fin.1⟩ | exact ⟨mo9, so9, mc9, sc9, HRf.out.fin.2⟩
                  case rest =>
                    obtain ⟨mo2, so2, mc2, sc2, hst, htb, hrow⟩ := hcut
                    have HS2 := Lib.hid hst
                    have HT2 := Lib.hid htb
                    have HR2 := Lib.hid hrow
                    clear hst htb hrow HR0 k2 k3
                    have HVI : Hid (tab (invI p k low q) (i + 1) = tab (invI p k low q) i ++ [invI p k low q i]) := rfl
                    have HIX : Hid (∀ w', Reads w' ta (ints (mulR p k low q i)) → _) := fun w' (h : Reads w' ta (ints (mulR p k low q i))) => index_any ta q tc (mulR p k low q i) 1 w' (tab_length _ _) (by unfold maxLen; omega) h
                    have hiv : idxFrom (fun x => (1 : Int) == x) (mulR p k low q i) 0 = invI p k low q i := rfl
                    rw [hiv] at HIX
                    obtain ⟨iv, hiv2⟩ : ∃ iv, invI p k low q i = iv := ⟨_, rfl⟩
                    rw [hiv2] at HIX HVI
                    clear hiv hiv2
                    have k4 := HS2.out.rb.eight
                    have k5 := HS2.out.rb.f
                    have l3 := HS2.out.rb.lt
                    go_upto_region 30 with fail
                    have HEN : ∀ (args : Array Value) (w : World), (callFunc 61 args).run Tryd.prog w = .ok (.enter 61 args) w := fun _ _ => rfl
                    have HEN := Lib.hid HEN
                    go_region_law (first | (refine step_callS (f := 61) (xs := #[.tmp 126, .const (.int .i64 1)]) (ats := #[22, 3]) (args := #[.slice ta q tc, .int .i64 1]) (.int .i64 iv) ?_ ?_ HEN.out ?_ (HIX.out _ ?_) ?_; (next => rfl); (next => rfl); (next => simp [Act.eval, Act.put]; done); (next => refine Ext.reads (w := wc) ?_ HR2.out.reads; (repeat (first | exact Ext.refl _ | refine Ext.alloc ?_ _ | refine Ext.drew ?_)); done); rintro w5 rfl) | (refine Tabs3.stepI (y := iv) HT2.out HS2.out hi9 rfl (.tmp 125) (.tmp 128) rfl ?_ ?_ ?_ ?_; (next => ((repeat (first | exact Ext.refl _ | refine Ext.alloc ?_ _ | refine Ext.drew ?_)); done)); (next => (first | rfl | (simp [Act.eval]; done))); (next => refine ⟨_, rfl, ?_⟩; first | (simp [World.cell?_alloc_at]; done) | (rw [World.drew_cell]; simp [World.cell?_alloc_at])); intro io9 ic9 w9 hr_ hb_; have HF := Lib.hid hr_; have q1 := hb_.eight; have q2 := hb_.f; clear hr_ hb_))
                    all_goals
                      go_wp2
                      go_roundw
                      case rel => exact ⟨i + 1, by omega, by go_num, mo2, so2, io9, mc2, sc2, ic9, HF.out.1, by rw [HVI.out]; exact HF.out.2⟩
                      case measure => simp [intOf]; omega
            · obtain rfl : q = i := by omega
              have HE : Hid (∃ b', b' = b ∧ RoomAt wr b p k low n ∧ w.heap.size ≤ b) := by
                have hm := HT.out.mul.readsL
                have ha := HT.out.add.readsL
                have hi := HT.out.inv.reads
                have hq := HQ.out
                have hwb := HWB.out
                refine ⟨b, rfl, ⟨HS.out.rb.lt, ao, mo, so, io, cap, mc, sc, ic, ?_, ?_, ?_, ?_⟩, hwb⟩
                · rw [hq]; exact HS.out.rb
                · rw [hq]; exact hm
                · rw [hq]; exact ha
                · rw [hq]; exact hi
              have HEX := Lib.hid HS.out.ext
              go_wp2
              refine bodyPost_ret (v := .tuple #[.pointer (some ⟨b, 0, none⟩), .int .i64 0]) (by simp [results, Tryd.results57, go_sem]) rfl ?_
              rw [HQ.out, HNN.out]
              obtain ⟨_, _, h1, h2⟩ := HE.out
              exact ⟨fun h => absurd hle (by omega), fun _ => ⟨b, rfl, h1, h2, HEX.out⟩⟩

end Go.Proofs.YtnhdngnolepkcaaDoor
