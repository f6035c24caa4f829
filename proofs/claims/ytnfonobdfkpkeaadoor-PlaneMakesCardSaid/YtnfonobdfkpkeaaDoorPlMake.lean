/- What plane.Make answers. Condition: primes. -/
import Derived.Test.YtnfonobdfkpkeaaDoorPlProduct
namespace Go.Proofs.YtnfonobdfkpkeaaDoor
open Go.RowKit
set_option linter.unusedVariables false

/-! ### Plain -/
/-- The numbers below m that are meant. -/
def selTo (S : Nat → Bool) : Nat → List Int
  | 0 => []
  | j + 1 => if S j = true then selTo S j ++ [(j : Int)] else selTo S j
theorem selTo_len (S : Nat → Bool) : ∀ j, (selTo S j).length ≤ j
  | 0 => Nat.le_refl _
  | j + 1 => by
    rw [selTo]
    have := selTo_len S j
    split
    · rw [List.length_append]; simp; omega
    · omega
def blksTo (Q : Nat → Nat → Bool) (m : Nat) : Nat → List (List Int)
  | 0 => []
  | i + 1 => blksTo Q m i ++ [selTo (Q i) m]
theorem blksTo_len (Q : Nat → Nat → Bool) (m : Nat) : ∀ i, (blksTo Q m i).length = i
  | 0 => rfl
  | i + 1 => by rw [blksTo, List.length_append, blksTo_len Q m i]; rfl
/-- The triples of an order; how many. -/
def triL (q : Nat) : List Nat := tri q (q * q * q)
def triAt (q i : Nat) : Nat := (triL q).getD i 0
theorem triL_len (q : Nat) (h2 : 2 ≤ q) (h5 : q ≤ 5) : 1 ≤ (triL q).length ∧ (triL q).length ≤ 31 := by
  have : q = 2 ∨ q = 3 ∨ q = 4 ∨ q = 5 := by omega
  rcases this with rfl | rfl | rfl | rfl <;> decide +kernel
theorem triAt_lt (q : Nat) (h2 : 2 ≤ q) {i : Nat} (hi : i < (triL q).length) : pX q (triAt q i) < q ∧ pY q (triAt q i) < q ∧ pZ q (triAt q i) < q := by
  refine tri_lt q h2 ?_
  unfold triAt
  rw [List.getD_eq_getElem?_getD, List.getElem?_eq_getElem hi]
  exact List.getElem_mem hi
/-- Do point j and block i go together? -/
def meetB (p k : Nat) (low : List Int) (i j : Nat) : Bool :=
  dot3 p k low (pX (p ^ k) (triAt (p ^ k) i)) (pY (p ^ k) (triAt (p ^ k) i)) (pZ (p ^ k) (triAt (p ^ k) i)) (pX (p ^ k) (triAt (p ^ k) j)) (pY (p ^ k) (triAt (p ^ k) j)) (pZ (p ^ k) (triAt (p ^ k) j)) == 0
/-- Does point i lie on the curve? -/
def onB (p k : Nat) (low : List Int) (i : Nat) : Bool :=
  mulF p k (nth low) (pY (p ^ k) (triAt (p ^ k) i)) (pY (p ^ k) (triAt (p ^ k) i)) == mulF p k (nth low) (pX (p ^ k) (triAt (p ^ k) i)) (pZ (p ^ k) (triAt (p ^ k) i))

/-- The cells of triples that are read. -/
def TriCells (q g : Nat) (W : World) : Prop := ∀ i, i < (triL q).length → W.cell? ⟨g, i * 3, none⟩ = some (.int .i64 (pX q (triAt q i) : Nat)) ∧ W.cell? ⟨g, i * 3 + 1, none⟩ = some (.int .i64 (pY q (triAt q i) : Nat)) ∧ W.cell? ⟨g, i * 3 + 2, none⟩ = some (.int .i64 (pZ q (triAt q i) : Nat))
theorem OwnTri.opened {q : Nat} {w0 w : World} {v : Value} (h : OwnTri q w0 w v (tri q (q * q * q))) (hm : 1 ≤ (triL q).length) : ∃ g cap, v = .slice (some ⟨g, 0, none⟩) (triL q).length cap ∧ w0.heap.size ≤ g ∧ g < w.heap.size ∧ TriCells q g w ∧ Ext w0 w := by
  obtain ⟨ao, cap, rfl, h1, h2⟩ := h
  rcases h1.2 with ⟨_, e⟩ | ⟨g, cap', cur, e, hg, hh, _⟩
  · unfold triL at hm; omega
  · simp only [Value.slice.injEq] at e
    obtain ⟨rfl, -, rfl⟩ := e
    refine ⟨g, cap, rfl, hg, (Array.getElem?_eq_some_iff.1 hh).1, fun i hi => ?_, h2⟩
    obtain ⟨a, b, c⟩ := cells3_get q (triL q) i hi
    have hi' : i < (tri q (q * q * q)).length := hi
    exact ⟨(h1.cellAt _ (by omega)).trans a, (h1.cellAt _ (by omega)).trans b, (h1.cellAt _ (by omega)).trans c⟩
theorem TriCells.ext {q g : Nat} {W W' : World} (h : TriCells q g W) (hx : Ext W W') (hg : g < W.heap.size) : TriCells q g W' := fun i hi => by
  obtain ⟨a, b, c⟩ := h i hi
  exact ⟨(hx.cell hg).trans a, (hx.cell hg).trans b, (hx.cell hg).trans c⟩

theorem two_le_ord {p k : Nat} {low : List Int} (hF : IsField p k low) : 2 ≤ p ^ k := by
  have h := Nat.pow_le_pow_right (n := p) (by have := hF.p2; omega) hF.k1
  rw [Nat.pow_one] at h
  have := hF.p2
  omega

/-! ### Make -/
set_option maxHeartbeats 1000000 in
theorem plMake_bad (p k : Int) (ao : Option Addr) (len cap : Nat) (w : World) (c : Int) (hc : c ≠ 0)
    (ho : ∀ W, Ext w W → Calls Tryd.prog 13 #[.agg #[.int .i64 p, .int .i64 k, .slice ao len cap]] W fun e w' => e = .returned (.tuple #[.int .i64 0, .int .i64 c]) ∧ Ext W w') :
    Calls Tryd.prog 5 #[.agg #[.int .i64 p, .int .i64 k, .slice ao len cap]] w fun e w' => e = .returned (.tuple #[.agg #[.int .i64 0, .slice none 0 0], .int .i64 c]) ∧ Ext w w' := by
  have E : Hid (Ext w ((w.alloc (.cells #[.int .i64 p, .int .i64 k, .slice ao len cap] 24)).alloc (.cells #[.int .i64 0, .slice none 0 0] 29))) := ((Ext.refl w).alloc _).alloc _
  have X : Hid (Blk ((w.alloc (.cells #[.int .i64 p, .int .i64 k, .slice ao len cap] 24)).alloc (.cells #[.int .i64 0, .slice none 0 0] 29)) (w.heap.size + 1) #[.int .i64 0, .slice none 0 0] 29) := Blk.new' _ _ _ (by simp)
  have HO := Lib.hid (ho _ E.out)
  have b0 : (c != 0) = true := by rw [bne_iff_ne]; exact hc
  clear ho hc
  go_enter Tryd.func5, Tryd.ntmps5
  go_wp2_with fail
  refine Calls.mono HO.out ?_
  rintro e w1 ⟨rfl, hx⟩
  have X1 := Lib.hid (X.out.ext hx)
  have E1 := Lib.hid (E.out.trans hx)
  have k0 := X1.out.two
  have k1 := X1.out.f 0
  have k2 := X1.out.f 1
  clear hx
  go_wp2
  have HRB := Lib.hid ((X1.out.set 0 (.int .i64 0)).set 1 (.slice none 0 0))
  have e0 := HRB.out.c 0 (.int .i64 0) rfl
  have e1 := HRB.out.c 1 (.slice none 0 0) rfl
  refine bodyPost_ret (v := .tuple #[.agg #[.int .i64 0, .slice none 0 0], .int .i64 c]) (by simp [results, Tryd.results5, go_sem, e0, e1]) rfl ⟨rfl, ?_⟩
  exact (E1.out.set (p := ⟨w.heap.size + 1, 0, none⟩) (by simp) _).set (p := ⟨w.heap.size + 1, 1, none⟩) (by simp) _

/-- The worlds in which the blocks are made. -/
structure PlSt (w wr : World) (fs : Array Value) (q m g ob : Nat) (Q : Nat → Nat → Bool) (i : Nat) (bo : Option Addr) (bc : Nat) : Prop where
  ext : Ext w wr
  fld : Blk wr w.heap.size fs 24
  res : Blk wr (w.heap.size + 1) #[.int .i64 0, .slice none 0 0] 29
  out : Blk wr ob #[.int .i64 m, .slice bo i bc] 29
  tri : TriCells q g wr
  glt : g < wr.heap.size
  tbl : Tbl wr (fun b => ob < b) (ob + 1) bo i bc (blksTo Q m i)
  g_ob : g < ob
  w_ob : w.heap.size + 1 < ob

theorem PlSt.carry {w wr w' : World} {fs : Array Value} {q m g ob : Nat} {Q : Nat → Nat → Bool} {i : Nat} {bo : Option Addr} {bc : Nat} (h : PlSt w wr fs q m g ob Q i bo bc) (hx : Ext wr w') : PlSt w w' fs q m g ob Q i bo bc :=
  ⟨h.ext.trans hx, h.fld.ext hx, h.res.ext hx, h.out.ext hx, h.tri.ext hx h.glt, Nat.lt_of_lt_of_le h.glt hx.size, h.tbl.ext hx, h.g_ob, h.w_ob⟩

theorem PlSt.grown {w wr w' : World} {fs : Array Value} {q m g ob : Nat} {Q : Nat → Nat → Bool} {i : Nat} {bo bo' : Option Addr} {bc bc' : Nat} (h : PlSt w wr fs q m g ob Q i bo bc)
    (ht : Tbl w' (fun b => ob < b) (ob + 1) bo' (i + 1) bc' (blksTo Q m i ++ [selTo (Q i) m])) (hg : wr.grownBy w' (Value.slice bo i bc).ownBlock) (hb : ∀ B0 w0, Below B0 w0 wr → B0 ≤ ob + 1 → Below B0 w0 w') :
    Blk w' ob #[.int .i64 m, .slice bo i bc] 29 ∧ PlSt w (w'.setCell ⟨ob, 1, none⟩ (.slice bo' (i + 1) bc')) fs q m g ob Q (i + 1) bo' bc' := by
  have hne : ∀ c, c ≤ ob → some c ≠ (Value.slice bo i bc).ownBlock := fun c hc e => by have := (h.tbl.block c e.symm).1; omega
  have ho := h.out.grown hg (hne ob (by omega))
  have hwo := h.w_ob
  have hgo := h.g_ob
  have hx : Ext w w' := hb _ _ h.ext (by omega)
  refine ⟨ho, hx.set (by show w.heap.size ≤ ob; omega) _, ((h.fld.grown hg (hne _ (by omega))).beside _ (by show ob ≠ w.heap.size; omega) _), ((h.res.grown hg (hne _ (by omega))).beside _ (by show ob ≠ w.heap.size + 1; omega) _), ho.set 1 _, fun j hj => ?_, by have := h.glt; have := hg.size; simp [World.setCell]; omega, ht.beside _ (by simp) (by simp) _, h.g_ob, h.w_ob⟩
  obtain ⟨a, b, c⟩ := h.tri j hj
  have hk := hg.block g h.glt (hne g (by omega))
  have e : ∀ o, (w'.setCell ⟨ob, 1, none⟩ (.slice bo' (i + 1) bc')).cell? ⟨g, o, none⟩ = wr.cell? ⟨g, o, none⟩ := fun o => by
    rw [World.cell?_setCell_other _ _ _ _ (by simp; try omega), World.cell?_of_block (w := wr) hk]
  exact ⟨(e _).trans a, (e _).trans b, (e _).trans c⟩

set_option maxHeartbeats 8000000 in
set_option maxRecDepth 100000 in
theorem plMake_ok (p k : Nat) (ao : Option Addr) (cap : Nat) (low : List Int) (w : World) (hP : Primes w) (hF : IsField p k low) (hr : Reads w ao (ints low)) (h5 : p ^ k ≤ 5) :
    Calls Tryd.prog 5 #[.agg #[.int .i64 p, .int .i64 k, .slice ao k cap]] w fun e w' => ∃ bo bc, e = .returned (.tuple #[.agg #[.int .i64 ((triL (p ^ k)).length : Nat), .slice bo (triL (p ^ k)).length bc], .int .i64 0]) ∧ ReadsL w' bo (blksTo (meetB p k low) (triL (p ^ k)).length (triL (p ^ k)).length) ∧ Ext w w' := by
  have hq2 : 2 ≤ p ^ k := two_le_ord hF
  have HO : Hid (∀ W, Ext w W → _) := fun W (h : Ext w W) => plOpen_field p k ao cap low W (hP.ext h) hF (h.reads hr) _ 0 (.inr ⟨h5, rfl, rfl⟩)
  have HT : Hid (∀ W, _) := fun W => triples_any (p ^ k) hq2 h5 W
  have HPR : Hid (∀ W i j, Ext w W → i < (triL (p ^ k)).length → j < (triL (p ^ k)).length → _) := fun W i j (h : Ext w W) hi hj => plProduct_ok p k ao cap low W (hP.ext h) hF (h.reads hr) _ _ _ _ _ _ (triAt_lt (p ^ k) hq2 hi).1 (triAt_lt (p ^ k) hq2 hi).2.1 (triAt_lt (p ^ k) hq2 hi).2.2 (triAt_lt (p ^ k) hq2 hj).1 (triAt_lt (p ^ k) hq2 hj).2.1 (triAt_lt (p ^ k) hq2 hj).2.2
  have HMB : Hid (∀ i j, meetB p k low i j = (dot3 p k low (pX (p ^ k) (triAt (p ^ k) i)) (pY (p ^ k) (triAt (p ^ k) i)) (pZ (p ^ k) (triAt (p ^ k) i)) (pX (p ^ k) (triAt (p ^ k) j)) (pY (p ^ k) (triAt (p ^ k) j)) (pZ (p ^ k) (triAt (p ^ k) j)) == 0)) := fun i j => rfl
  obtain ⟨hm1, hm31⟩ := triL_len (p ^ k) hq2 h5
  have HOP : Hid (∀ {w0 W v}, OwnTri (p ^ k) w0 W v (tri (p ^ k) (p ^ k * p ^ k * p ^ k)) → _) := fun h => OwnTri.opened h hm1
  obtain ⟨MB, hMB⟩ : ∃ MB, meetB p k low = MB := ⟨_, rfl⟩
  obtain ⟨D, hD⟩ : ∃ D, dot3 p k low = D := ⟨_, rfl⟩
  rw [hMB, hD] at HMB
  rw [hD] at HPR
  rw [hMB]
  obtain ⟨q, hq⟩ : ∃ q, p ^ k = q := ⟨_, rfl⟩
  rw [hq] at HO HT HPR HMB hq2 HOP hm1 hm31 h5 ⊢
  have HTC : Hid (∀ g W, TriCells q g W → ∀ i, i < (triL q).length → _) := fun g W h i hi => h i hi
  obtain ⟨m, hm⟩ : ∃ m, (triL q).length = m := ⟨_, rfl⟩
  rw [hm] at HPR hm1 hm31 HOP HTC ⊢
  clear hP hF hr hMB hD hq hm
  have E : Hid (Ext w ((w.alloc (.cells #[.int .i64 p, .int .i64 k, .slice ao k cap] 24)).alloc (.cells #[.int .i64 0, .slice none 0 0] 29))) := ((Ext.refl w).alloc _).alloc _
  have F : Hid (Blk ((w.alloc (.cells #[.int .i64 p, .int .i64 k, .slice ao k cap] 24)).alloc (.cells #[.int .i64 0, .slice none 0 0] 29)) w.heap.size #[.int .i64 p, .int .i64 k, .slice ao k cap] 24) := (Blk.new w _ _).alloc _
  have X : Hid (Blk ((w.alloc (.cells #[.int .i64 p, .int .i64 k, .slice ao k cap] 24)).alloc (.cells #[.int .i64 0, .slice none 0 0] 29)) (w.heap.size + 1) #[.int .i64 0, .slice none 0 0] 29) := Blk.new' _ _ _ (by simp)
  go_enter Tryd.func5, Tryd.ntmps5
  go_wp2_with fail
  refine Calls.mono (HO.out _ E.out) ?_
  rintro e w1 ⟨rfl, hx⟩
  have E1 := Lib.hid (E.out.trans hx)
  have F1 := Lib.hid (F.out.ext hx)
  have X1 := Lib.hid (X.out.ext hx)
  clear hx
  go_wp2_with fail
  refine Calls.mono (HT.out w1) ?_
  rintro e w2 ⟨v, rfl, htr⟩
  obtain ⟨g, tc, rfl, hg1, hg2, htc, hx⟩ := HOP.out htr
  have hw1 := X1.out.lt
  have hw2 := hx.size
  have HST : Hid (PlSt w (w2.alloc (.cells #[.int .i64 m, .slice none 0 0] 29)) #[.int .i64 p, .int .i64 k, .slice ao k cap] q m g w2.heap.size MB 0 none 0) :=
    ⟨(E1.out.trans hx).alloc _, (F1.out.ext hx).alloc _, (X1.out.ext hx).alloc _, Blk.new _ _ _, htc.ext ((Ext.refl _).alloc _) hg2, by simp; omega, Tbl.nil _ _ _, hg2, by omega⟩
  obtain ⟨ob, hob⟩ : ∃ ob, w2.heap.size = ob := ⟨_, rfl⟩
  have HOB := Lib.hid hob
  clear htr htc hx hg1 hob
  go_wp2
  rw [HOB.out] at HST
  try rw [HOB.out]
  obtain ⟨wA, hwA⟩ : ∃ wA, wA = w2.alloc (.cells #[.int .i64 m, .slice none 0 0] 29) := ⟨_, rfl⟩
  rw [← hwA] at HST ⊢
  clear hwA hg2 hw1 hw2 HOB
  go_loopg [29] m (fun r x wr => ∃ (i : Nat) (bo : Option Addr) (bc : Nat), i + r = m ∧ x = .int .i64 i ∧ PlSt w wr #[.int .i64 p, .int .i64 k, .slice ao k cap] q m g ob MB i bo bc)
  case atStart => exact ⟨0, none, 0, by omega, rfl, HST.out⟩
  case round =>
    obtain ⟨i, bo, bc, him, rfl, hst⟩ := hrel
    have HS := Lib.hid hst
    clear hst HST
    cases gk with
    | zero =>
      obtain rfl : m = i := by omega
      have k0 := HS.out.out.two
      have k1 := HS.out.res.two
      have k2 := HS.out.res.f 0
      have k3 := HS.out.res.f 1
      go_wp2
      have HRB := Lib.hid ((HS.out.res.set 0 (.int .i64 (m : Int))).set 1 (.slice bo m bc))
      have e0 := HRB.out.c 0 (.int .i64 (m : Int)) rfl
      have e1 := HRB.out.c 1 (.slice bo m bc) rfl
      refine bodyPost_ret (v := .tuple #[.agg #[.int .i64 (m : Int), .slice bo m bc], .int .i64 0]) (by simp [results, Tryd.results5, go_sem, e0, e1]) rfl ⟨bo, bc, rfl, ?_, ?_⟩
      · have hwo := HS.out.w_ob
        exact ((HS.out.tbl.beside ⟨w.heap.size + 1, 0, none⟩ (by show w.heap.size + 1 < ob + 1; omega) (by show ¬ ob < w.heap.size + 1; omega) (.int .i64 (m : Int))).beside ⟨w.heap.size + 1, 1, none⟩ (by show w.heap.size + 1 < ob + 1; omega) (by show ¬ ob < w.heap.size + 1; omega) (.slice bo m bc)).readsL
      · exact (HS.out.ext.set (p := ⟨w.heap.size + 1, 0, none⟩) (by simp) _).set (p := ⟨w.heap.size + 1, 1, none⟩) (by simp) _
    | succ r1 =>
      have hil : (i : Int) < (m : Int) := by omega
      have hil' : i < m := by omega
      obtain ⟨t0, t1, t2⟩ := HTC.out g wr HS.out.tri i hil'
      go_wp2
      obtain ⟨wb, hwb⟩ : ∃ wb, wb = wr.alloc (.cells #[.int .i64 (pX q (triAt q i) : Nat), .int .i64 (pY q (triAt q i) : Nat), .int .i64 (pZ q (triAt q i) : Nat)] 45) := ⟨_, rfl⟩
      have HSb : Hid (PlSt w wb #[.int .i64 p, .int .i64 k, .slice ao k cap] q m g ob MB i bo bc) := by show PlSt _ _ _ _ _ _ _ _ _ _ _; rw [hwb]; exact HS.out.carry (ext_box _ _ _)
      have T9 : Hid (Blk wb wr.heap.size #[.int .i64 (pX q (triAt q i) : Nat), .int .i64 (pY q (triAt q i) : Nat), .int .i64 (pZ q (triAt q i) : Nat)] 45) := by show Blk _ _ _ _; rw [hwb]; exact Blk.new _ _ _
      rw [← hwb]
      have HPi : Hid (∀ W j, Ext w W → j < m → _) := fun W j h hj => HPR.out W i j h hil' hj
      have HMi : Hid (∀ j, MB i j = (D (pX q (triAt q i)) (pY q (triAt q i)) (pZ q (triAt q i)) (pX q (triAt q j)) (pY q (triAt q j)) (pZ q (triAt q j)) == 0)) := fun j => HMB.out i j
      obtain ⟨X, hX⟩ : ∃ X, pX q (triAt q i) = X := ⟨_, rfl⟩
      obtain ⟨Y, hY⟩ : ∃ Y, pY q (triAt q i) = Y := ⟨_, rfl⟩
      obtain ⟨Z, hZ⟩ : ∃ Z, pZ q (triAt q i) = Z := ⟨_, rfl⟩
      rw [hX, hY, hZ] at HPi HMi T9
      try rw [hX, hY, hZ]
      have HSL : Hid (∀ j, selTo (MB i) (j + 1) = if MB i j = true then selTo (MB i) j ++ [(j : Int)] else selTo (MB i) j) := fun j => rfl
      have HS0 : Hid (selTo (MB i) 0 = []) := rfl
      have HSN : Hid (∀ j, (selTo (MB i) j).length ≤ j) := fun j => selTo_len _ j
      clear hwb hX hY hZ t0 t1 t2
      obtain ⟨wo, rfl⟩ : ∃ wo : World, wo = wr := ⟨_, rfl⟩
      go_loopg [10, 35] m (fun r y x wx => ∃ j : Nat, j + r = m ∧ x = .int .i64 j ∧ OwnInts wb wx y (selTo (MB i) j))
      case atStart => exact ⟨0, by omega, rfl, by rw [HS0.out]; exact OwnInts.nil (Ext.refl _)⟩
      case round =>
        obtain ⟨j, hjm, rfl, bo3, n3, bc3, rfl, hrow, hx⟩ := hrel
        have HR := Lib.hid hrow
        have HX := Lib.hid hx
        have hl3 : n3 ≤ j := by have h1 := hrow.length; rw [ints_length] at h1; have h2 := HSN.out j; omega
        have hBw := hx.size
        clear hrow hx
        cases gk with
        | zero =>
          obtain rfl : m = j := by omega
          have HST2 := Lib.hid (HSb.out.carry HX.out)
          have hobw : ob < wb.heap.size := HSb.out.out.lt
          have HIN : Hid (InnerX wr (fun b => ob < b) (Value.slice bo i bc).ownBlock (.slice bo3 n3 bc3) (selTo (MB i) m)) := HR.out.innerX _ _ (fun b hb => by omega) (fun b hb => (HSb.out.tbl.block b hb).2) (by unfold maxLen; omega)
          have k0 := HST2.out.out.two
          have hobw2 : ob + 1 ≤ wr.heap.size := by omega
          go_wp2_with (at_builtin; refine wpList_appRow rfl (.tmp 51) (.tmp 53) rfl (fun b => ob < b) (ob + 1) (by rfl) HST2.out.tbl (by rfl) HIN.out (by omega) hobw2 ?_; intro ao4 cap4 w4 hr4 hg4 hb4; have HG := Lib.hid (HST2.out.grown hr4 hg4 hb4); have k1 := HG.out.1.two; have k2 := HG.out.1.f 1; clear hr4 hg4 hb4)
          go_roundg r1
          case measure => omega
          case rel => exact ⟨i + 1, ao4, cap4, by omega, by go_num, HG.out.2⟩
        | succ r2 =>
          have hjl : (j : Int) < (m : Int) := by omega
          have hjl' : j < m := by omega
          have hst2 := HSb.out.carry HX.out
          obtain ⟨t0, t1, t2⟩ := HTC.out g wr hst2.tri j hjl'
          have HPj := Lib.hid (HPi.out (wr.alloc (.cells #[.int .i64 (pX q (triAt q j) : Nat), .int .i64 (pY q (triAt q j) : Nat), .int .i64 (pZ q (triAt q j) : Nat)] 45)) j (hst2.ext.alloc _) hjl')
          have HMj := Lib.hid (HMi.out j)
          have HSj := Lib.hid (HSL.out j)
          have kf := (hst2.fld.alloc (.cells #[.int .i64 (pX q (triAt q j) : Nat), .int .i64 (pY q (triAt q j) : Nat), .int .i64 (pZ q (triAt q j) : Nat)] 45)).three
          have k9 := ((T9.out.ext HX.out).alloc (.cells #[.int .i64 (pX q (triAt q j) : Nat), .int .i64 (pY q (triAt q j) : Nat), .int .i64 (pZ q (triAt q j) : Nat)] 45)).three
          obtain ⟨A, hA⟩ : ∃ A, pX q (triAt q j) = A := ⟨_, rfl⟩
          obtain ⟨B, hB⟩ : ∃ B, pY q (triAt q j) = B := ⟨_, rfl⟩
          obtain ⟨C, hC⟩ : ∃ C, pZ q (triAt q j) = C := ⟨_, rfl⟩
          rw [hA, hB, hC] at HPj HMj kf k9
          rw [hA] at t0
          rw [hB] at t1
          rw [hC] at t2
          obtain ⟨d, hd⟩ : ∃ d, D X Y Z A B C = d := ⟨_, rfl⟩
          rw [hd] at HPj HMj
          obtain ⟨t, ht⟩ : ∃ t, MB i j = t := ⟨_, rfl⟩
          rw [ht] at HMj HSj
          have HD0 : Hid (((d : Int) == 0) = t) := by
            show _ = _
            rw [HMj.out, Bool.eq_iff_iff, beq_iff_eq, beq_iff_eq]; omega
          clear hst2 hA hB hC hd ht HMj
          have hd0 := HD0.out
          go_wp2_with fail
          refine Calls.mono HPj.out ?_
          rintro e w5 ⟨rfl, hx5⟩
          have HX5 := Lib.hid ((HX.out.alloc (.cells #[.int .i64 (A : Int), .int .i64 (B : Int), .int .i64 (C : Int)] 45)).trans hx5)
          have HR5 := Lib.hid (((ext_box wr #[.int .i64 (A : Int), .int .i64 (B : Int), .int .i64 (C : Int)] 45).trans hx5).row HR.out)
          have hs5 := HX5.out.size
          clear hx5 kf k9 t0 t1 t2
          cases t with
          | true =>
            rw [if_pos rfl] at HSj
            go_wp2_with (at_builtin; refine wpList_appInt eInt rfl (.tmp 45) (.tmp 47) rfl wb.heap.size (by rfl) HR5.out (by rfl) (by omega) hs5 ?_; intro ao4 cap4 w4 hr4 hg4 hb4; have HR4 := Lib.hid hr4; have HB4 := Lib.hid (hb4 _ _ HX5.out (Nat.le_refl _)); clear hr4 hg4 hb4)
            go_roundg r2
            case measure => omega
            case rel => exact ⟨j + 1, by omega, by go_num, ao4, n3 + 1, cap4, rfl, by rw [HSj.out, ints_append, ints_one]; exact HR4.out, HB4.out⟩
          | false =>
            rw [if_neg (by simp)] at HSj
            go_wp2
            go_roundg r2
            case measure => omega
            case rel => exact ⟨j + 1, by omega, by go_num, bo3, n3, bc3, rfl, by rw [HSj.out]; exact HR5.out, HX5.out⟩

end Go.Proofs.YtnfonobdfkpkeaaDoor
