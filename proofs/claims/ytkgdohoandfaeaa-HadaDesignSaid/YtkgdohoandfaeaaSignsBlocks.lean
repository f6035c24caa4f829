/- What parterreref3.SignsBlocks makes of a matrix of signs. -/
import Derived.Test.YtkgdohoandfaeaaEvenOf
import Derived.Test.YtkgdohoandfaeaaTbl
namespace Go.Proofs.Ytkgdohoandfaeaa
open Go.RowKit

/-- The numbers behind which 1 stands in row i, as far as m. -/
def onesTo (ys : List Int) (n i : Nat) : Nat → List Int
  | 0 => []
  | m + 1 => if nth ys (i * n + (m + 1)) = 1 then onesTo ys n i m ++ [(m : Int)] else onesTo ys n i m
/-- The blocks of the first rows behind the first. -/
def blocksTo (ys : List Int) (n : Nat) : Nat → List (List Int)
  | 0 => []
  | k + 1 => blocksTo ys n k ++ [onesTo ys n (k + 1) (n - 1)]
/-- The blocks. -/
def blocksOf (n : Nat) (ys : List Int) : List (List Int) := blocksTo ys n (n - 1)
theorem onesTo_length (ys : List Int) (n i : Nat) : ∀ m, (onesTo ys n i m).length ≤ m
  | 0 => by simp [onesTo]
  | m + 1 => by
    have := onesTo_length ys n i m
    rw [onesTo]; split
    · simp; omega
    · omega
theorem blocksTo_length (ys : List Int) (n : Nat) : ∀ k, (blocksTo ys n k).length = k
  | 0 => rfl
  | k + 1 => by rw [blocksTo, List.length_append, blocksTo_length ys n k]; rfl

/-- The worlds in which the blocks are made. -/
structure BkSt (w wr : World) (r tb ob n g len cap k : Nat) (ao : Option Addr) (cap' : Nat) (ys : List Int) : Prop where
  ext : Ext w wr
  res : Blk wr r #[.int .i64 0, .slice none 0 0] 33
  tab : Blk wr tb #[.int .i64 n, .slice (some ⟨g, 0, none⟩) len cap] 24
  out : Blk wr ob #[.int .i64 ((n : Int) - 1), .slice ao k cap'] 33
  cells : ∀ j, j < len → wr.cell? ⟨g, j, none⟩ = some (.int .i64 (nth ys j))
  glt : g < wr.heap.size
  tbl : Tbl wr (fun b => ob < b) (ob + 1) ao k cap' (blocksTo ys n k)
  g_ob : g < ob
  t_ob : tb < ob
  r_ob : r < ob
  w_r : w.heap.size ≤ r

theorem BkSt.carry {w wr w' : World} {r tb ob n g len cap k : Nat} {ao : Option Addr} {cap' : Nat} {ys : List Int} (h : BkSt w wr r tb ob n g len cap k ao cap' ys) (hx : Ext wr w') : BkSt w w' r tb ob n g len cap k ao cap' ys :=
  ⟨h.ext.trans hx, h.res.ext hx, h.tab.ext hx, h.out.ext hx, fun j hj => (hx.cell h.glt).trans (h.cells j hj), Nat.lt_of_lt_of_le h.glt hx.size, h.tbl.ext hx, h.g_ob, h.t_ob, h.r_ob, h.w_r⟩

theorem BkSt.grown {w wr w' : World} {r tb ob n g len cap k : Nat} {ao ao' : Option Addr} {cap' cap'' : Nat} {ys : List Int} (h : BkSt w wr r tb ob n g len cap k ao cap' ys)
    (ht : Tbl w' (fun b => ob < b) (ob + 1) ao' (k + 1) cap'' (blocksTo ys n k ++ [onesTo ys n (k + 1) (n - 1)])) (hg : wr.grownBy w' (Value.slice ao k cap').ownBlock) (hb : ∀ B0 w0, Below B0 w0 wr → B0 ≤ ob + 1 → Below B0 w0 w') :
    Blk w' ob #[.int .i64 ((n : Int) - 1), .slice ao k cap'] 33 ∧ BkSt w (w'.setCell ⟨ob, 1, none⟩ (.slice ao' (k + 1) cap'')) r tb ob n g len cap (k + 1) ao' cap'' ys := by
  have hne : ∀ c, c ≤ ob → some c ≠ (Value.slice ao k cap').ownBlock := fun c hc e => by have := (h.tbl.block c e.symm).1; omega
  have ho := h.out.grown hg (hne ob (by omega))
  have hwo : w.heap.size ≤ ob := by have := h.w_r; have := h.r_ob; omega
  have hgt : g < w'.heap.size := Nat.lt_of_lt_of_le h.glt hg.size
  have hx : Ext w w' := hb _ _ h.ext (by omega)
  refine ⟨ho, hx.set (by simpa using hwo) _, ((h.res.grown hg (hne r (by have := h.r_ob; omega))).beside _ (by have := h.r_ob; simp; omega) _), ((h.tab.grown hg (hne tb (by have := h.t_ob; omega))).beside _ (by have := h.t_ob; simp; omega) _), ho.set 1 _, fun j hj => ?_, by simpa [World.setCell] using hgt, ?_, h.g_ob, h.t_ob, h.r_ob, h.w_r⟩
  · rw [World.cell?_setCell_other _ _ _ _ (by have := h.g_ob; simp; try omega), World.cell?_of_block (w := wr) (hg.block g h.glt (hne g (by have := h.g_ob; omega)))]
    exact h.cells j hj
  · exact ht.beside _ (by simp) (by simp) _

set_option maxHeartbeats 1000000 in
theorem signsBlocks_small (n : Nat) (ao : Option Addr) (len cap : Nat) (w : World) (hn : n < 4) :
    Calls Try.prog 13 #[.agg #[.int .i64 n, .slice ao len cap]] w fun e w' =>
      e = .returned (.tuple #[.agg #[.int .i64 0, .slice none 0 0], .int .i64 2]) ∧ Ext w w' := by
  have b1 : decide ((n : Int) < 4) = true := decide_eq_true (by omega)
  have E : Hid (Ext w ((w.alloc (.cells #[.int .i64 n, .slice ao len cap] 24)).alloc (.cells #[.int .i64 0, .slice none 0 0] 33))) := ((Ext.refl w).alloc _).alloc _
  go_enter Try.func13, Try.ntmps13
  go_wp2
  refine bodyPost_ret (v := .tuple #[.agg #[.int .i64 0, .slice none 0 0], .int .i64 2]) (by simp [results, Try.results13, go_sem]) rfl ⟨rfl, ?_⟩
  exact E.out

set_option maxHeartbeats 2000000 in
theorem signsBlocks_any (n : Nat) (ao : Option Addr) (len cap : Nat) (xs : List Int) (w : World) (hl : xs.length = len) (hr : Reads w ao (ints xs)) (hm : IsMat n xs) (h4 : 4 ≤ n) :
    Calls Try.prog 13 #[.agg #[.int .i64 n, .slice ao len cap]] w fun e w' =>
      ∃ ao' cap', e = .returned (.tuple #[.agg #[.int .i64 ((n : Int) - 1), .slice ao' (n - 1) cap'], .int .i64 0]) ∧ ReadsL w' ao' (blocksOf n (evenOf n xs)) ∧ Ext w w' := by
  have n24 := hm.big
  have b1 : decide ((n : Int) < 4) = false := decide_eq_false (by omega)
  have X0 : Hid (Blk ((w.alloc (.cells #[.int .i64 n, .slice ao len cap] 24)).alloc (.cells #[.int .i64 0, .slice none 0 0] 33)) (w.heap.size + 1) #[.int .i64 0, .slice none 0 0] 33) := Blk.new' _ _ _ (by simp)
  have E0 : Hid (Ext w ((w.alloc (.cells #[.int .i64 n, .slice ao len cap] 24)).alloc (.cells #[.int .i64 0, .slice none 0 0] 33))) := ((Ext.refl w).alloc _).alloc _
  have HE := Lib.hid (evenOf_any n ao len cap xs _ hl (E0.out.reads hr) hm)
  have HL := Lib.hid (evenOf_length n xs)
  have HM := Lib.hid (isMat_evenOf hm)
  obtain ⟨ys, hys⟩ : ∃ ys, evenOf n xs = ys := ⟨_, rfl⟩
  rw [hys] at HL HM HE ⊢
  clear hl hr hm hys
  go_enter Try.func13, Try.ntmps13
  go_wp2_with fail
  refine Calls.mono HE.out ?_
  rintro e w1 ⟨ao1, cap1, rfl, hrow, hx⟩
  obtain ⟨g, rfl, hg1, hg2, hg3, _⟩ := hrow.opened (Nat.mul_pos (by omega) (by omega))
  have hs1 : w.heap.size + 2 ≤ w1.heap.size := by have := hx.size; simpa using this
  have HST : Hid (BkSt w ((w1.alloc (.cells #[.int .i64 n, .slice (some ⟨g, 0, none⟩) (n * n) cap1] 24)).alloc (.cells #[.int .i64 ((n : Int) - 1), .slice none 0 0] 33)) (w.heap.size + 1) w1.heap.size (w1.heap.size + 1) n g (n * n) cap1 0 none 0 ys) :=
    ⟨((E0.out.trans hx).alloc _).alloc _, ((X0.out.ext hx).alloc _).alloc _, (Blk.new _ _ _).alloc _, Blk.new' _ _ _ (by simp), fun j hj => by
      rw [(((Ext.refl w1).alloc _).alloc _).cell hg2]; exact hg3 j _ (ints_get _ j (by rw [HL.out]; exact hj)), by simp; omega, Tbl.nil _ _ _, by omega, by omega, by omega, by omega⟩
  clear hrow hx hg3 hg1 HE X0 E0
  go_wp2
  have HN : Hid (∃ N : Nat, N = n * n) := ⟨_, rfl⟩
  obtain ⟨wA, hwA⟩ : ∃ wA, wA = (w1.alloc (.cells #[.int .i64 n, .slice (some ⟨g, 0, none⟩) (n * n) cap1] 24)).alloc (.cells #[.int .i64 ((n : Int) - 1), .slice none 0 0] 33) := ⟨_, rfl⟩
  rw [← hwA] at HST ⊢
  obtain ⟨r, hr⟩ : ∃ r, r = w.heap.size + 1 := ⟨_, rfl⟩
  obtain ⟨tb, htb⟩ : ∃ tb, tb = w1.heap.size := ⟨_, rfl⟩
  obtain ⟨ob, hob⟩ : ∃ ob, ob = w1.heap.size + 1 := ⟨_, rfl⟩
  rw [← hr, ← hob, ← htb] at HST ⊢
  obtain ⟨N, hN⟩ : ∃ N : Nat, N = n * n := ⟨_, rfl⟩
  rw [← hN] at HST ⊢
  have HNN := Lib.hid hN
  have hNb : N ≤ 576 := by rw [hN]; exact sq_bound n24
  clear hwA hr htb hob hN hg2 hs1 HN
  go_loopw [7, 8, 9] (fun a _ _ wr => ∃ (k : Nat) (ao : Option Addr) (cap' : Nat), k + 1 ≤ n ∧ a = .int .i64 ((k : Int) + 1) ∧ BkSt w wr r tb ob n g N cap1 k ao cap' ys) (fun i _ _ _ => n - (intOf i).toNat)
  case atStart => exact ⟨0, none, 0, by omega, rfl, HST.out⟩
  case round =>
    obtain ⟨k, ao2, cap2, hk, rfl, hst⟩ := hrel
    have HS := Lib.hid hst
    clear hst HST
    by_cases hkn : k + 1 < n
    · obtain ⟨u, hu⟩ : ∃ u : Nat, u = (k + 1) * n := ⟨_, rfl⟩
      have HU := Lib.hid hu
      have hu' : ((k : Int) + 1) * (n : Int) = u := by rw [hu, Int.natCast_mul]; rfl
      have huN : u + n ≤ N := by
        have := Nat.mul_le_mul_right n (show k + 1 + 1 ≤ n by omega)
        rw [Nat.succ_mul] at this; have := HNN.out; omega
      clear hu
      obtain ⟨wo, rfl⟩ : ∃ wo : World, wo = wr := ⟨_, rfl⟩
      go_wp2
      go_loopw [8, 9] (fun b a wr => ∃ (m : Nat), m + 1 ≤ n ∧ a = .int .i64 ((m : Int) + 1) ∧ OwnInts wo wr b (onesTo ys n (k + 1) m)) (fun _ i _ => n - (intOf i).toNat)
      case atStart => exact ⟨0, by omega, rfl, OwnInts.nil (Ext.refl _)⟩
      case round =>
        obtain ⟨m, hm, rfl, hown⟩ := hrel
        obtain ⟨ao3, len2, cap3, rfl, hrow, hx⟩ := hown
        have HR := Lib.hid hrow
        have HX := Lib.hid hx
        have hl2 : len2 ≤ m := by have := hrow.length; rw [ints_length] at this; have := onesTo_length ys n (k + 1) m; omega
        have hBw := hx.size
        clear hrow hx
        by_cases hmn : m + 1 < n
        · have hst := HS.out.carry HX.out
          have k0 := hst.tab.two
          have k1 := hst.cells (u + (m + 1)) (by omega)
          have sy := nth_sign HM.out (u + (m + 1)) (by rw [← HNN.out]; omega)
          have HV : Hid (onesTo ys n (k + 1) (m + 1) = if nth ys (u + (m + 1)) = 1 then onesTo ys n (k + 1) m ++ [(m : Int)] else onesTo ys n (k + 1) m) := by show _ = _; rw [HU.out]; rfl
          obtain ⟨y, hy⟩ : ∃ y, nth ys (u + (m + 1)) = y := ⟨_, rfl⟩
          rw [hy] at k1 sy HV
          clear hst hy
          rcases sy with rfl | rfl
          · go_wp2_with (at_builtin; refine wpList_appInt eInt rfl (.tmp 40) (.tmp 43) rfl wo.heap.size (by rfl) HR.out (by rfl) (by omega) hBw ?_; intro ao4 cap4 w4 hr4 hg4 hb4)
            have HR4 : Hid (RowOf 3 w4 wo.heap.size ao4 (len2 + 1) cap4 (ints (onesTo ys n (k + 1) (m + 1)))) := by
              show RowOf _ _ _ _ _ _ _
              rw [HV.out]; simpa [ints_append, ints_one] using hr4
            have HX4 : Hid (Ext wo w4) := hb4 _ _ HX.out (Nat.le_refl _)
            clear hr4 hg4 hb4
            go_roundw
            case rel => exact ⟨m + 1, by omega, by go_num, ao4, len2 + 1, cap4, rfl, HR4.out, HX4.out⟩
            case measure => simp [intOf]; omega
          · go_wp2
            go_roundw
            case rel => exact ⟨m + 1, by omega, by go_num, ao3, len2, cap3, rfl, (by rw [HV.out]; simpa using HR.out), HX.out⟩
            case measure => simp [intOf]; omega
        · obtain rfl : m = n - 1 := by omega
          have HST2 := Lib.hid (HS.out.carry HX.out)
          have hobw : ob < wo.heap.size := HS.out.out.lt
          have HIN : Hid (InnerX wr (fun b => ob < b) (Value.slice ao2 k cap2).ownBlock (.slice ao3 len2 cap3) (onesTo ys n (k + 1) (n - 1))) := HR.out.innerX _ _ (fun b hb => by omega) (fun b hb => (HS.out.tbl.block b hb).2) (by unfold maxLen; omega)
          have k0 := HST2.out.out.two
          have hobw2 : ob + 1 ≤ wr.heap.size := by omega
          go_wp2_with (at_builtin; refine wpList_appRow rfl (.tmp 46) (.tmp 48) rfl (fun b => ob < b) (ob + 1) (by rfl) HST2.out.tbl (by rfl) HIN.out (by omega) hobw2 ?_; intro ao4 cap4 w4 hr4 hg4 hb4; have HG := Lib.hid (HST2.out.grown hr4 hg4 hb4); have k1 := HG.out.1.two; have k2 := HG.out.1.f 1; clear hr4 hg4 hb4)
          go_roundw
          case rel => exact ⟨k + 1, ao4, cap4, by omega, by go_num, HG.out.2⟩
          case measure => simp [intOf]; omega
    · obtain rfl : k = n - 1 := by omega
      have k0 := HS.out.out.two
      have k1 := HS.out.res.two
      have k2 := HS.out.res.f 0
      have k3 := HS.out.res.f 1
      go_wp2
      have HRB := Lib.hid ((HS.out.res.set 0 (.int .i64 ((n : Int) - 1))).set 1 (.slice ao2 (n - 1) cap2))
      have e0 := HRB.out.c 0 (.int .i64 ((n : Int) - 1)) rfl
      have e1 := HRB.out.c 1 (.slice ao2 (n - 1) cap2) rfl
      refine bodyPost_ret (v := .tuple #[.agg #[.int .i64 ((n : Int) - 1), .slice ao2 (n - 1) cap2], .int .i64 0]) (by simp [results, Try.results13, go_sem, e0, e1]) rfl ⟨ao2, cap2, rfl, ?_, ?_⟩
      · have hro := HS.out.r_ob
        exact ((HS.out.tbl.beside ⟨r, 0, none⟩ (by simp; omega) (by simp; omega) (.int .i64 ((n : Int) - 1))).beside ⟨r, 1, none⟩ (by simp; omega) (by simp; omega) (.slice ao2 (n - 1) cap2)).readsL
      · exact (HS.out.ext.set (p := ⟨r, 0, none⟩) HS.out.w_r _).set (p := ⟨r, 1, none⟩) HS.out.w_r _

end Go.Proofs.Ytkgdohoandfaeaa
