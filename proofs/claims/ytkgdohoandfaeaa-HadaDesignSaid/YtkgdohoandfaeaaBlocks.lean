/- What hada.Blocks makes of a matrix. -/
import Derived.Test.YtkgdohoandfaeaaSignsBlocks
import Derived.Test.YtkgdohoandfaeaaEvenTop
import Derived.Deep.RegionHeld3
import Derived.Outline
namespace Go.Proofs.Ytkgdohoandfaeaa
open Go.RowKit

set_option maxHeartbeats 1000000 in
theorem blocks_bad (m : Int) (ao : Option Addr) (len cap : Nat) (xs : List Int) (w : World) (hl : xs.length = len) (hr : Reads w ao (ints xs)) (hbad : signsFaultOf m xs ≠ 0) :
    Calls Try.prog 9 #[.agg #[.int .i64 m, .slice ao len cap]] w fun e w' =>
      e = .returned (.tuple #[.agg #[.int .i64 0, .slice none 0 0], .int .i64 (signsFaultOf m xs)]) ∧ Ext w w' := by
  have E : Hid (Ext w ((w.alloc (.cells #[.int .i64 m, .slice ao len cap] 24)).alloc (.cells #[.int .i64 0, .slice none 0 0] 33))) := ((Ext.refl w).alloc _).alloc _
  have X : Hid (Blk ((w.alloc (.cells #[.int .i64 m, .slice ao len cap] 24)).alloc (.cells #[.int .i64 0, .slice none 0 0] 33)) (w.heap.size + 1) #[.int .i64 0, .slice none 0 0] 33) := Blk.new' _ _ _ (by simp)
  have HC := Lib.hid (check_any m ao len cap xs _ hl (E.out.reads hr))
  obtain ⟨f, hf⟩ : ∃ f, signsFaultOf m xs = f := ⟨_, rfl⟩
  rw [hf] at HC hbad ⊢
  have b0 : (f != 0) = true := by rw [bne_iff_ne]; exact hbad
  clear hl hr hf hbad
  go_enter Try.func9, Try.ntmps9
  go_wp2_with fail
  refine Calls.mono HC.out ?_
  rintro e w1 ⟨rfl, hx⟩
  have X1 := Lib.hid (X.out.ext hx)
  have E1 := Lib.hid (E.out.trans hx)
  have k0 := X1.out.two
  have k1 := X1.out.f 0
  have k2 := X1.out.f 1
  clear hx
  go_wp2
  have HRB := Lib.hid ((X1.out.set 0 (.int .i64 0)).set 1 (.slice none 0 0))
  have e0 := HRB.out.c 0 (.int .i64 0) rfl
  have e1 := HRB.out.c 1 (.slice none 0 0) rfl
  refine bodyPost_ret (v := .tuple #[.agg #[.int .i64 0, .slice none 0 0], .int .i64 f]) (by simp [results, Try.results9, go_sem, e0, e1]) rfl ⟨rfl, ?_⟩
  exact (E1.out.set (p := ⟨w.heap.size + 1, 0, none⟩) (by simp) _).set (p := ⟨w.heap.size + 1, 1, none⟩) (by simp) _

set_option maxHeartbeats 1000000 in
theorem blocks_small (n : Nat) (ao : Option Addr) (len cap : Nat) (xs : List Int) (w : World) (hl : xs.length = len) (hr : Reads w ao (ints xs)) (hm : IsMat n xs) (ho : Orth n xs) (hn : n < 4) :
    Calls Try.prog 9 #[.agg #[.int .i64 n, .slice ao len cap]] w fun e w' =>
      e = .returned (.tuple #[.agg #[.int .i64 0, .slice none 0 0], .int .i64 2]) ∧ Ext w w' := by
  have E : Hid (Ext w ((w.alloc (.cells #[.int .i64 n, .slice ao len cap] 24)).alloc (.cells #[.int .i64 0, .slice none 0 0] 33))) := ((Ext.refl w).alloc _).alloc _
  have X : Hid (Blk ((w.alloc (.cells #[.int .i64 n, .slice ao len cap] 24)).alloc (.cells #[.int .i64 0, .slice none 0 0] 33)) (w.heap.size + 1) #[.int .i64 0, .slice none 0 0] 33) := Blk.new' _ _ _ (by simp)
  have Y : Hid (Blk ((w.alloc (.cells #[.int .i64 n, .slice ao len cap] 24)).alloc (.cells #[.int .i64 0, .slice none 0 0] 33)) w.heap.size #[.int .i64 n, .slice ao len cap] 24) := (Blk.new _ _ _).alloc _
  have HC := check_any n ao len cap xs _ hl (E.out.reads hr)
  rw [signsFaultOf_mat hm ho] at HC
  have HC := Lib.hid HC
  have b1 : decide ((n : Int) < 4) = true := decide_eq_true (by omega)
  clear hl hr hm ho
  go_enter Try.func9, Try.ntmps9
  go_wp2_with fail
  refine Calls.mono HC.out ?_
  rintro e w1 ⟨rfl, hx⟩
  have X1 := Lib.hid (X.out.ext hx)
  have E1 := Lib.hid (E.out.trans hx)
  have k0 := X1.out.two
  have k1 := X1.out.f 0
  have k2 := X1.out.f 1
  have k3 := (Y.out.ext hx).two
  clear hx
  go_wp2
  have HRB := Lib.hid ((X1.out.set 0 (.int .i64 0)).set 1 (.slice none 0 0))
  have e0 := HRB.out.c 0 (.int .i64 0) rfl
  have e1 := HRB.out.c 1 (.slice none 0 0) rfl
  refine bodyPost_ret (v := .tuple #[.agg #[.int .i64 0, .slice none 0 0], .int .i64 2]) (by simp [results, Try.results9, go_sem, e0, e1]) rfl ⟨rfl, ?_⟩
  exact (E1.out.set (p := ⟨w.heap.size + 1, 0, none⟩) (by simp) _).set (p := ⟨w.heap.size + 1, 1, none⟩) (by simp) _

set_option maxHeartbeats 2000000 in
theorem blocks_ok (n : Nat) (ao : Option Addr) (len cap : Nat) (xs : List Int) (w : World) (hl : xs.length = len) (hr : Reads w ao (ints xs)) (hm : IsMat n xs) (ho : Orth n xs) (h4 : 4 ≤ n) :
    Calls Try.prog 9 #[.agg #[.int .i64 n, .slice ao len cap]] w fun e w' =>
      ∃ ao' cap', e = .returned (.tuple #[.agg #[.int .i64 ((n : Int) - 1), .slice ao' (n - 1) cap'], .int .i64 0]) ∧ ReadsL w' ao' (blocksOf n (evenOf n xs)) ∧ Ext w w' := by
  have E : Hid (Ext w ((w.alloc (.cells #[.int .i64 n, .slice ao len cap] 24)).alloc (.cells #[.int .i64 0, .slice none 0 0] 33))) := ((Ext.refl w).alloc _).alloc _
  have X : Hid (Blk ((w.alloc (.cells #[.int .i64 n, .slice ao len cap] 24)).alloc (.cells #[.int .i64 0, .slice none 0 0] 33)) (w.heap.size + 1) #[.int .i64 0, .slice none 0 0] 33) := Blk.new' _ _ _ (by simp)
  have Y : Hid (Blk ((w.alloc (.cells #[.int .i64 n, .slice ao len cap] 24)).alloc (.cells #[.int .i64 0, .slice none 0 0] 33)) w.heap.size #[.int .i64 n, .slice ao len cap] 24) := (Blk.new _ _ _).alloc _
  have HC := check_any n ao len cap xs _ hl (E.out.reads hr)
  rw [signsFaultOf_mat hm ho] at HC
  have HC := Lib.hid HC
  have HE : Hid (∀ w1, Ext w w1 → _) := fun w1 (hx : Ext w w1) => even_any n ao len cap xs w1 hl (hx.reads hr) hm
  have n24 := hm.big
  have HL := Lib.hid (evenOf_length n xs)
  have HM := Lib.hid (isMat_evenOf hm)
  have HYS : Hid (tab (flat n (evenCell xs n)) (n * n) = evenOf n xs) := rfl
  obtain ⟨ys, hys⟩ : ∃ ys, evenOf n xs = ys := ⟨_, rfl⟩
  rw [HYS.out] at HE
  rw [hys] at HL HM HE ⊢
  have b1 : decide ((n : Int) < 4) = false := decide_eq_false (by omega)
  clear hl hr hm ho HYS hys
  go_enter Try.func9, Try.ntmps9
  go_wp2_with fail
  refine Calls.mono HC.out ?_
  rintro e w1 ⟨rfl, hx⟩
  have X1 := Lib.hid (X.out.ext hx)
  have Y1 := Lib.hid (Y.out.ext hx)
  have E1 := Lib.hid (E.out.trans hx)
  have k0 := Y1.out.two
  have ky := World.new_ne w1 ⟨w.heap.size, 0, none⟩ k0.1
  have ky' := World.new_ne w1 ⟨w.heap.size, 1, none⟩ k0.2
  have ly := Y1.out.lt
  clear hx HC X Y E
  go_wp2_with fail
  go_region_held3 (fun w' => w'.cell? ⟨w.heap.size, 0, none⟩ = some (.int .i64 n) ∧ w'.cell? ⟨w.heap.size, 1, none⟩ = some (.slice ao len cap)) (first | go_keep | exact ⟨qa, qb⟩)
    ((first | (go_at_call 16; refine Calls.mono (HE.out _ (by first | exact E1.out.drew | exact E1.out.drew.alloc _ | exact (E1.out.alloc _).drew)) ?_; rintro e w2 ⟨ao1, cap1, rfl, hrow, hx⟩; have hl1 := Ext.size hx; simp at hl1; have qa := (Ext.cell hx (b := w.heap.size) (o := 0) (by simp; omega)); have qb := (Ext.cell hx (b := w.heap.size) (o := 1) (by simp; omega)); simp [World.cell?_alloc_past, ly, k0] at qa qb; (try (have qz := Blk.ext (Blk.new w1 #[.int .i64 0, .slice none 0 0] 24).drew hx; have qc := qz.two; have qf := qz.f 0; have qg := qz.f 1)))))
  all_goals go_wp2
  all_goals
    obtain ⟨g, rfl, hg1, hg2, hg3, _⟩ := RowOf.opened hrow (Nat.mul_pos (by omega) (by omega))
    have hc := fun j (hj : j < n * n) => hg3 j _ (ints_get ys j (by rw [HL.out]; exact hj))
    have ls := X1.out.lt
    clear hg3
  · have HST : Hid (BkSt w ((w2.alloc (.cells #[.int .i64 n, .slice (some ⟨g, 0, none⟩) (n * n) cap1] 24)).alloc (.cells #[.int .i64 ((n : Int) - 1), .slice none 0 0] 33)) (w.heap.size + 1) w2.heap.size (w2.heap.size + 1) n g (n * n) cap1 0 none 0 ys) :=
      ⟨((E1.out.drew.trans hx).alloc _).alloc _, ((X1.out.drew.ext hx).alloc _).alloc _, (Blk.new _ _ _).alloc _, Blk.new' _ _ _ (by simp), fun j hj => by
        rw [(((Ext.refl w2).alloc _).alloc _).cell hg2]; exact hc j hj, by simp; omega, Tbl.nil _ _ _, by omega, by omega, by omega, by omega⟩
    obtain ⟨wA, hwA⟩ : ∃ wA, wA = (w2.alloc (.cells #[.int .i64 n, .slice (some ⟨g, 0, none⟩) (n * n) cap1] 24)).alloc (.cells #[.int .i64 ((n : Int) - 1), .slice none 0 0] 33) := ⟨_, rfl⟩
    rw [← hwA] at HST ⊢
    obtain ⟨r, hr⟩ : ∃ r, r = w.heap.size + 1 := ⟨_, rfl⟩
    obtain ⟨ob, hob⟩ : ∃ ob, ob = w2.heap.size + 1 := ⟨_, rfl⟩
    obtain ⟨tb, htb⟩ : ∃ tb, tb = w2.heap.size := ⟨_, rfl⟩
    rw [← hr, ← hob, ← htb] at HST ⊢
    obtain ⟨N, hN⟩ : ∃ N : Nat, N = n * n := ⟨_, rfl⟩
    rw [← hN] at HST ⊢
    have HNN := Lib.hid hN
    have hNb : N ≤ 576 := by rw [hN]; exact sq_bound n24
    clear hwA hr htb hob hN hg2 hrow hx hl1 qa qb hc X1 Y1 E1 ky ky' ly ls hg1 k0
    go_loopw [8, 9, 10] (fun a _ _ wr => ∃ (k : Nat) (ao : Option Addr) (cap' : Nat), k + 1 ≤ n ∧ a = .int .i64 ((k : Int) + 1) ∧ BkSt w wr r tb ob n g N cap1 k ao cap' ys) (fun i _ _ _ => n - (intOf i).toNat)
    case atStart => exact ⟨0, none, 0, by omega, rfl, HST.out⟩
    case round =>
      obtain ⟨k, ao2, cap2, hk, rfl, hst⟩ := hrel
      have HS := Lib.hid hst
      clear hst HST
      by_cases hkn : k + 1 < n
      · obtain ⟨u, hu⟩ : ∃ u : Nat, u = (k + 1) * n := ⟨_, rfl⟩
        have HU := Lib.hid hu
        have hu' : ((k : Int) + 1) * (n : Int) = u := by rw [hu, Int.natCast_mul]; rfl
        have huN : u + n ≤ N := by
          have := Nat.mul_le_mul_right n (show k + 1 + 1 ≤ n by omega)
          rw [Nat.succ_mul] at this; have := HNN.out; omega
        clear hu
        obtain ⟨wo, rfl⟩ : ∃ wo : World, wo = wr := ⟨_, rfl⟩
        go_wp2
        go_loopw [9, 10] (fun b a wr => ∃ (m : Nat), m + 1 ≤ n ∧ a = .int .i64 ((m : Int) + 1) ∧ OwnInts wo wr b (onesTo ys n (k + 1) m)) (fun _ i _ => n - (intOf i).toNat)
        case atStart => exact ⟨0, by omega, rfl, OwnInts.nil (Ext.refl _)⟩
        case round =>
          obtain ⟨m, hm, rfl, hown⟩ := hrel
          obtain ⟨ao3, len2, cap3, rfl, hrow, hx⟩ := hown
          have HR := Lib.hid hrow
          have HX := Lib.hid hx
          have hl2 : len2 ≤ m := by have := hrow.length; rw [ints_length] at this; have := onesTo_length ys n (k + 1) m; omega
          have hBw := hx.size
          clear hrow hx
          by_cases hmn : m + 1 < n
          · have hst := HS.out.carry HX.out
            have k0 := hst.tab.two
            have k1 := hst.cells (u + (m + 1)) (by omega)
            have sy := nth_sign HM.out (u + (m + 1)) (by rw [← HNN.out]; omega)
            have HV : Hid (onesTo ys n (k + 1) (m + 1) = if nth ys (u + (m + 1)) = 1 then onesTo ys n (k + 1) m ++ [(m : Int)] else onesTo ys n (k + 1) m) := by show _ = _; rw [HU.out]; rfl
            obtain ⟨y, hy⟩ : ∃ y, nth ys (u + (m + 1)) = y := ⟨_, rfl⟩
            rw [hy] at k1 sy HV
            clear hst hy
            rcases sy with rfl | rfl
            · go_wp2_with (at_builtin; refine wpList_appInt eInt rfl (.tmp 48) (.tmp 51) rfl wo.heap.size (by rfl) HR.out (by rfl) (by omega) hBw ?_; intro ao4 cap4 w4 hr4 hg4 hb4)
              have HR4 : Hid (RowOf 3 w4 wo.heap.size ao4 (len2 + 1) cap4 (ints (onesTo ys n (k + 1) (m + 1)))) := by
                show RowOf _ _ _ _ _ _ _
                rw [HV.out]; simpa [ints_append, ints_one] using hr4
              have HX4 : Hid (Ext wo w4) := hb4 _ _ HX.out (Nat.le_refl _)
              clear hr4 hg4 hb4
              go_roundw
              case rel => exact ⟨m + 1, by omega, by go_num, ao4, len2 + 1, cap4, rfl, HR4.out, HX4.out⟩
              case measure => simp [intOf]; omega
            · go_wp2
              go_roundw
              case rel => exact ⟨m + 1, by omega, by go_num, ao3, len2, cap3, rfl, (by rw [HV.out]; simpa using HR.out), HX.out⟩
              case measure => simp [intOf]; omega
          · obtain rfl : m = n - 1 := by omega
            have HST2 := Lib.hid (HS.out.carry HX.out)
            have hobw : ob < wo.heap.size := HS.out.out.lt
            have HIN : Hid (InnerX wr (fun b => ob < b) (Value.slice ao2 k cap2).ownBlock (.slice ao3 len2 cap3) (onesTo ys n (k + 1) (n - 1))) := HR.out.innerX _ _ (fun b hb => by omega) (fun b hb => (HS.out.tbl.block b hb).2) (by unfold maxLen; omega)
            have k0 := HST2.out.out.two
            have hobw2 : ob + 1 ≤ wr.heap.size := by omega
            go_wp2_with (at_builtin; refine wpList_appRow rfl (.tmp 54) (.tmp 56) rfl (fun b => ob < b) (ob + 1) (by rfl) HST2.out.tbl (by rfl) HIN.out (by omega) hobw2 ?_; intro ao4 cap4 w4 hr4 hg4 hb4; have HG := Lib.hid (HST2.out.grown hr4 hg4 hb4); have k1 := HG.out.1.two; have k2 := HG.out.1.f 1; clear hr4 hg4 hb4)
            go_roundw
            case rel => exact ⟨k + 1, ao4, cap4, by omega, by go_num, HG.out.2⟩
            case measure => simp [intOf]; omega
      · obtain rfl : k = n - 1 := by omega
        have k0 := HS.out.out.two
        have k1 := HS.out.res.two
        have k2 := HS.out.res.f 0
        have k3 := HS.out.res.f 1
        go_wp2
        have HRB := Lib.hid ((HS.out.res.set 0 (.int .i64 ((n : Int) - 1))).set 1 (.slice ao2 (n - 1) cap2))
        have e0 := HRB.out.c 0 (.int .i64 ((n : Int) - 1)) rfl
        have e1 := HRB.out.c 1 (.slice ao2 (n - 1) cap2) rfl
        refine bodyPost_ret (v := .tuple #[.agg #[.int .i64 ((n : Int) - 1), .slice ao2 (n - 1) cap2], .int .i64 0]) (by simp [results, Try.results9, go_sem, e0, e1]) rfl ⟨ao2, cap2, rfl, ?_, ?_⟩
        · have hro := HS.out.r_ob
          exact ((HS.out.tbl.beside ⟨r, 0, none⟩ (by simp; omega) (by simp; omega) (.int .i64 ((n : Int) - 1))).beside ⟨r, 1, none⟩ (by simp; omega) (by simp; omega) (.slice ao2 (n - 1) cap2)).readsL
        · exact (HS.out.ext.set (p := ⟨r, 0, none⟩) HS.out.w_r _).set (p := ⟨r, 1, none⟩) HS.out.w_r _
  · have HST : Hid (BkSt w (((w2.setCell ⟨w1.heap.size, 0, none⟩ (.int .i64 n)).setCell ⟨w1.heap.size, 1, none⟩ (.slice (some ⟨g, 0, none⟩) (n * n) cap1)).alloc (.cells #[.int .i64 ((n : Int) - 1), .slice none 0 0] 33)) (w.heap.size + 1) w1.heap.size w2.heap.size n g (n * n) cap1 0 none 0 ys) := by
      have hE1 := E1.out.size
      have hg0 : w1.heap.size + 1 ≤ g := by simpa using hg1
      refine ⟨((((E1.out.alloc _).drew.trans hx).set (by simp; omega) _).set (by simp; omega) _).alloc _, ((((X1.out.alloc _).drew.ext hx).beside _ (by simp; omega) _).beside _ (by simp; omega) _).alloc _, ((qz.set 0 _).set 1 _).alloc _, Blk.new' _ _ _ (by simp [World.setCell]), fun j hj => ?_, by simp [World.setCell]; omega, Tbl.nil _ _ _, by omega, by omega, by omega, by omega⟩
      rw [((Ext.refl _).alloc _).cell (by simp [World.setCell]; try omega), World.cell?_setCell_other _ _ _ _ (by simp; try omega), World.cell?_setCell_other _ _ _ _ (by simp; try omega)]
      exact hc j hj
    obtain ⟨wA, hwA⟩ : ∃ wA, wA = ((w2.setCell ⟨w1.heap.size, 0, none⟩ (.int .i64 n)).setCell ⟨w1.heap.size, 1, none⟩ (.slice (some ⟨g, 0, none⟩) (n * n) cap1)).alloc (.cells #[.int .i64 ((n : Int) - 1), .slice none 0 0] 33) := ⟨_, rfl⟩
    rw [← hwA] at HST ⊢
    obtain ⟨r, hr⟩ : ∃ r, r = w.heap.size + 1 := ⟨_, rfl⟩
    obtain ⟨ob, hob⟩ : ∃ ob, ob = w2.heap.size := ⟨_, rfl⟩
    obtain ⟨tb, htb⟩ : ∃ tb, tb = w1.heap.size := ⟨_, rfl⟩
    rw [← hr, ← hob, ← htb] at HST ⊢
    obtain ⟨N, hN⟩ : ∃ N : Nat, N = n * n := ⟨_, rfl⟩
    rw [← hN] at HST ⊢
    have HNN := Lib.hid hN
    have hNb : N ≤ 576 := by rw [hN]; exact sq_bound n24
    clear qz qc qf qg hwA hr htb hob hN hg2 hrow hx hl1 qa qb hc X1 Y1 E1 ky ky' ly ls hg1 k0
    go_loopw [8, 9, 10] (fun a _ _ wr => ∃ (k : Nat) (ao : Option Addr) (cap' : Nat), k + 1 ≤ n ∧ a = .int .i64 ((k : Int) + 1) ∧ BkSt w wr r tb ob n g N cap1 k ao cap' ys) (fun i _ _ _ => n - (intOf i).toNat)
    case atStart => exact ⟨0, none, 0, by omega, rfl, HST.out⟩
    case round =>
      obtain ⟨k, ao2, cap2, hk, rfl, hst⟩ := hrel
      have HS := Lib.hid hst
      clear hst HST
      by_cases hkn : k + 1 < n
      · obtain ⟨u, hu⟩ : ∃ u : Nat, u = (k + 1) * n := ⟨_, rfl⟩
        have HU := Lib.hid hu
        have hu' : ((k : Int) + 1) * (n : Int) = u := by rw [hu, Int.natCast_mul]; rfl
        have huN : u + n ≤ N := by
          have := Nat.mul_le_mul_right n (show k + 1 + 1 ≤ n by omega)
          rw [Nat.succ_mul] at this; have := HNN.out; omega
        clear hu
        obtain ⟨wo, rfl⟩ : ∃ wo : World, wo = wr := ⟨_, rfl⟩
        go_wp2
        go_loopw [9, 10] (fun b a wr => ∃ (m : Nat), m + 1 ≤ n ∧ a = .int .i64 ((m : Int) + 1) ∧ OwnInts wo wr b (onesTo ys n (k + 1) m)) (fun _ i _ => n - (intOf i).toNat)
        case atStart => exact ⟨0, by omega, rfl, OwnInts.nil (Ext.refl _)⟩
        case round =>
          obtain ⟨m, hm, rfl, hown⟩ := hrel
          obtain ⟨ao3, len2, cap3, rfl, hrow, hx⟩ := hown
          have HR := Lib.hid hrow
          have HX := Lib.hid hx
          have hl2 : len2 ≤ m := by have := hrow.length; rw [ints_length] at this; have := onesTo_length ys n (k + 1) m; omega
          have hBw := hx.size
          clear hrow hx
          by_cases hmn : m + 1 < n
          · have hst := HS.out.carry HX.out
            have k0 := hst.tab.two
            have k1 := hst.cells (u + (m + 1)) (by omega)
            have sy := nth_sign HM.out (u + (m + 1)) (by rw [← HNN.out]; omega)
            have HV : Hid (onesTo ys n (k + 1) (m + 1) = if nth ys (u + (m + 1)) = 1 then onesTo ys n (k + 1) m ++ [(m : Int)] else onesTo ys n (k + 1) m) := by show _ = _; rw [HU.out]; rfl
            obtain ⟨y, hy⟩ : ∃ y, nth ys (u + (m + 1)) = y := ⟨_, rfl⟩
            rw [hy] at k1 sy HV
            clear hst hy
            rcases sy with rfl | rfl
            · go_wp2_with (at_builtin; refine wpList_appInt eInt rfl (.tmp 48) (.tmp 51) rfl wo.heap.size (by rfl) HR.out (by rfl) (by omega) hBw ?_; intro ao4 cap4 w4 hr4 hg4 hb4)
              have HR4 : Hid (RowOf 3 w4 wo.heap.size ao4 (len2 + 1) cap4 (ints (onesTo ys n (k + 1) (m + 1)))) := by
                show RowOf _ _ _ _ _ _ _
                rw [HV.out]; simpa [ints_append, ints_one] using hr4
              have HX4 : Hid (Ext wo w4) := hb4 _ _ HX.out (Nat.le_refl _)
              clear hr4 hg4 hb4
              go_roundw
              case rel => exact ⟨m + 1, by omega, by go_num, ao4, len2 + 1, cap4, rfl, HR4.out, HX4.out⟩
              case measure => simp [intOf]; omega
            · go_wp2
              go_roundw
              case rel => exact ⟨m + 1, by omega, by go_num, ao3, len2, cap3, rfl, (by rw [HV.out]; simpa using HR.out), HX.out⟩
              case measure => simp [intOf]; omega
          · obtain rfl : m = n - 1 := by omega
            have HST2 := Lib.hid (HS.out.carry HX.out)
            have hobw : ob < wo.heap.size := HS.out.out.lt
            have HIN : Hid (InnerX wr (fun b => ob < b) (Value.slice ao2 k cap2).ownBlock (.slice ao3 len2 cap3) (onesTo ys n (k + 1) (n - 1))) := HR.out.innerX _ _ (fun b hb => by omega) (fun b hb => (HS.out.tbl.block b hb).2) (by unfold maxLen; omega)
            have k0 := HST2.out.out.two
            have hobw2 : ob + 1 ≤ wr.heap.size := by omega
            go_wp2_with (at_builtin; refine wpList_appRow rfl (.tmp 54) (.tmp 56) rfl (fun b => ob < b) (ob + 1) (by rfl) HST2.out.tbl (by rfl) HIN.out (by omega) hobw2 ?_; intro ao4 cap4 w4 hr4 hg4 hb4; have HG := Lib.hid (HST2.out.grown hr4 hg4 hb4); have k1 := HG.out.1.two; have k2 := HG.out.1.f 1; clear hr4 hg4 hb4)
            go_roundw
            case rel => exact ⟨k + 1, ao4, cap4, by omega, by go_num, HG.out.2⟩
            case measure => simp [intOf]; omega
      · obtain rfl : k = n - 1 := by omega
        have k0 := HS.out.out.two
        have k1 := HS.out.res.two
        have k2 := HS.out.res.f 0
        have k3 := HS.out.res.f 1
        go_wp2
        have HRB := Lib.hid ((HS.out.res.set 0 (.int .i64 ((n : Int) - 1))).set 1 (.slice ao2 (n - 1) cap2))
        have e0 := HRB.out.c 0 (.int .i64 ((n : Int) - 1)) rfl
        have e1 := HRB.out.c 1 (.slice ao2 (n - 1) cap2) rfl
        refine bodyPost_ret (v := .tuple #[.agg #[.int .i64 ((n : Int) - 1), .slice ao2 (n - 1) cap2], .int .i64 0]) (by simp [results, Try.results9, go_sem, e0, e1]) rfl ⟨ao2, cap2, rfl, ?_, ?_⟩
        · have hro := HS.out.r_ob
          exact ((HS.out.tbl.beside ⟨r, 0, none⟩ (by simp; omega) (by simp; omega) (.int .i64 ((n : Int) - 1))).beside ⟨r, 1, none⟩ (by simp; omega) (by simp; omega) (.slice ao2 (n - 1) cap2)).readsL
        · exact (HS.out.ext.set (p := ⟨r, 0, none⟩) HS.out.w_r _).set (p := ⟨r, 1, none⟩) HS.out.w_r _

end Go.Proofs.Ytkgdohoandfaeaa
