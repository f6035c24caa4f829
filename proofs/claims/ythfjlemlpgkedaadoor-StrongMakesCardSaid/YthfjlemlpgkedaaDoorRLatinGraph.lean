/- What parterreref3.LatinGraph answers at a Latin square: the program's graph. No conditions. -/
import Derived.Test.YthfjlemlpgkedaaDoorLatinGraph
import Derived.BigQuiet
import Derived.Deep.LoopGhost
import Derived.Deep.QuietTactic
namespace Go.Proofs.YthfjlemlpgkedaaDoor
open Go.RowKit
set_option linter.unusedVariables false

set_option maxHeartbeats 400000 in
theorem latinGraphOf_full (m : Int) (ao : Option Addr) (len cap : Nat) (w : World) (h4 : 4 < m) :
    Calls Tryd.prog 11 #[.agg #[.int .i64 m, .slice ao len cap]] w fun e w' => e = .returned (.tuple #[.agg #[.int .i64 0, .slice none 0 0], .int .i64 3]) ∧ Ext w w' := by
  have HX : Hid (Ext w ((w.alloc (.cells #[.int .i64 m, .slice ao len cap] 26)).alloc (.cells #[.int .i64 0, .slice none 0 0] 26))) := ((Ext.refl w).alloc _).alloc _
  have k0 := ((Blk.new w #[.int .i64 m, .slice ao len cap] 26).alloc (.cells #[.int .i64 0, .slice none 0 0] 26)).two
  have b2 : decide (4 < m) = true := decide_eq_true h4
  clear h4
  go_enter Tryd.func11, Tryd.ntmps11
  go_wp2
  exact bodyPost_ret (v := .tuple #[.agg #[.int .i64 0, .slice none 0 0], .int .i64 3]) (by simp [results, Tryd.results11, go_sem]) rfl ⟨rfl, HX.out⟩

set_option maxHeartbeats 8000000 in
set_option maxRecDepth 1000000 in
theorem latinGraphOf_ok (n : Nat) (ao : Option Addr) (len cap : Nat) (xs : List Int) (w : World) (hl : xs.length = len) (hr : Reads w ao (ints xs)) (hL : IsLatin n xs) (h4 : n ≤ 4) :
    Calls Tryd.prog 11 #[.agg #[.int .i64 n, .slice ao len cap]] w fun e w' =>
      ∃ ao' cap', e = .returned (.tuple #[.agg #[.int .i64 (n * n : Nat), .slice ao' (n * n * (n * n)) cap'], .int .i64 0]) ∧
        RowOf 3 w' w.heap.size ao' (n * n * (n * n)) cap' (ints (tab (flat (n * n) (joinCell (latJoin n xs))) (n * n * (n * n)))) ∧ Ext w w' := by
  have h1 := hL.one
  have hln := hL.len
  rw [hl] at hln
  have h16 : len ≤ 16 := by rw [hln]; exact Nat.mul_le_mul h4 h4
  have hpos : 0 < len := by rw [hln]; exact Nat.mul_pos h1 h1
  obtain ⟨b0, off, rfl, hb, hc⟩ := Reads.int hr (by omega)
  have HC := Lib.hid hc
  have HL := Lib.hid hl
  have b1 : decide (4 < (n : Int)) = false := decide_eq_false (by omega)
  have hz : ((n : Int) == 0) = false := by rw [beq_eq_false_iff_ne]; omega
  have hbd : ∀ i, i < len → 0 ≤ nth xs i ∧ nth xs i < n := fun i hi => hL.at i (by rw [← hln]; exact hi)
  have HBD := Lib.hid hbd
  rw [← hln]
  have hm : (n : Int) * n = len := by rw [hln, Int.natCast_mul]
  obtain ⟨N2, hN2⟩ : ∃ N2, len * len = N2 := ⟨_, rfl⟩
  have HN2 := Lib.hid hN2
  rw [hN2]
  clear hl hr hL hln hc hN2 hbd
  obtain ⟨r, hr⟩ : ∃ r, r = w.heap.size := ⟨_, rfl⟩
  have HB : Hid (Ext w ((w.alloc (.cells #[.int .i64 n, .slice (some ⟨b0, off, none⟩) len cap] 26)).alloc (.cells #[.int .i64 0, .slice none 0 0] 26))) := ((Ext.refl _).alloc _).alloc _
  have HX : Hid (Blk ((w.alloc (.cells #[.int .i64 n, .slice (some ⟨b0, off, none⟩) len cap] 26)).alloc (.cells #[.int .i64 0, .slice none 0 0] 26)) r #[.int .i64 n, .slice (some ⟨b0, off, none⟩) len cap] 26) := by
    rw [hr]; exact (Blk.new _ _ _).alloc _
  have HY : Hid (Blk ((w.alloc (.cells #[.int .i64 n, .slice (some ⟨b0, off, none⟩) len cap] 26)).alloc (.cells #[.int .i64 0, .slice none 0 0] 26)) (r + 1) #[.int .i64 0, .slice none 0 0] 26) := Blk.new' _ _ _ (by simp [hr])
  have k0 := ((Blk.new w #[.int .i64 n, .slice (some ⟨b0, off, none⟩) len cap] 26).alloc (.cells #[.int .i64 0, .slice none 0 0] 26)).two
  go_enter Tryd.func11, Tryd.ntmps11
  go_wp2
  obtain ⟨w0, hw0⟩ : ∃ w0, w0 = ((w.alloc (.cells #[.int .i64 n, .slice (some ⟨b0, off, none⟩) len cap] 26)).alloc (.cells #[.int .i64 0, .slice none 0 0] 26)) := ⟨_, rfl⟩
  have HS0 : Hid (w0.heap.size = r + 2) := by show _ = _; rw [hw0, hr]; simp
  have HF : Hid (Filling w0 (w0.alloc (.cells #[.int .i64 len, .slice none 0 0] 26)) (r + 2) len 0 (flat len (joinCell (latJoin n xs))) none 0) := by
    refine ⟨?_, RowOf.nil _ _ _, (Below.refl _ _).alloc (by rw [HS0.out]; omega) _⟩
    have h := BoxAt.new w0 (.int .i64 len) (.slice none 0 0) 26
    rwa [HS0.out] at h
  rw [← hw0] at HB HX HY ⊢
  obtain ⟨w1, hw1⟩ : ∃ w1, w1 = w0.alloc (.cells #[.int .i64 len, .slice none 0 0] 26) := ⟨_, rfl⟩
  rw [← hw1] at HF ⊢
  rw [show w.heap.size + 1 + 1 = r + 2 by omega, show w.heap.size + 1 = r + 1 by omega, ← hr]
  have HSR := Lib.hid hr
  clear hw0 hw1 hr k0
  go_loopw [6] (fun a wr => ∃ (p m : Nat) (ao : Option Addr) (cap : Nat), p ≤ len ∧ a = .int .i64 p ∧ Hid (m = p * len) ∧ Filling w0 wr (r + 2) len m (flat len (joinCell (latJoin n xs))) ao cap) (fun p _ => len - (intOf p).toNat)
  case atStart => exact ⟨0, 0, none, 0, by omega, rfl, (Nat.zero_mul _).symm, HF.out⟩
  case round =>
    obtain ⟨p, m, ao3, cap3, hp, rfl, HM, hf⟩ := hrel
    have HF1 := Lib.hid hf
    clear hf HF
    by_cases hpn : p < len
    · have hpn' : (p : Int) < len := by omega
      go_wp2
      obtain ⟨wo, rfl⟩ : ∃ wo : World, wo = wr := ⟨_, rfl⟩
      go_loopw [7] (fun a wi => ∃ (q m : Nat) (ao : Option Addr) (cap : Nat), q ≤ len ∧ a = .int .i64 q ∧ Hid (m = p * len + q) ∧ Filling w0 wi (r + 2) len m (flat len (joinCell (latJoin n xs))) ao cap) (fun q _ => len - (intOf q).toNat)
      case atStart => exact ⟨0, m, ao3, cap3, by omega, rfl, HM, HF1.out⟩
      case round =>
        obtain ⟨q, m2, ao4, cap4, hq, rfl, HM2, hf2⟩ := hrel
        have HF2 := Lib.hid hf2
        clear hf2 HF1
        by_cases hqn : q < len
        · have hqn' : (q : Int) < len := by omega
          have HXW : Hid (Ext w0 wr) := by
            have h := HF2.out.bel
            unfold Hid; unfold Ext; rw [HS0.out]; exact h
          have k0 := (HX.out.ext HXW.out).two
          have hcell : ∀ k, k < len → wr.cell? ⟨b0, off + k, none⟩ = some (.int .i64 (nth xs k)) := fun k hk => ((HB.out.trans HXW.out).cell hb).trans (HC.out k (by rw [HL.out]; exact hk))
          have c1 := hcell p hpn
          have c2 := hcell q hqn
          have s1 := HBD.out p hpn
          have s2 := HBD.out q hqn
          have k1 := HF2.out.box.c1
          have k3 := HF2.out.size
          have hm2 : m2 ≤ 256 := by
            have h1 : p * len + q < len * len := by
              have : (p + 1) * len ≤ len * len := Nat.mul_le_mul_right len hpn
              rw [Nat.succ_mul] at this; omega
            have h3 : len * len ≤ 16 * 16 := Nat.mul_le_mul h16 h16
            have := HM2.out
            omega
          have HV : Hid (flat len (joinCell (latJoin n xs)) m2 = if p ≠ q ∧ (p / n = q / n ∨ p % n = q % n ∨ nth xs p = nth xs q) then 1 else 0) := by
            show _ = _; rw [HM2.out, flat_at _ hqn]
            unfold joinCell latJoin
            simp only [Bool.or_eq_true, beq_iff_eq, Int.natCast_inj]
          have HMN : Hid (m2 + 1 = p * len + (q + 1)) := by show _ = _; rw [HM2.out]; omega
          obtain ⟨x, hx⟩ : ∃ x, nth xs p = x := ⟨_, rfl⟩
          obtain ⟨y, hy⟩ : ∃ y, nth xs q = y := ⟨_, rfl⟩
          rw [hx] at c1 HV s1
          rw [hy] at c2 HV s2
          have e1 : (p : Int) / n = (p / n : Nat) := by simp
          have e2 : (q : Int) / n = (q / n : Nat) := by simp
          have e3 : (p : Int) % n = (p % n : Nat) := by simp
          have e4 : (q : Int) % n = (q % n : Nat) := by simp
          have q1 : p / n ≤ p := Nat.div_le_self _ _
          have q2 : q / n ≤ q := Nat.div_le_self _ _
          have q3 : p % n ≤ p := Nat.mod_le _ _
          have q4 : q % n ≤ q := Nat.mod_le _ _
          obtain ⟨dp, hdp⟩ : ∃ d, d = p / n := ⟨_, rfl⟩
          obtain ⟨dq, hdq⟩ : ∃ d, d = q / n := ⟨_, rfl⟩
          obtain ⟨mp, hmp⟩ : ∃ d, d = p % n := ⟨_, rfl⟩
          obtain ⟨mq, hmq⟩ : ∃ d, d = q % n := ⟨_, rfl⟩
          rw [← hdp] at e1 q1 HV
          rw [← hdq] at e2 q2 HV
          rw [← hmp] at e3 q3 HV
          rw [← hmq] at e4 q4 HV
          clear hx hy hcell hdp hdq hmp hmq
          have hcs : (p = q) ∨ (p ≠ q ∧ dp = dq) ∨ (p ≠ q ∧ dp ≠ dq ∧ mp = mq) ∨ (p ≠ q ∧ dp ≠ dq ∧ mp ≠ mq ∧ x = y) ∨ (p ≠ q ∧ dp ≠ dq ∧ mp ≠ mq ∧ x ≠ y) := by omega
          rcases hcs with g0 | ⟨g0, g1⟩ | ⟨g0, g1, g2⟩ | ⟨g0, g1, g2, g3⟩ | ⟨g0, g1, g2, g3⟩
          · have b3 : ((p : Int) != (q : Int)) = false := by subst g0; simp
            have hv := HV.out
            rw [if_neg (fun h => h.1 g0)] at hv
            have HVV := Lib.hid hv
            clear hv g0
            go_wp2_with fail
            go_quiet (fail)
            go_wp2_with (at_builtin; refine wpList_appInt eInt rfl (.tmp 67) (.tmp 69) rfl (r + 2 + 1) (by rfl) (HF2.out.drawn (Drawn.drewN _ _)).row (by rfl) (by omega) (by simpa using k3) ?_; intro ao5 cap5 w5 hr5 hg5 hb5; have HG := Lib.hid ((HF2.out.drawn (Drawn.drewN _ _)).grown2 hg5 hr5 hb5 HVV.out); have k4 := HG.out.1.c1; have k5 := HG.out.1.f1; clear hr5 hg5 hb5)
            go_roundw
            case rel => exact ⟨q + 1, m2 + 1, ao5, cap5, by omega, by go_num, HMN.out, HG.out.2⟩
            case measure => simp [intOf]; omega
          · have b3 : ((p : Int) != (q : Int)) = true := by rw [bne_iff_ne]; omega
            have b4 : ((dp : Int) == (dq : Int)) = true := by rw [beq_iff_eq]; omega
            have hv := HV.out
            rw [if_pos ⟨g0, .inl g1⟩] at hv
            have HVV := Lib.hid hv
            clear hv g0 g1
            go_wp2_with fail
            go_quiet (fail)
            go_wp2_with (at_builtin; refine wpList_appInt eInt rfl (.tmp 67) (.tmp 69) rfl (r + 2 + 1) (by rfl) (HF2.out.drawn (Drawn.drewN _ _)).row (by rfl) (by omega) (by simpa using k3) ?_; intro ao5 cap5 w5 hr5 hg5 hb5; have HG := Lib.hid ((HF2.out.drawn (Drawn.drewN _ _)).grown2 hg5 hr5 hb5 HVV.out); have k4 := HG.out.1.c1; have k5 := HG.out.1.f1; clear hr5 hg5 hb5)
            go_roundw
            case rel => exact ⟨q + 1, m2 + 1, ao5, cap5, by omega, by go_num, HMN.out, HG.out.2⟩
            case measure => simp [intOf]; omega
          · have b3 : ((p : Int) != (q : Int)) = true := by rw [bne_iff_ne]; omega
            have b4 : ((dp : Int) == (dq : Int)) = false := by rw [beq_eq_false_iff_ne]; omega
            have b5 : ((mp : Int) == (mq : Int)) = true := by rw [beq_iff_eq]; omega
            have hv := HV.out
            rw [if_pos ⟨g0, .inr (.inl g2)⟩] at hv
            have HVV := Lib.hid hv
            clear hv g0 g1 g2
            go_wp2_with fail
            go_quiet (fail)
            go_wp2_with (at_builtin; refine wpList_appInt eInt rfl (.tmp 67) (.tmp 69) rfl (r + 2 + 1) (by rfl) (HF2.out.drawn (Drawn.drewN _ _)).row (by rfl) (by omega) (by simpa using k3) ?_; intro ao5 cap5 w5 hr5 hg5 hb5; have HG := Lib.hid ((HF2.out.drawn (Drawn.drewN _ _)).grown2 hg5 hr5 hb5 HVV.out); have k4 := HG.out.1.c1; have k5 := HG.out.1.f1; clear hr5 hg5 hb5)
            go_roundw
            case rel => exact ⟨q + 1, m2 + 1, ao5, cap5, by omega, by go_num, HMN.out, HG.out.2⟩
            case measure => simp [intOf]; omega
          · have b3 : ((p : Int) != (q : Int)) = true := by rw [bne_iff_ne]; omega
            have b4 : ((dp : Int) == (dq : Int)) = false := by rw [beq_eq_false_iff_ne]; omega
            have b5 : ((mp : Int) == (mq : Int)) = false := by rw [beq_eq_false_iff_ne]; omega
            have b6 : (x == y) = true := by rw [beq_iff_eq]; exact g3
            have hv := HV.out
            rw [if_pos ⟨g0, .inr (.inr g3)⟩] at hv
            have HVV := Lib.hid hv
            clear hv g0 g1 g2 g3
            go_wp2_with fail
            go_quiet (fail)
            go_wp2_with (at_builtin; refine wpList_appInt eInt rfl (.tmp 67) (.tmp 69) rfl (r + 2 + 1) (by rfl) (HF2.out.drawn (Drawn.drewN _ _)).row (by rfl) (by omega) (by simpa using k3) ?_; intro ao5 cap5 w5 hr5 hg5 hb5; have HG := Lib.hid ((HF2.out.drawn (Drawn.drewN _ _)).grown2 hg5 hr5 hb5 HVV.out); have k4 := HG.out.1.c1; have k5 := HG.out.1.f1; clear hr5 hg5 hb5)
            go_roundw
            case rel => exact ⟨q + 1, m2 + 1, ao5, cap5, by omega, by go_num, HMN.out, HG.out.2⟩
            case measure => simp [intOf]; omega
          · have b3 : ((p : Int) != (q : Int)) = true := by rw [bne_iff_ne]; omega
            have b4 : ((dp : Int) == (dq : Int)) = false := by rw [beq_eq_false_iff_ne]; omega
            have b5 : ((mp : Int) == (mq : Int)) = false := by rw [beq_eq_false_iff_ne]; omega
            have b6 : (x == y) = false := by rw [beq_eq_false_iff_ne]; exact g3
            have hv := HV.out
            rw [if_neg (fun h => h.2.elim g1 (fun h => h.elim g2 g3))] at hv
            have HVV := Lib.hid hv
            clear hv g0 g1 g2 g3
            go_wp2_with fail
            go_quiet (fail)
            go_wp2_with (at_builtin; refine wpList_appInt eInt rfl (.tmp 67) (.tmp 69) rfl (r + 2 + 1) (by rfl) (HF2.out.drawn (Drawn.drewN _ _)).row (by rfl) (by omega) (by simpa using k3) ?_; intro ao5 cap5 w5 hr5 hg5 hb5; have HG := Lib.hid ((HF2.out.drawn (Drawn.drewN _ _)).grown2 hg5 hr5 hb5 HVV.out); have k4 := HG.out.1.c1; have k5 := HG.out.1.f1; clear hr5 hg5 hb5)
            go_roundw
            case rel => exact ⟨q + 1, m2 + 1, ao5, cap5, by omega, by go_num, HMN.out, HG.out.2⟩
            case measure => simp [intOf]; omega
        · obtain rfl : q = len := by omega
          go_wp2
          go_roundw
          case rel => exact ⟨p + 1, m2, ao4, cap4, by omega, by go_num, by show m2 = (p + 1) * q; rw [HM2.out, Nat.succ_mul], HF2.out⟩
          case measure => simp [intOf]; omega
    · obtain rfl : p = len := by omega
      have HXW : Hid (Ext w0 wr) := by
        have h := HF1.out.bel
        unfold Hid; unfold Ext; rw [HS0.out]; exact h
      have hb1 := HY.out.ext HXW.out
      have k0 := hb1.two
      have k1 := hb1.f 0
      have k2 := hb1.f 1
      have q0 := HF1.out.box.c0
      have q1 := HF1.out.box.c1
      have HM2 : Hid (m = N2) := by show _ = _; rw [HM.out, HN2.out]
      have HF3 := HF1
      rw [HM2.out] at q1 HF3
      have HBB := Lib.hid ((hb1.set 0 (.int .i64 p)).set 1 (.slice ao3 N2 cap3))
      clear hb1
      go_wp2
      have e0 := HBB.out.c 0 (.int .i64 p) rfl
      have e1 := HBB.out.c 1 (.slice ao3 N2 cap3) rfl
      refine bodyPost_ret (v := .tuple #[.agg #[.int .i64 p, .slice ao3 N2 cap3], .int .i64 0]) (by simp [results, Tryd.results11, go_sem, e0, e1]) rfl ⟨ao3, cap3, rfl, ?_, ?_⟩
      · exact ((HF3.out.row.beside ⟨r + 1, 0, none⟩ (by simp) (.int .i64 p)).beside ⟨r + 1, 1, none⟩ (by simp) (.slice ao3 N2 cap3)).mono (by have := HSR.out; omega)
      · exact ((HB.out.trans HXW.out).set (by have := HSR.out; simp; omega) _).set (by have := HSR.out; simp; omega) _

end Go.Proofs.YthfjlemlpgkedaaDoor
