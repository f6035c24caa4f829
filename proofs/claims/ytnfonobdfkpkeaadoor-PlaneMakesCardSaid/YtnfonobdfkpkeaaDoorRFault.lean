/- What parterreref1.Fault answers at any field. No conditions. -/
import Derived.Test.YtnfonobdfkpkeaaDoorRDivides
namespace Go.Proofs.YtnfonobdfkpkeaaDoor
open Go.RowKit

set_option maxHeartbeats 1000000 in
theorem refFault_order (p k : Int) (ao : Option Addr) (len cap : Nat) (low : List Int) (w : World) (h0 : ordF p k = 0) :
    Calls Tryd.prog 11 #[.agg #[.int .i64 p, .int .i64 k, .slice ao len cap]] w fun e w' => e = .returned (.int .i64 (fieldFault p k low)) ∧ Ext w w' := by
  have HO : Hid (∀ w, _) := fun w => orderOf_any p k w
  have HV : Hid (fieldFault p k low = 1) := by show _ = _; unfold fieldFault; rw [if_pos h0]
  rw [h0] at HO
  clear h0
  go_enter Tryd.func11, Tryd.ntmps11
  go_wp2_with (go_at_call 21; refine Calls.mono (HO.out _) ?_; rintro e w1 ⟨rfl, rfl⟩)
  go_ret
  exact ⟨by rw [HV.out]; rfl, (Ext.refl w).alloc _⟩

set_option maxHeartbeats 1000000 in
theorem refFault_shape (p k : Int) (ao : Option Addr) (len cap : Nat) (low : List Int) (w : World) (h0 : ordF p k ≠ 0) (hl : low.length = len) (hs : (len : Int) ≠ k) :
    Calls Tryd.prog 11 #[.agg #[.int .i64 p, .int .i64 k, .slice ao len cap]] w fun e w' => e = .returned (.int .i64 (fieldFault p k low)) ∧ Ext w w' := by
  have HO : Hid (∀ w, _) := fun w => orderOf_any p k w
  have HV : Hid (fieldFault p k low = 2) := by show _ = _; unfold fieldFault; rw [if_neg h0, if_pos (by rw [hl]; exact hs)]
  obtain ⟨q, hq⟩ : ∃ q, ordF p k = q := ⟨_, rfl⟩
  rw [hq] at HO h0
  have b0 : ((q : Int) == 0) = false := by rw [beq_eq_false_iff_ne]; omega
  have b1 : ((len : Int) != k) = true := by rw [bne_iff_ne]; exact hs
  clear h0 hl hs hq
  go_enter Tryd.func11, Tryd.ntmps11
  go_wp2_with (go_at_call 21; refine Calls.mono (HO.out _) ?_; rintro e w1 ⟨rfl, rfl⟩)
  go_ret
  exact ⟨by rw [HV.out]; rfl, (Ext.refl w).alloc _⟩

set_option maxHeartbeats 8000000 in
set_option maxRecDepth 100000 in
theorem refFault_rest (p k : Nat) (ao : Option Addr) (cap : Nat) (low : List Int) (w : World) (ho : ordF p k = p ^ k) (h2 : 2 ≤ p) (h61 : p ≤ 61) (hk1 : 1 ≤ k) (hk6 : k ≤ 6) (h64 : p ^ k ≤ 64) (hl : low.length = k) (hr : Reads w ao (ints low)) :
    Calls Tryd.prog 11 #[.agg #[.int .i64 p, .int .i64 k, .slice ao k cap]] w fun e w' => e = .returned (.int .i64 (fieldFault p k low)) ∧ Ext w w' := by
  have HO : Hid (∀ w, _) := fun w => orderOf_any (p : Int) (k : Int) w
  have hq : p ^ k ≠ 0 := Nat.pos_iff_ne_zero.1 (Nat.pow_pos (by omega))
  have HV : Hid (fieldFault p k low = if low.any (badDg p) = true then 1 else if irrF p k (nth low) = true then 0 else 4) := by
    show _ = _; unfold fieldFault; rw [ho, if_neg hq, if_neg (by rw [hl]; simp), Int.toNat_natCast, Int.toNat_natCast]
  rw [ho] at HO
  have HH64 := Lib.hid h64
  obtain ⟨q, hqq⟩ : ∃ q, p ^ k = q := ⟨_, rfl⟩
  rw [hqq] at HO hq
  have b0 : ((q : Int) == 0) = false := by rw [beq_eq_false_iff_ne]; omega
  have b1 : ((k : Int) != (k : Int)) = false := by simp
  have HRD := Lib.hid hr
  obtain ⟨b, off, rfl, hb, hc⟩ := Reads.int hr (by omega)
  have HC := Lib.hid hc
  have HL := Lib.hid hl
  have H0 : Hid (Blk (w.alloc (.cells #[.int .i64 p, .int .i64 k, .slice (some ⟨b, off, none⟩) k cap] 24)) w.heap.size #[.int .i64 p, .int .i64 k, .slice (some ⟨b, off, none⟩) k cap] 24) := Blk.new _ _ _
  have HX0 : Hid (Ext w (w.alloc (.cells #[.int .i64 p, .int .i64 k, .slice (some ⟨b, off, none⟩) k cap] 24))) := (Ext.refl w).alloc _
  clear ho hl hr hc hq hqq
  go_enter Tryd.func11, Tryd.ntmps11
  go_wp2_with (go_at_call 21; refine Calls.mono (HO.out _) ?_; rintro e w1 ⟨rfl, rfl⟩)
  obtain ⟨w0, hw0⟩ : ∃ w0, w0 = w.alloc (.cells #[.int .i64 p, .int .i64 k, .slice (some ⟨b, off, none⟩) k cap] 24) := ⟨_, rfl⟩
  rw [← hw0] at H0 HX0 ⊢
  clear hw0
  go_loopw [4] (fun x wr => ∃ j : Nat, j ≤ k ∧ x = .int .i64 j ∧ Drawn w0 wr ∧ ∀ i, i < j → badDg p (nth low i) = false) (fun x _ => k - (intOf x).toNat)
  case atStart => exact ⟨0, by omega, rfl, Drawn.refl _, fun i h => by omega⟩
  case round =>
    obtain ⟨j, hj, rfl, hd, hall⟩ := hrel
    have HD := Lib.hid hd
    have HA := Lib.hid hall
    clear hd hall
    obtain ⟨t1, t2, t3⟩ := (H0.out.drawn HD.out).three
    by_cases hjk : j < k
    · have bJ : decide (j < k) = true := decide_eq_true hjk
      have k1 := ((HX0.out.drawn HD.out).cell hb).trans (HC.out j (by rw [HL.out]; exact hjk))
      have hja : (0 : Int) ≤ (j : Int) := by omega
      have hjb : (j : Int) < k := by omega
      have HMEM : Hid (nth low j ∈ low) := nth_mem low j (by rw [HL.out]; exact hjk)
      obtain ⟨x, hx⟩ : ∃ x, nth low j = x := ⟨_, rfl⟩
      have HXE := Lib.hid hx
      rw [hx] at k1
      clear hx
      by_cases hbad : badDg p x = true
      · have HB : Hid (fieldFault p k low = 1) := by show _ = _; rw [HV.out, if_pos (List.any_eq_true.2 ⟨_, HMEM.out, by rw [HXE.out]; exact hbad⟩)]
        have hcs : decide (x < 0) = true ∨ (decide (x < 0) = false ∧ decide ((p : Int) ≤ x) = true) := by
          unfold badDg at hbad
          rw [Bool.or_eq_true] at hbad
          by_cases h : x < 0
          · exact .inl (decide_eq_true h)
          · exact .inr ⟨decide_eq_false h, by rcases hbad with h' | h'; exact absurd (of_decide_eq_true h') h; exact h'⟩
        clear hbad
        rcases hcs with d1 | ⟨d1, d2⟩
        all_goals
          go_wp2_with fail
          go_quiet (fail)
          go_wp2
          go_ret
          exact ⟨by rw [HB.out]; rfl, HX0.out.drawn (HD.out.trans (Drawn.drewN _ _))⟩
      · have hbf : badDg p x = false := by simpa using hbad
        have HB := Lib.hid hbf
        have d1 : decide (x < 0) = false ∧ decide ((p : Int) ≤ x) = false := by unfold badDg at hbf; rw [Bool.or_eq_false_iff] at hbf; exact hbf
        obtain ⟨d1, d2⟩ := d1
        clear hbf hbad
        go_wp2_with fail
        go_quiet (fail)
        go_wp2
        exact ⟨⟨j + 1, by omega, by go_num, HD.out.trans (Drawn.drewN _ _), fun i hi => by
          rcases Nat.lt_succ_iff_lt_or_eq.1 hi with h | rfl
          · exact HA.out i h
          · rw [HXE.out]; exact HB.out⟩, by simp [intOf]; omega⟩
    · have bJ : decide (j < k) = false := decide_eq_false hjk
      obtain rfl : k = j := by omega
      have hany : ¬ low.any (badDg p) = true := by
        rw [List.any_eq_true]
        rintro ⟨x, hx, hb⟩
        obtain ⟨i, hi, rfl⟩ := mem_nth _ _ hx
        rw [HA.out i (by rw [HL.out] at hi; exact hi)] at hb
        cases hb
      have HDIG : Hid (Dig p (nth low)) := nth_dig (by omega) hany
      have HV2 : Hid (fieldFault p k low = if irrF p k (nth low) = true then 0 else 4) := by show _ = _; rw [HV.out, if_neg hany]
      have HXD := Lib.hid (HX0.out.drawn HD.out)
      have HFB := Lib.hid (H0.out.drawn HD.out)
      clear hany
      obtain ⟨wo, rfl⟩ : ∃ wo : World, wo = wr := ⟨_, rfl⟩
      go_wp2
      clear t1 t2 t3
      go_loopw [5, 6] (fun m a wr => ∃ n M : Nat, n ≤ 3 ∧ a = .int .i64 ((n : Int) + 1) ∧ m = .int .i64 M ∧ M ≤ 64 ∧ Hid (M = p ^ n) ∧ irrTo p k (nth low) (n + 1) = true ∧ Ext wo wr) (fun _ a _ => 4 - (intOf a).toNat)
      case atStart => exact ⟨0, 1, by omega, by go_num, by go_num, by omega, by show _ = _; simp, irrTo_one p k _, Ext.refl _⟩
      case round =>
        obtain ⟨n, M, hn3, rfl, rfl, hM, HM, hirr, hx⟩ := hrel
        have HI := Lib.hid hirr
        have HX1 := Lib.hid hx
        clear hirr hx
        obtain ⟨t1, t2, t3⟩ := (HFB.out.ext HX1.out).three
        by_cases hnk : 2 * (n + 1) ≤ k
        · have bT : decide (2 * ((n : Int) + 1) ≤ (k : Int)) = true := decide_eq_true (by omega)
          have hpn : p ^ (n + 1) * p ^ (n + 1) ≤ 64 := by
            rw [← Nat.pow_add]
            exact Nat.le_trans (Nat.pow_le_pow_right (by omega) (by omega)) HH64.out
          have hpn8 : p ^ (n + 1) ≤ 8 := by
            rcases Nat.lt_or_ge 8 (p ^ (n + 1)) with h | h
            · have := Nat.mul_le_mul (show 9 ≤ p ^ (n + 1) from h) (show 9 ≤ p ^ (n + 1) from h); omega
            · exact h
          obtain ⟨R, hR⟩ : ∃ R, M * p = R := ⟨_, rfl⟩
          have hR' : (M : Int) * (p : Int) = R := by rw [← hR, Int.natCast_mul]
          have HRP : Hid (R = p ^ (n + 1)) := by show _ = _; rw [← hR, HM.out, Nat.pow_succ]
          have hR8 : R ≤ 8 := by rw [HRP.out]; exact hpn8
          clear hR hpn hpn8
          obtain ⟨wp, rfl⟩ : ∃ wp : World, wp = wr := ⟨_, rfl⟩
          go_wp2
          clear t1 t2 t3
          go_loopw [7] (fun a wr => ∃ c : Nat, c ≤ R ∧ a = .int .i64 c ∧ noneF p (n + 1) k (nth low) c = true ∧ Ext wo wr) (fun a _ => R - (intOf a).toNat)
          case atStart => exact ⟨0, by omega, by go_num, rfl, HX1.out⟩
          case round =>
            obtain ⟨c, hc, rfl, hnone, hx⟩ := hrel
            have HX2 := Lib.hid hx
            have HN := Lib.hid hnone
            clear hx hnone
            obtain ⟨t1, t2, t3⟩ := (HFB.out.ext HX2.out).three
            by_cases hcR : c < R
            · have bC : decide (c < R) = true := decide_eq_true hcR
              have HDG := Lib.hid (digitsOf_any p c (n + 1) wr h2 h61 (by omega) (by omega))
              rw [show ((n + 1 : Nat) : Int) = (n : Int) + 1 by simp] at HDG
              go_wp2_with fail
              refine Calls.mono HDG.out ?_
              rintro e w3 ⟨v, rfl, ho⟩
              obtain ⟨g, cz, rfl, hof⟩ := ho.f (by omega)
              have HX3 := Lib.hid (HX2.out.trans hof.ext)
              have HDV := Lib.hid (refDivides_any p (n + 1) k (dgI p c) (some ⟨g, 0, none⟩) (some ⟨b, off, none⟩) cz cap low w3 h2 h61 (by omega) (by omega) hk6 (dgI_dig (by omega) c) HL.out HDIG.out hof.reads ((HXD.out.trans HX3.out).reads HRD.out))
              obtain ⟨v, hv⟩ : ∃ v, divF p (n + 1) k (upd (dgI p c) (n + 1) 1) (upd (nth low) k 1) = v := ⟨_, rfl⟩
              have HVV := Lib.hid hv
              rw [hv] at HDV
              clear ho hof hv t1 t2 t3
              obtain ⟨t1, t2, t3⟩ := (HFB.out.ext HX3.out).three
              go_wp2_with fail
              refine Calls.mono HDV.out ?_
              rintro e w4 ⟨rfl, hx⟩
              have HX4 := Lib.hid (HX3.out.trans hx)
              clear hx t1 t2 t3
              cases v with
              | true =>
                have hnf : noneF p (n + 1) k (nth low) (c + 1) = false := by rw [noneF_succ, HVV.out]; simp
                have HR : Hid (fieldFault p k low = 4) := by
                  show _ = _
                  have h1 : noneF p (n + 1) k (nth low) (p ^ (n + 1)) = false := noneF_le hnf (by rw [← HRP.out]; exact hcR)
                  have h3 : irrF p k (nth low) = false := by
                    unfold irrF
                    exact irrTo_le (m := n + 1 + 1) (by rw [irrTo_succ p k (nth low) (n + 1) (by omega), h1]; simp) (by omega)
                  rw [HV2.out, h3]; rfl
                clear hnf
                go_wp2
                go_ret
                exact ⟨by rw [HR.out]; rfl, HXD.out.trans HX4.out⟩
              | false =>
                have HR : Hid (noneF p (n + 1) k (nth low) (c + 1) = true) := by show _ = _; rw [noneF_succ, HVV.out, HN.out]; rfl
                go_wp2
                exact ⟨⟨c + 1, by omega, by go_num, HR.out, HX4.out⟩, by simp [intOf]; omega⟩
            · have bC : decide (c < R) = false := decide_eq_false hcR
              obtain rfl : R = c := by omega
              go_wp2
              exact ⟨⟨n + 1, R, by omega, by go_num, rfl, by omega, HRP, by rw [irrTo_succ p k (nth low) (n + 1) (by omega), HI.out, ← HRP.out, HN.out]; rfl, HX2.out⟩, by simp [intOf]; omega⟩
        · have bT : decide (2 * ((n : Int) + 1) ≤ (k : Int)) = false := decide_eq_false (by omega)
          have HR : Hid (fieldFault p k low = 0) := by
            show _ = _
            have h : irrF p k (nth low) = true := by
              unfold irrF
              cases hc : irrTo p k (nth low) (k / 2 + 1) with
              | true => rfl
              | false => have := irrTo_le hc (show k / 2 + 1 ≤ n + 1 by omega); rw [HI.out] at this; cases this
            rw [HV2.out, h]; rfl
          go_wp2
          go_ret
          exact ⟨by rw [HR.out]; rfl, HXD.out.trans HX1.out⟩

theorem refFault_any (p k : Int) (ao : Option Addr) (len cap : Nat) (low : List Int) (w : World) (hl : low.length = len) (hr : Reads w ao (ints low)) :
    Calls Tryd.prog 11 #[.agg #[.int .i64 p, .int .i64 k, .slice ao len cap]] w fun e w' => e = .returned (.int .i64 (fieldFault p k low)) ∧ Ext w w' := by
  by_cases h0 : ordF p k = 0
  · exact refFault_order p k ao len cap low w h0
  · by_cases hs : (len : Int) ≠ k
    · exact refFault_shape p k ao len cap low w h0 hl hs
    · obtain ⟨P, K, rfl, rfl, a1, a2, a3, a4, a5, a6, a7⟩ := ordF_nat h0
      obtain rfl : len = K := by omega
      exact refFault_rest P len ao cap low w a6 a1 a2 a3 a4 a5 hl hr

end Go.Proofs.YtnfonobdfkpkeaaDoor
