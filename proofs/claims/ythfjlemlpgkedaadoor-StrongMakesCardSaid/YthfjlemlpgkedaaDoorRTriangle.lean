/- What parterreref3.TriangleOf answers: the program's graph. No conditions. -/
import Derived.Test.YthfjlemlpgkedaaDoorTriangle
import Derived.BigQuiet
import Derived.BigRegion
import Derived.Deep.LoopGhost
import Derived.Deep.QuietTactic
namespace Go.Proofs.YthfjlemlpgkedaaDoor
open Go.RowKit
set_option linter.unusedVariables false

/-- A pair as two bits. -/
def triBits (n k : Nat) : Int := 2 ^ (nth (triFlat n) (k * 2)).toNat + 2 ^ (nth (triFlat n) (k * 2 + 1)).toNat
theorem triBits_at (n : Nat) (h2 : 2 ≤ n) (h7 : n ≤ 7) : ∀ a, a < n → ∀ b, b < n → a < b → triBits n (triCnt n a b) = 2 ^ a + 2 ^ b := by
  have h : n = 2 ∨ n = 3 ∨ n = 4 ∨ n = 5 ∨ n = 6 ∨ n = 7 := by omega
  rcases h with rfl | rfl | rfl | rfl | rfl | rfl <;> decide +kernel

theorem or_bits : ∀ a, a < 7 → ∀ b, b < 7 → a < b → bits BinOp.or IntKind.i64 (wrap64 (2 ^ a)) (wrap64 (2 ^ b)) = 2 ^ a + 2 ^ b := by decide +kernel
theorem wrap_pow : ∀ a, a < 7 → IntKind.i64.wrap (2 ^ a) = wrap64 (2 ^ a) := by decide +kernel
theorem and_bits (n : Nat) (h2 : 2 ≤ n) (h7 : n ≤ 7) : ∀ i, i < triNum n → ∀ j, j < triNum n → (bits BinOp.and IntKind.i64 (triBits n i) (triBits n j) != 0) = triJoin n i j := by
  have h : n = 2 ∨ n = 3 ∨ n = 4 ∨ n = 5 ∨ n = 6 ∨ n = 7 := by omega
  rcases h with rfl | rfl | rfl | rfl | rfl | rfl <;> decide +kernel
theorem triBits_bd (n : Nat) (h2 : 2 ≤ n) (h7 : n ≤ 7) : ∀ i, i < triNum n → 0 ≤ triBits n i ∧ triBits n i ≤ 128 := by
  have h : n = 2 ∨ n = 3 ∨ n = 4 ∨ n = 5 ∨ n = 6 ∨ n = 7 := by omega
  rcases h with rfl | rfl | rfl | rfl | rfl | rfl <;> decide +kernel

set_option maxHeartbeats 4000000 in
set_option maxRecDepth 1000000 in
theorem triangleOf_ok (n : Nat) (w : World) (h2 : 2 ≤ n) (h7 : n ≤ 7) :
    Calls Tryd.prog 8 #[.int .i64 n] w fun e w' =>
      ∃ ao cap, e = .returned (.tuple #[.agg #[.int .i64 (triNum n : Nat), .slice ao (triNum n * triNum n) cap], .int .i64 0]) ∧ RowOf 3 w' w.heap.size ao (triNum n * triNum n) cap (ints (tab (flat (triNum n) (joinCell (triJoin n))) (triNum n * triNum n))) ∧ Ext w w' := by
  have HE := Lib.hid (triCnt_end n h2 h7)
  have HS := Lib.hid (triFlat_step n h2 h7)
  have HA := Lib.hid (triFlat_all n h2 h7)
  have HT := Lib.hid (triBits_at n h2 h7)
  have HAND := Lib.hid (and_bits n h2 h7)
  have HBD := Lib.hid (triBits_bd n h2 h7)
  obtain ⟨N, hN⟩ : ∃ N, triNum n = N := ⟨_, rfl⟩
  rw [hN] at HE HA HAND HBD ⊢
  clear hN
  obtain ⟨N2, hN2⟩ : ∃ N2, N * N = N2 := ⟨_, rfl⟩
  rw [hN2]
  have HN2 := Lib.hid hN2
  clear hN2
  have b1 : decide ((n : Int) < 2) = false := decide_eq_false (by omega)
  have b2 : decide (7 < (n : Int)) = false := decide_eq_false (by omega)
  go_enter Tryd.func8, Tryd.ntmps8
  go_wp2
  obtain ⟨r, hr⟩ : ∃ r, r = w.heap.size := ⟨_, rfl⟩
  have HX0 : Hid (Ext w (w.alloc (.cells #[.int .i64 0, .slice none 0 0] 26))) := ext_box _ _ _
  have HB0 : Hid (Blk (w.alloc (.cells #[.int .i64 0, .slice none 0 0] 26)) r #[.int .i64 0, .slice none 0 0] 26) := by rw [hr]; exact Blk.new _ _ _
  obtain ⟨w0, hw0⟩ : ∃ w0, w0 = w.alloc (.cells #[.int .i64 0, .slice none 0 0] 26) := ⟨_, rfl⟩
  have hs0 : w0.heap.size = r + 1 := by rw [hw0, hr]; simp
  rw [← hw0] at HX0 HB0 ⊢
  rw [← hr]
  have HRE := Lib.hid hr
  clear hw0 hr b1 b2
  go_loopw [4, 5] (fun l a wr => ∃ (i : Nat) (ao : Option Addr) (cap : Nat), i ≤ n ∧ a = .int .i64 i ∧ l = .slice ao (triCnt n i (i + 1)) cap ∧ RowOf 3 wr w0.heap.size ao (triCnt n i (i + 1)) cap (ints (tab (triBits n) (triCnt n i (i + 1)))) ∧ Ext w0 wr) (fun _ i _ => n - (intOf i).toNat)
  case atStart => exact ⟨0, none, 0, by omega, rfl, by rw [show triCnt n 0 (0 + 1) = 0 by simp [triCnt]], by rw [show triCnt n 0 (0 + 1) = 0 by simp [triCnt]]; exact RowOf.nil _ _ _, Ext.refl _⟩
  case round =>
    obtain ⟨i, ao, cap, hi, rfl, rfl, hrow, hx⟩ := hrel
    have HR := Lib.hid hrow
    have HX := Lib.hid hx
    clear hrow hx
    by_cases hin : i < n
    · have hin' : (i : Int) < n := by omega
      obtain ⟨m0, hm0⟩ : ∃ m0, triCnt n i (i + 1) = m0 := ⟨_, rfl⟩
      rw [hm0] at HR ⊢
      have HM0 := Lib.hid hm0
      clear hm0
      go_wp2
      obtain ⟨wo, rfl⟩ : ∃ wo : World, wo = wr := ⟨_, rfl⟩
      go_loopw [4, 6] (fun l a wi => ∃ (j m : Nat) (ao : Option Addr) (cap : Nat), i < j ∧ j ≤ n ∧ a = .int .i64 j ∧ Hid (triCnt n i j = m) ∧ l = .slice ao m cap ∧ RowOf 3 wi w0.heap.size ao m cap (ints (tab (triBits n) m)) ∧ Ext w0 wi) (fun _ i' _ => n - (intOf i').toNat)
      case atStart => exact ⟨i + 1, _, ao, cap, by omega, by omega, by go_num, HM0, rfl, HR.out, HX.out⟩
      case round =>
        obtain ⟨j, m, ao2, cap2, hij, hj, rfl, HM, rfl, hrow, hx⟩ := hrel
        have HR2 := Lib.hid hrow
        have HX2 := Lib.hid hx
        have hsz := hx.size
        clear hrow hx
        by_cases hjn : j < n
        · have hjn' : (j : Int) < n := by omega
          have hst := HS.out i hin j hjn hij
          have htb := HT.out i hin j hjn hij
          rw [HM.out] at hst htb
          obtain ⟨_, hs2, hs3⟩ := hst
          have HS2 := Lib.hid hs2
          have HBV : Hid (triBits n m = bits BinOp.or IntKind.i64 (wrap64 (2 ^ i)) (wrap64 (2 ^ j))) := by show _ = _; rw [htb, or_bits i (by omega) j (by omega) hij]
          obtain ⟨y, hy⟩ : ∃ y, bits BinOp.or IntKind.i64 (wrap64 (2 ^ i)) (wrap64 (2 ^ j)) = y := ⟨_, rfl⟩
          rw [hy] at HBV
          clear hs2 htb
          go_wp2_with fail
          go_region_law (refine step_app eInt rfl (.tmp 30) (.tmp 36) rfl w0.heap.size (by simp [Act.eval]; try exact ⟨rfl, rfl, rfl⟩) (World.ownsRow.drew (World.ownsRow.alloc HR2.out _)) ⟨wr.heap.size, 0, none⟩ (.int .i64 y) (by simp [Act.eval]) (by simp [World.cell?_alloc_at]; rw [wrap_pow i (by omega), wrap_pow j (by omega)]; exact hy) rfl (by omega) (by simp; omega) ?_; intro ao' cap' w1 hr1 hg1 hb1)
          all_goals
            go_wp2
            go_roundw
            case rel => exact ⟨j + 1, m + 1, ao', cap', by omega, by omega, by go_num, by rw [← HS2.out] ; rfl, rfl, by rw [← tab_snoc (triBits n) m y HBV.out]; exact hr1, hb1 _ _ ((HX2.out.alloc _).drew) (Nat.le_refl _)⟩
            case measure => simp [intOf]; omega
        · obtain rfl : j = n := by omega
          have he := (HE.out i hin).1
          have hf := HR2.out
          rw [← HM.out, ← he] at hf
          have HR3 := Lib.hid hf
          have HME : Hid (m = triCnt j (i + 1) (i + 2)) := by show _ = _; rw [he, HM.out]
          clear he hf
          go_wp2
          go_roundw
          case rel => exact ⟨i + 1, ao2, cap2, by omega, by go_num, by rw [HME.out], HR3.out, HX2.out⟩
          case measure => simp [intOf]; omega
    · obtain rfl : i = n := by omega
      have hcnt := (HE.out 0 (by omega)).2.1
      have hr0 := HR.out
      rw [hcnt] at hr0
      rw [hcnt]
      have HRL := Lib.hid hr0
      obtain ⟨ha1, ha2, ha3, ha4⟩ := HA.out
      obtain ⟨g, rfl, _, hg2, hcl, _⟩ := hr0.opened (by omega)
      have HCL : Hid (∀ k, k < N → wr.cell? ⟨g, k, none⟩ = some (.int .i64 (triBits i k))) := fun k hk => by
        rw [hcl k _ (ints_get _ _ (by rw [tab_length]; exact hk)), nth_tab _ _ _ hk]
      clear hcnt hr0 hcl ha1 ha2 HE HS HT HR
      obtain ⟨w1, rfl⟩ : ∃ w1 : World, w1 = wr := ⟨_, rfl⟩
      go_wp2
      obtain ⟨w2, hw2⟩ : ∃ w2, w2 = w1.alloc (.cells #[.int .i64 N, .slice none 0 0] 26) := ⟨_, rfl⟩
      obtain ⟨b, hb⟩ : ∃ b, b = w1.heap.size := ⟨_, rfl⟩
      have HF0 : Hid (Filling w2 w2 b N 0 (flat N (joinCell (triJoin i))) none 0) := by
        refine ⟨?_, RowOf.nil _ _ _, Below.refl _ _⟩
        rw [hw2, hb]; exact BoxAt.new _ _ _ _
      have HX2 : Hid (Ext w1 w2) := by rw [hw2]; exact ext_box _ _ _
      have hs2 : b < w2.heap.size := by rw [hw2, hb]; simp
      have hrb : r + 1 ≤ b := by have := HX.out.size; omega
      have HBE := Lib.hid hb
      have HC2 : Hid (∀ wx, Below b w2 wx → ∀ k, k < N → wx.cell? ⟨g, k, none⟩ = some (.int .i64 (triBits i k))) := fun wx h k hk => by
        rw [h.cell (p := ⟨g, k, none⟩) (by simp; omega), HX2.out.cell hg2]; exact HCL.out k hk
      rw [← hw2, ← hb]
      clear hw2 hb
      go_loopw [8] (fun a wx => ∃ (p m : Nat) (ao : Option Addr) (cap : Nat), p ≤ N ∧ a = .int .i64 p ∧ Hid (m = p * N) ∧ Filling w2 wx b N m (flat N (joinCell (triJoin i))) ao cap) (fun p _ => N - (intOf p).toNat)
      case atStart => exact ⟨0, 0, none, 0, by omega, rfl, (Nat.zero_mul _).symm, HF0.out⟩
      case round =>
        obtain ⟨p, m, ao3, cap3, hp, rfl, HM, hf⟩ := hrel
        have HF := Lib.hid hf
        clear hf HF0
        by_cases hpn : p < N
        · have hpn' : (p : Int) < N := by omega
          go_wp2
          obtain ⟨wo, rfl⟩ : ∃ wo : World, wo = wr := ⟨_, rfl⟩
          go_loopw [9] (fun a wi => ∃ (q m : Nat) (ao : Option Addr) (cap : Nat), q ≤ N ∧ a = .int .i64 q ∧ Hid (m = p * N + q) ∧ Filling w2 wi b N m (flat N (joinCell (triJoin i))) ao cap) (fun q _ => N - (intOf q).toNat)
          case atStart => exact ⟨0, m, ao3, cap3, by omega, rfl, HM, HF.out⟩
          case round =>
            obtain ⟨q, m2, ao4, cap4, hq, rfl, HM2, hf2⟩ := hrel
            have HF2 := Lib.hid hf2
            clear hf2 HF
            by_cases hqn : q < N
            · have hqn' : (q : Int) < N := by omega
              have c1 := HC2.out wr HF2.out.bel p hpn
              have c2 := HC2.out wr HF2.out.bel q hqn
              have k1 := HF2.out.box.c1
              have k3 := HF2.out.size
              have hand := HAND.out p hpn q hqn
              have hm2 : m2 ≤ 441 := by
                have h1 : p * N + q < N * N := by
                  have : (p + 1) * N ≤ N * N := Nat.mul_le_mul_right N hpn
                  rw [Nat.succ_mul] at this; omega
                have h3 : N * N ≤ 21 * 21 := Nat.mul_le_mul ha4 ha4
                have := HM2.out
                omega
              have HV : Hid (flat N (joinCell (triJoin i)) m2 = if p ≠ q ∧ triJoin i p q = true then 1 else 0) := by
                show _ = _; rw [HM2.out, flat_at _ hqn]; rfl
              have HMN : Hid (m2 + 1 = p * N + (q + 1)) := by show _ = _; rw [HM2.out]; omega
              obtain ⟨x, hx⟩ : ∃ x, triBits i p = x := ⟨_, rfl⟩
              obtain ⟨y, hy⟩ : ∃ y, triBits i q = y := ⟨_, rfl⟩
              rw [hx] at c1 hand
              rw [hy] at c2 hand
              clear hx hy
              by_cases hpq : p = q
              · have b3 : ((p : Int) != (q : Int)) = false := by subst hpq; simp
                have hv := HV.out
                rw [if_neg (fun h => h.1 hpq)] at hv
                have HVV := Lib.hid hv
                clear hv hpq
                go_wp2_with fail
                go_quiet (fail)
                go_wp2_with (at_builtin; refine wpList_appInt eInt rfl (.tmp 69) (.tmp 71) rfl (b + 1) (by rfl) (HF2.out.drawn (Drawn.drewN _ _)).row (by rfl) (by omega) (by simpa using k3) ?_; intro ao5 cap5 w5 hr5 hg5 hb5; have HG := Lib.hid ((HF2.out.drawn (Drawn.drewN _ _)).grown2 hg5 hr5 hb5 HVV.out); have k4 := HG.out.1.c1; have k5 := HG.out.1.f1; clear hr5 hg5 hb5)
                go_roundw
                case rel => exact ⟨q + 1, m2 + 1, ao5, cap5, by omega, by go_num, HMN.out, HG.out.2⟩
                case measure => simp [intOf]; omega
              · have b3 : ((p : Int) != (q : Int)) = true := by rw [bne_iff_ne]; omega
                cases hj : triJoin i p q with
                | true =>
                  rw [hj] at hand
                  have hv := HV.out
                  rw [if_pos ⟨hpq, hj⟩] at hv
                  have HVV := Lib.hid hv
                  clear hv hpq hj
                  go_wp2_with fail
                  go_quiet (fail)
                  go_wp2_with (at_builtin; refine wpList_appInt eInt rfl (.tmp 69) (.tmp 71) rfl (b + 1) (by rfl) (HF2.out.drawn (Drawn.drewN _ _)).row (by rfl) (by omega) (by simpa using k3) ?_; intro ao5 cap5 w5 hr5 hg5 hb5; have HG := Lib.hid ((HF2.out.drawn (Drawn.drewN _ _)).grown2 hg5 hr5 hb5 HVV.out); have k4 := HG.out.1.c1; have k5 := HG.out.1.f1; clear hr5 hg5 hb5)
                  go_roundw
                  case rel => exact ⟨q + 1, m2 + 1, ao5, cap5, by omega, by go_num, HMN.out, HG.out.2⟩
                  case measure => simp [intOf]; omega
                | false =>
                  rw [hj] at hand
                  have hv := HV.out
                  rw [if_neg (fun h => by rw [hj] at h; exact absurd h.2 (by simp))] at hv
                  have HVV := Lib.hid hv
                  clear hv hpq hj
                  go_wp2_with fail
                  go_quiet (fail)
                  go_wp2_with (at_builtin; refine wpList_appInt eInt rfl (.tmp 69) (.tmp 71) rfl (b + 1) (by rfl) (HF2.out.drawn (Drawn.drewN _ _)).row (by rfl) (by omega) (by simpa using k3) ?_; intro ao5 cap5 w5 hr5 hg5 hb5; have HG := Lib.hid ((HF2.out.drawn (Drawn.drewN _ _)).grown2 hg5 hr5 hb5 HVV.out); have k4 := HG.out.1.c1; have k5 := HG.out.1.f1; clear hr5 hg5 hb5)
                  go_roundw
                  case rel => exact ⟨q + 1, m2 + 1, ao5, cap5, by omega, by go_num, HMN.out, HG.out.2⟩
                  case measure => simp [intOf]; omega
            · obtain rfl : q = N := by omega
              go_wp2
              go_roundw
              case rel => exact ⟨p + 1, m2, ao4, cap4, by omega, by go_num, by show m2 = (p + 1) * q; rw [HM2.out, Nat.succ_mul], HF2.out⟩
              case measure => simp [intOf]; omega
        · obtain rfl : p = N := by omega
          have HB1 := Lib.hid ((HB0.out.ext HX.out).ext HX2.out)
          have hb1 : Blk wr r #[.int .i64 0, .slice none 0 0] 26 := (HF.out.bel.block r (by omega)).trans HB1.out
          have k0 := hb1.two
          have k1 := hb1.f 0
          have k2 := hb1.f 1
          have q0 := HF.out.box.c0
          have q1 := HF.out.box.c1
          have HM2 : Hid (m = N2) := by show _ = _; rw [HM.out, HN2.out]
          have HF3 := HF
          rw [HM2.out] at q1 HF3
          have HBB := Lib.hid ((hb1.set 0 (.int .i64 p)).set 1 (.slice ao3 N2 cap3))
          clear hb1
          go_wp2
          have e0 := HBB.out.c 0 (.int .i64 p) rfl
          have e1 := HBB.out.c 1 (.slice ao3 N2 cap3) rfl
          refine bodyPost_ret (v := .tuple #[.agg #[.int .i64 p, .slice ao3 N2 cap3], .int .i64 0]) (by simp [results, Tryd.results8, go_sem, e0, e1]) rfl ⟨ao3, cap3, rfl, ?_, ?_⟩
          · have h1 := (HF3.out.row.beside ⟨r, 0, none⟩ (by simp; omega) (.int .i64 p)).beside ⟨r, 1, none⟩ (by simp; omega) (.slice ao3 N2 cap3)
            exact h1.mono (by have := HRE.out; omega)
          · have h1 : Ext w wr := Below.trans (HX0.out.trans (HX.out.trans HX2.out)) (Below.mono HF.out.bel (by have := HRE.out; omega))
            exact (h1.set (by have := HRE.out; simp; omega) _).set (by have := HRE.out; simp; omega) _

set_option maxHeartbeats 400000 in
theorem triangleOf_no (n : Int) (w : World) (h : n < 2 ∨ 7 < n) :
    Calls Tryd.prog 8 #[.int .i64 n] w fun e w' => e = .returned (.tuple #[.agg #[.int .i64 0, .slice none 0 0], .int .i64 1]) ∧ Ext w w' := by
  have HX : Hid (Ext w (w.alloc (.cells #[.int .i64 0, .slice none 0 0] 26))) := (Ext.refl w).alloc _
  by_cases h2 : n < 2
  · have b1 : decide (n < 2) = true := decide_eq_true h2
    clear h h2
    go_enter Tryd.func8, Tryd.ntmps8
    go_wp2
    have HB := Lib.hid (Blk.new w #[.int .i64 0, .slice none 0 0] 26)
    have e0 := HB.out.c 0 _ rfl
    have e1 := HB.out.c 1 _ rfl
    exact bodyPost_ret (v := .tuple #[.agg #[.int .i64 0, .slice none 0 0], .int .i64 1]) (by simp [results, Tryd.results8, go_sem, e0, e1]) rfl ⟨rfl, HX.out⟩
  · have b1 : decide (n < 2) = false := decide_eq_false h2
    have b2 : decide (7 < n) = true := decide_eq_true (by omega)
    clear h h2
    go_enter Tryd.func8, Tryd.ntmps8
    go_wp2
    have HB := Lib.hid (Blk.new w #[.int .i64 0, .slice none 0 0] 26)
    have e0 := HB.out.c 0 _ rfl
    have e1 := HB.out.c 1 _ rfl
    exact bodyPost_ret (v := .tuple #[.agg #[.int .i64 0, .slice none 0 0], .int .i64 1]) (by simp [results, Tryd.results8, go_sem, e0, e1]) rfl ⟨rfl, HX.out⟩

end Go.Proofs.YthfjlemlpgkedaaDoor
