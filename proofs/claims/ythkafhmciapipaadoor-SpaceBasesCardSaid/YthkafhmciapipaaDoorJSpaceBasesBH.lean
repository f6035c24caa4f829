/- What parterreref3.RoomFault, RowFault and RowsFault answer. No conditions but a field. -/
import Derived.Test.YthkafhmciapipaaDoorJSpaceBasesAR
import Derived.Test.YthkafhmciapipaaDoorJSpaceBasesBG
import Derived.Test.YthkafhmciapipaaDoorJSpaceBasesAW
import Derived.Test.YthkafhmciapipaaDoorJSpaceBasesBB
namespace Go.Proofs.YthkafhmciapipaaDoor
open Go.RowKit
set_option linter.unusedVariables false

set_option maxHeartbeats 2000000 in
theorem refRoomFault_any (p k : Int) (ao : Option Addr) (len cap : Nat) (low : List Int) (n : Int) (w : World) (hl : low.length = len) (hr : Reads w ao (ints low)) :
    Calls Tryd.prog 10 #[.agg #[.int .i64 p, .int .i64 k, .slice ao len cap], .int .i64 n] w fun e w' => e = .returned (.int .i64 (roomFault p k low n)) ∧ Ext w w' := by
  have E0 := Lib.hid (ext_box w #[.int .i64 p, .int .i64 k, .slice ao len cap] 29)
  have F0 := Lib.hid (Blk.new w #[.int .i64 p, .int .i64 k, .slice ao len cap] 29)
  have k0 := F0.out.three
  have HF := Lib.hid (refFault_any p k ao len cap low _ hl (E0.out.reads hr))
  by_cases h0 : fieldFault p k low = 0
  · rw [h0] at HF
    obtain ⟨P, K, rfl, rfl, hF, ho⟩ := fieldFault_zero h0
    by_cases h1 : n < 1
    · have HV : Hid (roomFault P K low n = 1) := by show _ = _; unfold roomFault; rw [if_neg (fun h => h h0), if_pos (.inl h1)]
      have b1 : decide (n < 1) = true := decide_eq_true h1
      clear h0 h1 hr hF ho hl
      go_enter Tryd.func10, Tryd.ntmps10
      go_wp2_with fail
      refine Calls.mono HF.out ?_
      rintro e w1 ⟨rfl, hx⟩
      have E1 := Lib.hid (E0.out.trans hx)
      clear hx k0
      go_wp2
      exact bodyPost_ret (v := .int .i64 1) (by simp [results, Tryd.results10, go_sem]) rfl ⟨by rw [HV.out], E1.out⟩
    by_cases h6 : 6 < n
    · have HV : Hid (roomFault P K low n = 1) := by show _ = _; unfold roomFault; rw [if_neg (fun h => h h0), if_pos (.inr h6)]
      have b1 : decide (n < 1) = false := decide_eq_false h1
      have b2 : decide (6 < n) = true := decide_eq_true h6
      clear h0 h1 h6 hr hF ho hl
      go_enter Tryd.func10, Tryd.ntmps10
      go_wp2_with fail
      refine Calls.mono HF.out ?_
      rintro e w1 ⟨rfl, hx⟩
      have E1 := Lib.hid (E0.out.trans hx)
      clear hx k0
      go_wp2
      exact bodyPost_ret (v := .int .i64 1) (by simp [results, Tryd.results10, go_sem]) rfl ⟨by rw [HV.out], E1.out⟩
    obtain ⟨N, rfl⟩ : ∃ N : Nat, n = N := ⟨n.toNat, by omega⟩
    have HS : Hid (∀ w, _) := fun w => size_is P K ao len cap low w hF
    have hq2 : 2 ≤ P ^ K := one_lt_pow' hF.p2 hF.k1
    have h64 := hF.big
    have HV0 : Hid (roomFault P K low N = if 4096 < (P ^ K) ^ N then 3 else 0) := by
      show _ = _; unfold roomFault; rw [if_neg (fun h => h h0), if_neg (by omega), ho, Int.toNat_natCast]
    obtain ⟨q, hq⟩ : ∃ q, P ^ K = q := ⟨_, rfl⟩
    rw [hq] at hq2 h64 HS HV0
    have HPW : Hid (∀ i, i ≤ N → 4096 < q ^ i → 4096 < q ^ N) := fun i hi h => Nat.lt_of_lt_of_le h (Nat.pow_le_pow_right (by omega) hi)
    have HST : Hid (∀ i, q ^ (i + 1) = q ^ i * q) := fun i => Nat.pow_succ _ _
    have b1 : decide ((N : Int) < 1) = false := decide_eq_false h1
    have b2 : decide (6 < (N : Int)) = false := decide_eq_false h6
    have hN1 : 1 ≤ N := by omega
    have hN6 : N ≤ 6 := by omega
    clear h0 h1 h6 hr hF ho hl hq
    go_enter Tryd.func10, Tryd.ntmps10
    go_wp2_with fail
    refine Calls.mono HF.out ?_
    rintro e w1 ⟨rfl, hx⟩
    have E1 := Lib.hid (E0.out.trans hx)
    have k1 := (F0.out.ext hx).three
    clear hx k0
    go_wp2_with fail
    refine Calls.mono (HS.out w1) ?_
    rintro e w2 ⟨rfl, hx⟩
    have E2 := Lib.hid (E1.out.trans hx)
    clear hx k1 b1 b2
    go_wp2
    go_loopg [7, 8] N (fun r y x wr => ∃ i u : Nat, i + r = N ∧ x = .int .i64 i ∧ y = .int .i64 u ∧ Hid (u = q ^ i) ∧ u ≤ 4096 ∧ w2 = wr)
    case atStart => exact ⟨0, 1, by omega, rfl, rfl, by show _ = _; rw [Nat.pow_zero], by omega, rfl⟩
    case round =>
      obtain ⟨i, u, hir, rfl, rfl, HU, hu, rfl⟩ := hrel
      cases gk with
      | zero =>
        obtain rfl : i = N := by omega
        have HV : Hid (roomFault P K low i = 0) := by show _ = _; rw [HV0.out, ← HU.out, if_neg (by omega)]
        go_wp2
        exact bodyPost_ret (v := .int .i64 0) (by simp [results, Tryd.results10, go_sem]) rfl ⟨by rw [HV.out], E2.out⟩
      | succ r1 =>
        have hin : (i : Int) < (N : Int) := by omega
        obtain ⟨m, hm⟩ : ∃ m, u * q = m := ⟨_, rfl⟩
        have hm' : (u : Int) * (q : Int) = m := by rw [← hm, Int.natCast_mul]
        have hmb : m ≤ 4096 * 64 := by rw [← hm]; exact Nat.mul_le_mul hu h64
        have HM : Hid (m = q ^ (i + 1)) := by show _ = _; rw [← hm, HU.out, HST.out]
        clear hm
        by_cases hb : 4096 < m
        · have b3 : decide (4096 < (m : Int)) = true := decide_eq_true (by omega)
          have HV : Hid (roomFault P K low N = 3) := by
            show _ = _; rw [HV0.out, if_pos (HPW.out (i + 1) (by omega) (by rw [← HM.out]; exact hb))]
          clear hb
          go_wp2
          exact bodyPost_ret (v := .int .i64 3) (by simp [results, Tryd.results10, go_sem]) rfl ⟨by rw [HV.out], E2.out⟩
        · have b3 : decide (4096 < (m : Int)) = false := decide_eq_false (by omega)
          have hb' : m ≤ 4096 := by omega
          clear hb
          go_wp2
          go_roundg r1
          case measure => omega
          case rel => exact ⟨i + 1, m, by omega, by go_num, rfl, HM, hb', rfl⟩
  · have HV : Hid (roomFault p k low n = fieldFault p k low) := by show _ = _; unfold roomFault; rw [if_pos h0]
    obtain ⟨c, hc⟩ : ∃ c, fieldFault p k low = c := ⟨_, rfl⟩
    rw [hc] at HF HV h0
    have b1 : (c != 0) = true := by rw [bne_iff_ne]; exact h0
    clear hc h0 hr hl
    go_enter Tryd.func10, Tryd.ntmps10
    go_wp2_with fail
    refine Calls.mono HF.out ?_
    rintro e w1 ⟨rfl, hx⟩
    have E1 := Lib.hid (E0.out.trans hx)
    clear hx k0
    go_wp2
    exact bodyPost_ret (v := .int .i64 c) (by simp [results, Tryd.results10, go_sem]) rfl ⟨by rw [HV.out], E1.out⟩

set_option maxHeartbeats 400000 in
theorem in_any (p k : Nat) (ao : Option Addr) (len cap : Nat) (low : List Int) (x : Int) (w : World) (hF : IsField p k low) :
    Calls Tryd.prog 38 #[.agg #[.int .i64 p, .int .i64 k, .slice ao len cap], .int .i64 x] w fun e w' => e = .returned (.bool (!badDg (p ^ k : Nat) x)) ∧ Ext w w' := by
  have HS : Hid (∀ w, _) := fun w => size_is p k ao len cap low w hF
  have E0 := Lib.hid (ext_box w #[.int .i64 p, .int .i64 k, .slice ao len cap] 29)
  have k0 := (Blk.new w #[.int .i64 p, .int .i64 k, .slice ao len cap] 29).three
  obtain ⟨q, hq⟩ : ∃ q, p ^ k = q := ⟨_, rfl⟩
  rw [hq] at HS ⊢
  clear hF hq
  by_cases h0 : x < 0
  · have b1 : decide (0 ≤ x) = false := decide_eq_false (by omega)
    have HV : Hid (badDg q x = true) := by show _ = _; unfold badDg; rw [decide_eq_true h0]; rfl
    clear h0
    go_enter Tryd.func38, Tryd.ntmps38
    go_wp2_with fail
    refine Calls.mono (HS.out _) ?_
    rintro e w1 ⟨rfl, hx⟩
    have E1 := Lib.hid (E0.out.trans hx)
    clear hx k0
    go_wp2
    exact bodyPost_ret (v := .bool false) (by simp [results, Tryd.results38, go_sem]) rfl ⟨by rw [HV.out]; rfl, E1.out⟩
  · have b1 : decide (0 ≤ x) = true := decide_eq_true (by omega)
    by_cases h1 : x < q
    · have b2 : decide (x < (q : Int)) = true := decide_eq_true h1
      have HV : Hid (badDg q x = false) := by show _ = _; unfold badDg; rw [decide_eq_false h0, decide_eq_false (by omega)]; rfl
      clear h0 h1
      go_enter Tryd.func38, Tryd.ntmps38
      go_wp2_with fail
      refine Calls.mono (HS.out _) ?_
      rintro e w1 ⟨rfl, hx⟩
      have E1 := Lib.hid (E0.out.trans hx)
      clear hx k0
      go_wp2
      exact bodyPost_ret (v := .bool true) (by simp [results, Tryd.results38, go_sem]) rfl ⟨by rw [HV.out]; rfl, E1.out⟩
    · have b2 : decide (x < (q : Int)) = false := decide_eq_false h1
      have HV : Hid (badDg q x = true) := by show _ = _; unfold badDg; rw [decide_eq_false h0, decide_eq_true (by omega)]; rfl
      clear h0 h1
      go_enter Tryd.func38, Tryd.ntmps38
      go_wp2_with fail
      refine Calls.mono (HS.out _) ?_
      rintro e w1 ⟨rfl, hx⟩
      have E1 := Lib.hid (E0.out.trans hx)
      clear hx k0
      go_wp2
      exact bodyPost_ret (v := .bool false) (by simp [results, Tryd.results38, go_sem]) rfl ⟨by rw [HV.out]; rfl, E1.out⟩

theorem rowFault_hit {q n : Nat} {xs : List Int} {i : Nat} (hl : xs.length = n) (hi : i < n) (h : badDg q (nth xs i) = true) : rowFault q n xs = 1 := by
  unfold rowFault
  rw [if_neg (fun h => h hl), if_pos (List.any_eq_true.2 ⟨_, nth_mem xs i (by omega), h⟩)]
theorem rowFault_fine {q n : Nat} {xs : List Int} (hl : xs.length = n) (h : ∀ i, i < n → badDg q (nth xs i) = false) : rowFault q n xs = 0 := by
  unfold rowFault
  rw [if_neg (fun h => h hl), if_neg]
  intro ha
  obtain ⟨x, hx, hb⟩ := List.any_eq_true.1 ha
  obtain ⟨i, hi, rfl⟩ := mem_nth xs x hx
  rw [h i (by omega)] at hb
  exact absurd hb (by simp)

set_option maxHeartbeats 4000000 in
theorem refRowFault_any (p k n : Nat) (ao vo : Option Addr) (len cap vlen vcap : Nat) (low xs : List Int) (w : World) (hF : IsField p k low) (hn6 : n ≤ 6) (hl : xs.length = vlen) (hbig : vlen ≤ maxLen) (hr : Reads w vo (ints xs)) :
    Calls Tryd.prog 19 #[.agg #[.int .i64 p, .int .i64 k, .slice ao len cap], .int .i64 n, .slice vo vlen vcap] w fun e w' => e = .returned (.int .i64 (rowFault (p ^ k) n xs)) ∧ Ext w w' := by
  have E0 := Lib.hid (ext_box w #[.int .i64 p, .int .i64 k, .slice ao len cap] 29)
  have F0 := Lib.hid (Blk.new w #[.int .i64 p, .int .i64 k, .slice ao len cap] 29)
  have k0 := F0.out.three
  unfold maxLen at hbig
  have HI : Hid (∀ x w, _) := fun x w => in_any p k ao len cap low x w hF
  obtain ⟨q, hq⟩ : ∃ q, p ^ k = q := ⟨_, rfl⟩
  rw [hq] at HI ⊢
  by_cases hln : vlen = n
  · subst hln
    have b1 : ((vlen : Int) != (vlen : Int)) = false := by simp
    have HR := Lib.hid hr
    have HL := Lib.hid hl
    clear hr hl hF hq
    go_enter Tryd.func19, Tryd.ntmps19
    go_wp2
    obtain ⟨w0, hw0⟩ : ∃ w0, w0 = w.alloc (.cells #[.int .i64 p, .int .i64 k, .slice ao len cap] 29) := ⟨_, rfl⟩
    rw [← hw0] at E0 F0 ⊢
    clear hw0 k0
    go_loopg [7] vlen (fun r x wr => ∃ i : Nat, i + r = vlen ∧ x = .int .i64 i ∧ (∀ t, t < i → badDg q (nth xs t) = false) ∧ Ext w0 wr)
    case atStart => exact ⟨0, by omega, rfl, fun t ht => by omega, Ext.refl _⟩
    case round =>
      obtain ⟨i, hir, rfl, hall, hx⟩ := hrel
      have HA := Lib.hid hall
      have HX := Lib.hid hx
      clear hall hx
      cases gk with
      | zero =>
        obtain rfl : i = vlen := by omega
        have HV : Hid (rowFault q i xs = 0) := rowFault_fine HL.out HA.out
        go_wp2
        exact bodyPost_ret (v := .int .i64 0) (by simp [results, Tryd.results19, go_sem]) rfl ⟨by rw [HV.out], E0.out.trans HX.out⟩
      | succ r1 =>
        have hin : (i : Int) < (vlen : Int) := by omega
        obtain ⟨b, off, rfl, hb, hc⟩ := HR.out.int (by rw [HL.out]; omega)
        have t1 := ((E0.out.trans HX.out).cell hb).trans (hc i (by rw [HL.out]; omega))
        have t0 := (F0.out.ext HX.out).three
        have HHIT : Hid (badDg q (nth xs i) = true → rowFault q vlen xs = 1) := fun h => rowFault_hit HL.out (by omega) h
        have HNX : Hid (badDg q (nth xs i) = false → ∀ t, t < i + 1 → badDg q (nth xs t) = false) := fun h t ht => by
          rcases Nat.lt_succ_iff_lt_or_eq.1 ht with h' | rfl
          · exact HA.out t h'
          · exact h
        obtain ⟨x, hx⟩ : ∃ x, nth xs i = x := ⟨_, rfl⟩
        rw [hx] at t1 HHIT HNX
        have HIN := HI.out x wr.drew
        obtain ⟨bd, hbd⟩ : ∃ bd, badDg q x = bd := ⟨_, rfl⟩
        rw [hbd] at HIN HHIT HNX
        have HIN := Lib.hid HIN
        clear hc hx hbd
        have HEN : ∀ (args : Array Value) (w : World), (callFunc 38 args).run Tryd.prog w = .ok (.enter 38 args) w := fun _ _ => rfl
        have HEN := Lib.hid HEN
        go_upto_region 6 with fail
        go_region_law (first | (refine step_callS (f := 38) (xs := #[.tmp 18, .tmp 22]) (ats := #[29, 3]) (args := #[.agg #[.int .i64 p, .int .i64 k, .slice ao len cap], .int .i64 x]) (R := fun w' => Ext wr.drew w') (.bool (!bd)) ?_ ?_ HEN.out ?_ HIN.out ?_; (next => rfl); (next => rfl); (next => simp [Act.eval]; done); intro w5 hx5; have HX5 := Lib.hid (HX.out.trans ((Ext.refl wr).drew.trans hx5)); clear hx5))
        all_goals
          cases bd with
          | true =>
            have HV := Lib.hid (HHIT.out rfl)
            go_wp2
            exact bodyPost_ret (v := .int .i64 1) (by simp [results, Tryd.results19, go_sem]) rfl ⟨by rw [HV.out], E0.out.trans HX5.out⟩
          | false =>
            have HV := Lib.hid (HNX.out rfl)
            go_wp2
            go_roundg r1
            case measure => omega
            case rel => exact ⟨i + 1, by omega, by go_num, HV.out, HX5.out⟩
  · have b1 : ((vlen : Int) != (n : Int)) = true := by rw [bne_iff_ne]; omega
    have HV : Hid (rowFault q n xs = 2) := by show _ = _; unfold rowFault; rw [if_pos (by rw [hl]; exact hln)]
    clear hln hr hl hF hq
    go_enter Tryd.func19, Tryd.ntmps19
    go_wp2
    exact bodyPost_ret (v := .int .i64 2) (by simp [results, Tryd.results19, go_sem]) rfl ⟨by rw [HV.out], E0.out⟩

set_option maxHeartbeats 4000000 in
theorem refRowsFault_any (p k n : Nat) (ao vo : Option Addr) (len cap m mcap : Nat) (low : List Int) (xss : List (List Int)) (w : World) (hF : IsField p k low) (hn6 : n ≤ 6) (hl : xss.length = m) (hbig : m ≤ maxLen) (hr : ReadsL w vo xss) :
    Calls Tryd.prog 11 #[.agg #[.int .i64 p, .int .i64 k, .slice ao len cap], .int .i64 n, .slice vo m mcap] w fun e w' => e = .returned (.int .i64 (rowsFault (p ^ k) n xss)) ∧ Ext w w' := by
  have E0 := Lib.hid (ext_box w #[.int .i64 p, .int .i64 k, .slice ao len cap] 29)
  have F0 := Lib.hid (Blk.new w #[.int .i64 p, .int .i64 k, .slice ao len cap] 29)
  have k0 := F0.out.three
  unfold maxLen at hbig
  have HRF : Hid (∀ vo vlen vcap xs w, xs.length = vlen → vlen ≤ maxLen → Reads w vo (ints xs) → _) := fun vo vlen vcap xs w h1 h2 h3 => refRowFault_any p k n ao vo len cap vlen vcap low xs w hF hn6 h1 h2 h3
  obtain ⟨q, hq⟩ : ∃ q, p ^ k = q := ⟨_, rfl⟩
  rw [hq] at HRF ⊢
  by_cases h12 : 12 < m
  · have b1 : decide (12 < (m : Int)) = true := decide_eq_true (by omega)
    have HV : Hid (rowsFault q n xss = 3) := by show _ = _; unfold rowsFault; rw [if_pos (by rw [hl]; exact h12)]
    clear h12 hr hl hF hq
    go_enter Tryd.func11, Tryd.ntmps11
    go_wp2
    exact bodyPost_ret (v := .int .i64 3) (by simp [results, Tryd.results11, go_sem]) rfl ⟨by rw [HV.out], E0.out⟩
  · have b1 : decide (12 < (m : Int)) = false := decide_eq_false (by omega)
    have HU : Hid (rowsFault q n xss = rowsFault1 q n xss) := by show _ = _; unfold rowsFault; rw [if_neg (by rw [hl]; exact h12)]
    have HR := Lib.hid hr
    have HL := Lib.hid hl
    have hm12 : m ≤ 12 := by omega
    clear hr hl hF hq h12
    go_enter Tryd.func11, Tryd.ntmps11
    go_wp2
    obtain ⟨w0, hw0⟩ : ∃ w0, w0 = w.alloc (.cells #[.int .i64 p, .int .i64 k, .slice ao len cap] 29) := ⟨_, rfl⟩
    rw [← hw0] at E0 F0 ⊢
    clear hw0 k0
    go_loopg [7] m (fun r x wr => ∃ i : Nat, i + r = m ∧ x = .int .i64 i ∧ (∀ t, t < i → rowFault q n (row xss t) = 0) ∧ Ext w0 wr)
    case atStart => exact ⟨0, by omega, rfl, fun t ht => by omega, Ext.refl _⟩
    case round =>
      obtain ⟨i, hir, rfl, hall, hx⟩ := hrel
      have HA := Lib.hid hall
      have HX := Lib.hid hx
      clear hall hx
      cases gk with
      | zero =>
        obtain rfl : i = m := by omega
        have HV : Hid (rowsFault q n xss = 0) := by show _ = _; rw [HU.out]; exact rowsFault1_all xss (by rw [HL.out]; exact HA.out)
        go_wp2
        exact bodyPost_ret (v := .int .i64 0) (by simp [results, Tryd.results11, go_sem]) rfl ⟨by rw [HV.out], E0.out.trans HX.out⟩
      | succ r1 =>
        have hin : (i : Int) < (m : Int) := by omega
        obtain ⟨b, off, rfl, hb, hc⟩ := HR.out.row (by rw [HL.out]; omega)
        obtain ⟨a, c, h1, h2, h3⟩ := hc i (by rw [HL.out]; omega)
        have t1 := ((E0.out.trans HX.out).cell hb).trans h1
        have t0 := (F0.out.ext HX.out).three
        have HRW := HRF.out a (row xss i).length c (row xss i) wr.drew rfl h3 ((E0.out.trans HX.out).drew.reads h2)
        have HHIT : Hid (∀ v, rowFault q n (row xss i) = v → v ≠ 0 → rowsFault q n xss = v) := fun v hv h0 => by
          rw [HU.out, rowsFault1_hit xss i (by rw [HL.out]; omega) HA.out (by rw [hv]; exact h0), hv]
        have HNX : Hid (rowFault q n (row xss i) = 0 → ∀ t, t < i + 1 → rowFault q n (row xss t) = 0) := fun h t ht => by
          rcases Nat.lt_succ_iff_lt_or_eq.1 ht with h' | rfl
          · exact HA.out t h'
          · exact h
        obtain ⟨v, hv⟩ : ∃ v, rowFault q n (row xss i) = v := ⟨_, rfl⟩
        obtain ⟨rl, hrl⟩ : ∃ rl, (row xss i).length = rl := ⟨_, rfl⟩
        rw [hrl] at t1
        rw [hv, hrl] at HRW
        have HRW := Lib.hid HRW
        have HV := Lib.hid hv
        clear hc h1 h2 h3 hv hrl
        have HEN : ∀ (args : Array Value) (w : World), (callFunc 19 args).run Tryd.prog w = .ok (.enter 19 args) w := fun _ _ => rfl
        have HEN := Lib.hid HEN
        go_upto_region 6 with fail
        go_region_law (first | (refine step_callS (f := 19) (xs := #[.tmp 18, .tmp 19, .tmp 23]) (ats := #[29, 3, 27]) (args := #[.agg #[.int .i64 p, .int .i64 k, .slice ao len cap], .int .i64 n, .slice a rl c]) (R := fun w' => Ext wr.drew w') (.int .i64 v) ?_ ?_ HEN.out ?_ HRW.out ?_; (next => rfl); (next => rfl); (next => simp [Act.eval]; done); intro w5 hx5; have HX5 := Lib.hid (HX.out.trans ((Ext.refl wr).drew.trans hx5)); clear hx5))
        all_goals
          by_cases h0 : v = 0
          · have b2 : (v != 0) = false := by rw [h0]; rfl
            have HF := Lib.hid (HNX.out (HV.out.trans h0))
            clear h0
            go_wp2
            go_roundg r1
            case measure => omega
            case rel => exact ⟨i + 1, by omega, by go_num, HF.out, HX5.out⟩
          · have b2 : (v != 0) = true := by rw [bne_iff_ne]; exact h0
            have HF := Lib.hid (HHIT.out v HV.out h0)
            clear h0
            go_wp2
            exact bodyPost_ret (v := .int .i64 v) (by simp [results, Tryd.results11, go_sem]) rfl ⟨by rw [HF.out], E0.out.trans HX5.out⟩

end Go.Proofs.YthkafhmciapipaaDoor

/- What space.with answers. Condition: the variable of primes holds them. -/
namespace Go.Proofs.YthkafhmciapipaaDoor
open Go.RowKit

/-- Lists of rows, side by side: each slice reads. -/
def ReadsAll (w : World) (b off : Nat) (ts : List (Option Addr × Nat × List (List Int))) : Prop :=
  b < w.heap.size ∧ ∀ j t, ts[j]? = some t → w.cell? ⟨b, off + j, none⟩ = some (.slice t.1 t.2.2.length t.2.1) ∧ ReadsL w t.1 t.2.2 ∧ t.2.2.length ≤ maxLen
theorem ReadsAll.ext {w w' : World} {b off : Nat} {ts : List (Option Addr × Nat × List (List Int))} (h : ReadsAll w b off ts) (hx : Ext w w') : ReadsAll w' b off ts :=
  ⟨Nat.lt_of_lt_of_le h.1 hx.size, fun j t ht => by obtain ⟨h1, h2, h3⟩ := h.2 j t ht; exact ⟨(hx.cell h.1).trans h1, h2.ext hx, h3⟩⟩
/-- The fault of all. -/
def allFault (q n : Nat) : List (Option Addr × Nat × List (List Int)) → Int
  | [] => 0
  | t :: r => if rowsFault q n t.2.2 ≠ 0 then rowsFault q n t.2.2 else allFault q n r
theorem allFault_hit {q n : Nat} : ∀ (ts : List (Option Addr × Nat × List (List Int))) (j : Nat) (t : Option Addr × Nat × List (List Int)), ts[j]? = some t → (∀ i u, i < j → ts[i]? = some u → rowsFault q n u.2.2 = 0) → rowsFault q n t.2.2 ≠ 0 → allFault q n ts = rowsFault q n t.2.2
  | x :: r, 0, t, ht, _, h => by
    obtain rfl : x = t := by simpa using ht
    rw [allFault, if_pos h]
  | x :: r, j + 1, t, ht, ha, h => by
    have h0 := ha 0 x (by omega) rfl
    rw [allFault, if_neg (fun h' => h' h0)]
    exact allFault_hit r j t (by simpa using ht) (fun i u hi hu => ha (i + 1) u (by omega) (by simpa using hu)) h
theorem allFault_zero {q n : Nat} : ∀ (ts : List (Option Addr × Nat × List (List Int))), (∀ t ∈ ts, rowsFault q n t.2.2 = 0) → allFault q n ts = 0
  | [], _ => rfl
  | x :: r, ha => by
    rw [allFault, if_neg (fun h' => h' (ha x List.mem_cons_self))]
    exact allFault_zero r fun t ht => ha t (List.mem_cons_of_mem _ ht)
theorem allFault_each {q n : Nat} : ∀ {ts : List (Option Addr × Nat × List (List Int))}, allFault q n ts = 0 → ∀ t ∈ ts, rowsFault q n t.2.2 = 0
  | x :: r, h, t, ht => by
    rw [allFault] at h
    by_cases h0 : rowsFault q n x.2.2 = 0
    · rw [if_neg (fun h' => h' h0)] at h
      rcases List.mem_cons.1 ht with rfl | ht
      · exact h0
      · exact allFault_each h t ht
    · rw [if_pos h0] at h; exact absurd h h0

/-- The fault of a room and its lists. -/
def withAll (p k : Int) (low : List Int) (n : Int) (ts : List (Option Addr × Nat × List (List Int))) : Int :=
  if roomFault p k low n ≠ 0 then roomFault p k low n else allFault (ordF p k) n.toNat ts

set_option maxHeartbeats 2000000 in
theorem withs_any (p k : Int) (ao : Option Addr) (len cap : Nat) (low : List Int) (n : Int) (b off m mc : Nat) (ts : List (Option Addr × Nat × List (List Int))) (w : World) (hP : Primes w) (hl : low.length = len) (hr : Reads w ao (ints low)) (hm : ts.length = m) (hm4 : m ≤ 4) (ht : ReadsAll w b off ts) :
    Calls Tryd.prog 27 #[.agg #[.int .i64 p, .int .i64 k, .slice ao len cap], .int .i64 n, .slice (some ⟨b, off, none⟩) m mc] w fun e w' => ∃ v, e = .returned (.tuple #[.pointer v, .int .i64 (withAll p k low n ts)]) ∧ RoomPtr w w' p k low n (withAll p k low n ts) v ∧ Ext w w' := by
  have HX0 : Hid (Ext w (w.alloc (.cells #[.int .i64 p, .int .i64 k, .slice ao len cap] 29))) := (Ext.refl w).alloc _
  have HO := Lib.hid (open_any' p k ao len cap low n _ (hP.ext HX0.out) hl (HX0.out.reads hr))
  have HT := Lib.hid ht
  have HM := Lib.hid hm
  by_cases h0 : roomFault p k low n = 0
  · obtain ⟨P, K, N, rfl, rfl, rfl, hR⟩ := roomFault_zero h0
    have HW : Hid (withAll P K low N ts = allFault (P ^ K) N ts) := by show _ = _; unfold withAll; rw [if_neg (fun h => h h0), hR.fld.fault.2]; rfl
    rw [HW.out]
    rw [h0] at HO
    clear hP hl hr ht hm HW
    have HH0 := Lib.hid h0
    clear h0
    go_enter Tryd.func27, Tryd.ntmps27
    go_wp2_with fail
    refine Calls.mono HO.out ?_
    rintro e w1 ⟨v, rfl, hv, hx⟩
    obtain ⟨P', K', N', bb, e1, e2, e3, hR', rfl, hat, hbw⟩ := hv.2 rfl
    obtain rfl : P = P' := by omega
    obtain rfl : K = K' := by omega
    obtain rfl : N = N' := by omega
    have HX1 := Lib.hid (HX0.out.trans hx)
    have HA := Lib.hid hat
    have HBW : Hid (w.heap.size ≤ bb) := by show _ ≤ _; simp at hbw; omega
    have HRR := Lib.hid hR
    clear hv hx hat hbw hR' e1 e2 e3 hR
    obtain ⟨q, hq⟩ : ∃ q, P ^ K = q := ⟨_, rfl⟩
    have HQ := Lib.hid hq
    clear hq
    go_wp2
    go_loopw [24] (fun x wr => ∃ j : Nat, j ≤ m ∧ x = .int .i64 j ∧ Ext w1 wr ∧ ∀ i u, i < j → ts[i]? = some u → rowsFault q N u.2.2 = 0) (fun x _ => m - (intOf x).toNat)
    case atStart => exact ⟨0, by omega, rfl, Ext.refl _, fun i u hi => by omega⟩
    case round =>
      obtain ⟨j, hj, rfl, hx, ha⟩ := hrel
      have HX := Lib.hid hx
      have HAL := Lib.hid ha
      clear hx ha
      by_cases hlt : j < m
      · obtain ⟨t, htj⟩ : ∃ t, ts[j]? = some t := ⟨_, List.getElem?_eq_getElem (by rw [HM.out]; exact hlt)⟩
        obtain ⟨k1, k2, k3⟩ := ((HT.out.ext HX1.out).ext HX.out).2 j t htj
        have HJ := check_any P K N bb low t.1 t.2.2.length t.2.1 t.2.2 wr (HA.out.ext HX.out) rfl k3 k2
        rw [HQ.out] at HJ
        have HJ := Lib.hid HJ
        have HTJ := Lib.hid htj
        have HZ : Hid (∀ v, rowsFault q N t.2.2 = v → v ≠ 0 → allFault q N ts = v) := fun v hv h0 => by
          rw [allFault_hit ts j t HTJ.out HAL.out (by rw [hv]; exact h0), hv]
        obtain ⟨v, hv⟩ : ∃ v, rowsFault q N t.2.2 = v := ⟨_, rfl⟩
        have HV := Lib.hid hv
        rw [hv] at HJ
        obtain ⟨t1, t2, t3⟩ := t
        obtain ⟨tl, htl⟩ : ∃ l, t3.length = l := ⟨_, rfl⟩
        simp only [htl] at k1 HJ
        clear hv htj k2 k3 htl
        by_cases h0 : v = 0
        · have b2 : (v != 0) = false := by rw [h0]; rfl
          have H0 := Lib.hid h0
          clear h0
          go_wp2_with fail
          refine Calls.mono HJ.out ?_
          rintro e w2 ⟨rfl, hx2⟩
          have HX2 := Lib.hid (HX.out.trans hx2)
          clear hx2
          go_wp2
          go_roundw
          case rel => exact ⟨j + 1, by omega, by go_num, HX2.out, fun i u hi hu => by
            rcases Nat.lt_succ_iff_lt_or_eq.1 hi with h | rfl
            · exact HAL.out i u h hu
            · obtain rfl := Option.some.inj (HTJ.out.symm.trans hu)
              rw [HV.out]; exact H0.out⟩
          case measure => simp [intOf]; omega
        · have b2 : (v != 0) = true := by rw [bne_iff_ne]; exact h0
          have HE := Lib.hid (HZ.out v HV.out h0)
          have H0 := Lib.hid h0
          clear h0
          go_wp2_with fail
          refine Calls.mono HJ.out ?_
          rintro e w2 ⟨rfl, hx2⟩
          have HX2 := Lib.hid (HX1.out.trans (HX.out.trans hx2))
          clear hx2
          go_wp2
          refine bodyPost_ret (v := .tuple #[.pointer none, .int .i64 v]) (by simp [results, Tryd.results27, go_sem]) rfl ?_
          rw [HQ.out, HE.out]
          exact ⟨none, rfl, ⟨fun _ => rfl, fun h => absurd h H0.out⟩, HX2.out⟩
      · obtain rfl : m = j := by omega
        have HE : Hid (allFault q N ts = 0) := allFault_zero ts fun t ht => by
          obtain ⟨i, hi, e⟩ := List.mem_iff_getElem.1 ht
          exact HAL.out i t (by rw [HM.out] at hi; exact hi) (by rw [List.getElem?_eq_getElem hi, e])
        go_wp2
        refine bodyPost_ret (v := .tuple #[.pointer (some ⟨bb, 0, none⟩), .int .i64 0]) (by simp [results, Tryd.results27, go_sem]) rfl ?_
        rw [HQ.out, HE.out]
        exact ⟨_, rfl, ⟨fun h => absurd rfl h, fun _ => ⟨P, K, N, bb, rfl, rfl, rfl, HRR.out, rfl, HA.out.ext HX.out, HBW.out⟩⟩, HX1.out.trans HX.out⟩
  · have HW : Hid (withAll p k low n ts = roomFault p k low n) := by show _ = _; unfold withAll; rw [if_pos h0]
    rw [HW.out]
    obtain ⟨c, hc⟩ : ∃ c, roomFault p k low n = c := ⟨_, rfl⟩
    rw [hc] at HO h0 ⊢
    have b1 : (c != 0) = true := by rw [bne_iff_ne]; exact h0
    have H0 := Lib.hid h0
    clear hP hl hr ht hm HW hc h0
    go_enter Tryd.func27, Tryd.ntmps27
    go_wp2_with fail
    refine Calls.mono HO.out ?_
    rintro e w1 ⟨v, rfl, hv, hx⟩
    have HX1 := Lib.hid (HX0.out.trans hx)
    clear hv hx
    go_wp2
    go_ret2
    exact ⟨none, rfl, ⟨fun _ => rfl, fun h => absurd h H0.out⟩, HX1.out⟩

end Go.Proofs.YthkafhmciapipaaDoor

/- What space.Basis and space.Normal answer. Conditions: primes; what is read. -/
namespace Go.Proofs.YthkafhmciapipaaDoor
open Go.RowKit
set_option linter.unusedSectionVars false

/-- One list of rows, boxed ahead of the call of with. -/
theorem readsAll_one {w : World} {ao : Option Addr} {mc : Nat} {xss : List (List Int)} {b : Nat} (hb : b = w.heap.size) (hx : ReadsL w ao xss) (hbig : xss.length ≤ maxLen) : ReadsAll (w.alloc (.cells #[.slice ao xss.length mc] 30)) b 0 [(ao, mc, xss)] := by
  subst hb
  refine ⟨by simp, fun j t ht => ?_⟩
  cases j with
  | zero =>
    obtain rfl : (ao, mc, xss) = t := by simpa using ht
    exact ⟨(Blk.new' _ _ _ (by simp)).one, hx.ext (ext_box _ _ _), hbig⟩
  | succ j => simp at ht
theorem readsAll_two {w : World} {ao bo : Option Addr} {mc nc : Nat} {xss yss : List (List Int)} {b : Nat} (hb : b = w.heap.size) (hx : ReadsL w ao xss) (hy : ReadsL w bo yss) (hbig : xss.length ≤ maxLen) (hbig2 : yss.length ≤ maxLen) : ReadsAll (w.alloc (.cells #[.slice ao xss.length mc, .slice bo yss.length nc] 30)) b 0 [(ao, mc, xss), (bo, nc, yss)] := by
  subst hb
  have hB := (Blk.new' w #[.slice ao xss.length mc, .slice bo yss.length nc] 30 rfl).two
  refine ⟨by simp, fun j t ht => ?_⟩
  match j, ht with
  | 0, ht =>
    obtain rfl : (ao, mc, xss) = t := by simpa using ht
    exact ⟨hB.1, hx.ext (ext_box _ _ _), hbig⟩
  | 1, ht =>
    obtain rfl : (bo, nc, yss) = t := by simpa using ht
    exact ⟨hB.2, hy.ext (ext_box _ _ _), hbig2⟩
  | j + 2, ht => simp at ht

/-- The room is open. -/
theorem withAll_ok {p k n : Nat} {low : List Int} {ts : List (Option Addr × Nat × List (List Int))} (hR : IsRoom p k low n) (ht : ∀ t, t ∈ ts → rowsFault (p ^ k) n t.2.2 = 0) : withAll p k low n ts = 0 := by
  unfold withAll
  rw [if_neg (fun h => h hR.fault), hR.fld.fault.2]
  exact allFault_zero ts ht
theorem withAll_is {p k n : Int} {low : List Int} {ts : List (Option Addr × Nat × List (List Int))} (h : withAll p k low n ts = 0) : ∃ P K N : Nat, p = P ∧ k = K ∧ n = N ∧ IsRoom P K low N ∧ ∀ t, t ∈ ts → rowsFault (P ^ K) N t.2.2 = 0 := by
  unfold withAll at h
  by_cases h2 : roomFault p k low n = 0
  · rw [if_neg (fun h => h h2)] at h
    obtain ⟨P, K, N, rfl, rfl, rfl, hR⟩ := roomFault_zero h2
    rw [hR.fld.fault.2] at h
    exact ⟨P, K, N, rfl, rfl, rfl, hR, allFault_each h⟩
  · rw [if_pos h2] at h; exact absurd h h2

/-- What with answers where all is right. -/
theorem withs_ok (p k n : Nat) (ao : Option Addr) (cap : Nat) (low : List Int) (b off m mc : Nat) (ts : List (Option Addr × Nat × List (List Int))) (w : World) (hP : Primes w) (hR : IsRoom p k low n) (hr : Reads w ao (ints low)) (hm : ts.length = m) (hm4 : m ≤ 4) (ht : ReadsAll w b off ts) (hq : ∀ t, t ∈ ts → rowsFault (p ^ k) n t.2.2 = 0) :
    Calls Tryd.prog 27 #[.agg #[.int .i64 p, .int .i64 k, .slice ao k cap], .int .i64 n, .slice (some ⟨b, off, none⟩) m mc] w fun e w' => ∃ r, e = .returned (.tuple #[.pointer (some ⟨r, 0, none⟩), .int .i64 0]) ∧ RoomAt w' r p k low n ∧ Ext w w' := by
  refine (withs_any p k ao k cap low n b off m mc ts w hP hR.fld.len hr hm hm4 ht).mono ?_
  rintro e w' ⟨v, rfl, hp, hx⟩
  rw [withAll_ok hR hq] at hp ⊢
  obtain ⟨P, K, N, r, e1, e2, e3, _, rfl, h3, _⟩ := hp.2 rfl
  obtain rfl : p = P := by omega
  obtain rfl : k = K := by omega
  obtain rfl : n = N := by omega
  exact ⟨r, rfl, h3, hx⟩
/-- What with answers where something is wrong. -/
theorem withs_no (p k : Int) (ao : Option Addr) (len cap : Nat) (low : List Int) (n : Int) (b off m mc : Nat) (ts : List (Option Addr × Nat × List (List Int))) (w : World) (hP : Primes w) (hl : low.length = len) (hr : Reads w ao (ints low)) (hm : ts.length = m) (hm4 : m ≤ 4) (ht : ReadsAll w b off ts) (h0 : withAll p k low n ts ≠ 0) :
    Calls Tryd.prog 27 #[.agg #[.int .i64 p, .int .i64 k, .slice ao len cap], .int .i64 n, .slice (some ⟨b, off, none⟩) m mc] w fun e w' => e = .returned (.tuple #[.pointer none, .int .i64 (withAll p k low n ts)]) ∧ Ext w w' := by
  refine (withs_any p k ao len cap low n b off m mc ts w hP hl hr hm hm4 ht).mono ?_
  rintro e w' ⟨v, rfl, hp, hx⟩
  obtain rfl := hp.1 h0
  exact ⟨rfl, hx⟩

section
variable {p k : Nat} {low : List Int} [hI : FldP p k low]

/-- The two walks of a room, over the field. -/
theorem basis_el (n b : Nat) (ao : Option Addr) (len cap : Nat) (V : List (Nat → El p k low)) (w : World) (hb : RoomAt w b p k low n) (hn1 : 1 ≤ n) (hn6 : n ≤ 6) (hz : Zero n V) (hlen : V.length = len) (hbig : len ≤ 100) (hr : ReadsL w ao (rowsN n (V.map toN))) :
    Calls Tryd.prog 28 #[.pointer (some ⟨b, 0, none⟩), .slice ao len cap] w fun e w' => ∃ (bo : Option Addr) (bl bcap : Nat) (xss : List (List Int)), e = .returned (.slice bo bl bcap) ∧ xss.length = bl ∧ ReadsL w' bo xss ∧ BasisI n xss (Span V) ∧ Ext w w' := by
  refine (basis_any p k n b low ao len cap (V.map toN) w hI.out hb hn1 hn6 (by rw [List.length_map, hlen]) hbig (allLt_toN n V) hr).mono ?_
  rintro e w' ⟨bo, bcap, rfl, h1, h2⟩
  exact ⟨bo, _, bcap, _, rfl, rowsN_length _ _, h1, basN_basis hz, h2⟩
theorem normal_el (n b : Nat) (ao : Option Addr) (len cap : Nat) (V : List (Nat → El p k low)) (w : World) (hb : RoomAt w b p k low n) (hn1 : 1 ≤ n) (hn6 : n ≤ 6) (hz : Zero n V) (hlen : V.length = len) (hbig : len ≤ 100) (hr : ReadsL w ao (rowsN n (V.map toN))) :
    Calls Tryd.prog 29 #[.pointer (some ⟨b, 0, none⟩), .slice ao len cap] w fun e w' => ∃ (bo : Option Addr) (bl bcap : Nat) (xss : List (List Int)), e = .returned (.slice bo bl bcap) ∧ xss.length = bl ∧ ReadsL w' bo xss ∧ BasisI n xss (Nul n (Span V)) ∧ Ext w w' := by
  have h := leadP_ok hz
  have hle := lead_el h
  rw [← basN_map] at hle
  refine (normal_any p k n b low ao len cap (V.map toN) (leadP n (basN p k low n (V.map toN))) w hI.out hb hn1 hn6 (by rw [List.length_map, hlen]) hbig (allLt_toN n V) hle hr).mono ?_
  rintro e w' ⟨bo, bcap, rfl, h1, h2⟩
  exact ⟨bo, _, bcap, _, rfl, rowsN_length _ _, h1, normN_basis hz, h2⟩
end

/-- The answers: a fault. -/
def SaysNo (f : FuncId) (args : Array Value) (w : World) (c : Int) : Prop := Calls Tryd.prog f args w fun e w' => e = .returned (.tuple #[.slice none 0 0, .int .i64 c]) ∧ Ext w w'
/-- .. a basis. -/
def SaysBasis {p k : Nat} {low : List Int} [FldP p k low] (f : FuncId) (args : Array Value) (w : World) (n : Nat) (S : (Nat → El p k low) → Prop) : Prop := Calls Tryd.prog f args w fun e w' => ∃ (bo : Option Addr) (bl bcap : Nat) (xss : List (List Int)), e = .returned (.tuple #[.slice bo bl bcap, .int .i64 0]) ∧ xss.length = bl ∧ ReadsL w' bo xss ∧ BasisI n xss S ∧ Ext w w'

set_option maxHeartbeats 4000000 in
theorem spBasis_no (p k : Int) (ao bo : Option Addr) (len cap mc : Nat) (low : List Int) (n : Int) (xss : List (List Int)) (w : World) (hP : Primes w) (hl : low.length = len) (hr : Reads w ao (ints low)) (hbig : xss.length ≤ maxLen) (hx : ReadsL w bo xss) (h0 : withAll p k low n [(bo, mc, xss)] ≠ 0) :
    SaysNo 12 #[.agg #[.int .i64 p, .int .i64 k, .slice ao len cap], .int .i64 n, .slice bo xss.length mc] w (withAll p k low n [(bo, mc, xss)]) := by
  have HXA : Hid (Ext w (w.alloc (.cells #[.int .i64 p, .int .i64 k, .slice ao len cap] 29))) := (Ext.refl w).alloc _
  have HXB := Lib.hid (HXA.out.alloc (.cells #[.slice bo xss.length mc] 30))
  have HW := Lib.hid (withs_no p k ao len cap low n (w.heap.size + 1) 0 1 1 [(bo, mc, xss)] _ (hP.ext HXB.out) hl (HXB.out.reads hr) rfl (by omega) (readsAll_one (by simp) (hx.ext HXA.out) hbig) h0)
  obtain ⟨c, hc⟩ : ∃ c, withAll p k low n [(bo, mc, xss)] = c := ⟨_, rfl⟩
  obtain ⟨m, hm⟩ : ∃ m, xss.length = m := ⟨_, rfl⟩
  unfold SaysNo
  rw [hc] at HW h0 ⊢
  rw [hm] at HW HXB ⊢
  have b1 : (c != 0) = true := by rw [bne_iff_ne]; exact h0
  clear hc hm hP hl hr hx hbig h0
  go_enter Tryd.func12, Tryd.ntmps12
  go_wp2_with fail
  refine Calls.mono HW.out ?_
  rintro e w1 ⟨rfl, hx1⟩
  have HX1 := Lib.hid (HXB.out.trans hx1)
  clear hx1
  go_wp2
  exact bodyPost_ret (v := .tuple #[.slice none 0 0, .int .i64 c]) (by simp [results, Tryd.results12, go_sem]) rfl ⟨rfl, HX1.out⟩

set_option maxHeartbeats 4000000 in
theorem spNormal_no (p k : Int) (ao bo : Option Addr) (len cap mc : Nat) (low : List Int) (n : Int) (xss : List (List Int)) (w : World) (hP : Primes w) (hl : low.length = len) (hr : Reads w ao (ints low)) (hbig : xss.length ≤ maxLen) (hx : ReadsL w bo xss) (h0 : withAll p k low n [(bo, mc, xss)] ≠ 0) :
    SaysNo 13 #[.agg #[.int .i64 p, .int .i64 k, .slice ao len cap], .int .i64 n, .slice bo xss.length mc] w (withAll p k low n [(bo, mc, xss)]) := by
  have HXA : Hid (Ext w (w.alloc (.cells #[.int .i64 p, .int .i64 k, .slice ao len cap] 29))) := (Ext.refl w).alloc _
  have HXB := Lib.hid (HXA.out.alloc (.cells #[.slice bo xss.length mc] 30))
  have HW := Lib.hid (withs_no p k ao len cap low n (w.heap.size + 1) 0 1 1 [(bo, mc, xss)] _ (hP.ext HXB.out) hl (HXB.out.reads hr) rfl (by omega) (readsAll_one (by simp) (hx.ext HXA.out) hbig) h0)
  obtain ⟨c, hc⟩ : ∃ c, withAll p k low n [(bo, mc, xss)] = c := ⟨_, rfl⟩
  obtain ⟨m, hm⟩ : ∃ m, xss.length = m := ⟨_, rfl⟩
  unfold SaysNo
  rw [hc] at HW h0 ⊢
  rw [hm] at HW HXB ⊢
  have b1 : (c != 0) = true := by rw [bne_iff_ne]; exact h0
  clear hc hm hP hl hr hx hbig h0
  go_enter Tryd.func13, Tryd.ntmps13
  go_wp2_with fail
  refine Calls.mono HW.out ?_
  rintro e w1 ⟨rfl, hx1⟩
  have HX1 := Lib.hid (HXB.out.trans hx1)
  clear hx1
  go_wp2
  exact bodyPost_ret (v := .tuple #[.slice none 0 0, .int .i64 c]) (by simp [results, Tryd.results13, go_sem]) rfl ⟨rfl, HX1.out⟩

section
variable {p k : Nat} {low : List Int} [hI : FldP p k low]

set_option maxHeartbeats 4000000 in
theorem spBasis_ok (n : Nat) (ao bo : Option Addr) (cap mc : Nat) (xss : List (List Int)) (w : World) (hP : Primes w) (hR : IsRoom p k low n) (hr : Reads w ao (ints low)) (hx : ReadsL w bo xss) (hq : rowsFault (p ^ k) n xss = 0) :
    SaysBasis 12 #[.agg #[.int .i64 p, .int .i64 k, .slice ao k cap], .int .i64 n, .slice bo xss.length mc] w n (Span (vecs (p := p) (k := k) (low := low) xss)) := by
  have hbig := (rowsFault_zero hq).1
  have HXA : Hid (Ext w (w.alloc (.cells #[.int .i64 p, .int .i64 k, .slice ao k cap] 29))) := (Ext.refl w).alloc _
  have HXB := Lib.hid (HXA.out.alloc (.cells #[.slice bo xss.length mc] 30))
  have HW := Lib.hid (withs_ok p k n ao cap low (w.heap.size + 1) 0 1 1 [(bo, mc, xss)] _ (hP.ext HXB.out) hR (HXB.out.reads hr) rfl (by omega) (readsAll_one (by simp) (hx.ext HXA.out) (by unfold maxLen; omega)) (fun t ht => by obtain rfl : t = (bo, mc, xss) := (by simpa using ht); exact hq))
  have HB : Hid (∀ b w', Ext w w' → RoomAt w' b p k low n → _) := fun b w' (h1 : Ext w w') (h2 : RoomAt w' b p k low n) => basis_el n b bo xss.length mc (vecs (p := p) (k := k) (low := low) xss) w' h2 hR.n1 hR.n6 (vecs_zero hq) (vecs_length xss) (by omega) (by rw [vecs_rows hq]; exact hx.ext h1)
  obtain ⟨S, hS⟩ : ∃ S, Span (vecs (p := p) (k := k) (low := low) xss) = S := ⟨_, rfl⟩
  obtain ⟨m, hm⟩ : ∃ m, xss.length = m := ⟨_, rfl⟩
  unfold SaysBasis
  rw [hm] at HW HXB HB ⊢
  rw [hS] at HB ⊢
  clear hP hr hx hbig hq hS hm hR
  go_enter Tryd.func12, Tryd.ntmps12
  go_wp2_with fail
  refine Calls.mono HW.out ?_
  rintro e w1 ⟨r, rfl, hra, hx1⟩
  have HX1 := Lib.hid (HXB.out.trans hx1)
  have HB1 := Lib.hid (HB.out r w1 HX1.out hra)
  clear hx1 hra
  go_wp2_with fail
  refine Calls.mono HB1.out ?_
  rintro e w2 ⟨ro, rl, rc, out, rfl, h1, h2, h3, h4⟩
  have HE := Lib.hid (And.intro h1 (And.intro h2 (And.intro h3 (HX1.out.trans h4))))
  clear h1 h2 h3 h4
  go_wp2
  exact bodyPost_ret (v := .tuple #[.slice ro rl rc, .int .i64 0]) (by simp [results, Tryd.results12, go_sem]) rfl ⟨ro, rl, rc, out, rfl, HE.out⟩

set_option maxHeartbeats 4000000 in
theorem spNormal_ok (n : Nat) (ao bo : Option Addr) (cap mc : Nat) (xss : List (List Int)) (w : World) (hP : Primes w) (hR : IsRoom p k low n) (hr : Reads w ao (ints low)) (hx : ReadsL w bo xss) (hq : rowsFault (p ^ k) n xss = 0) :
    SaysBasis 13 #[.agg #[.int .i64 p, .int .i64 k, .slice ao k cap], .int .i64 n, .slice bo xss.length mc] w n (Nul n (Span (vecs (p := p) (k := k) (low := low) xss))) := by
  have hbig := (rowsFault_zero hq).1
  have HXA : Hid (Ext w (w.alloc (.cells #[.int .i64 p, .int .i64 k, .slice ao k cap] 29))) := (Ext.refl w).alloc _
  have HXB := Lib.hid (HXA.out.alloc (.cells #[.slice bo xss.length mc] 30))
  have HW := Lib.hid (withs_ok p k n ao cap low (w.heap.size + 1) 0 1 1 [(bo, mc, xss)] _ (hP.ext HXB.out) hR (HXB.out.reads hr) rfl (by omega) (readsAll_one (by simp) (hx.ext HXA.out) (by unfold maxLen; omega)) (fun t ht => by obtain rfl : t = (bo, mc, xss) := (by simpa using ht); exact hq))
  have HB : Hid (∀ b w', Ext w w' → RoomAt w' b p k low n → _) := fun b w' (h1 : Ext w w') (h2 : RoomAt w' b p k low n) => normal_el n b bo xss.length mc (vecs (p := p) (k := k) (low := low) xss) w' h2 hR.n1 hR.n6 (vecs_zero hq) (vecs_length xss) (by omega) (by rw [vecs_rows hq]; exact hx.ext h1)
  obtain ⟨S, hS⟩ : ∃ S, Nul n (Span (vecs (p := p) (k := k) (low := low) xss)) = S := ⟨_, rfl⟩
  obtain ⟨m, hm⟩ : ∃ m, xss.length = m := ⟨_, rfl⟩
  unfold SaysBasis
  rw [hm] at HW HXB HB ⊢
  rw [hS] at HB ⊢
  clear hP hr hx hbig hq hS hm hR
  go_enter Tryd.func13, Tryd.ntmps13
  go_wp2_with fail
  refine Calls.mono HW.out ?_
  rintro e w1 ⟨r, rfl, hra, hx1⟩
  have HX1 := Lib.hid (HXB.out.trans hx1)
  have HB1 := Lib.hid (HB.out r w1 HX1.out hra)
  clear hx1 hra
  go_wp2_with fail
  refine Calls.mono HB1.out ?_
  rintro e w2 ⟨ro, rl, rc, out, rfl, h1, h2, h3, h4⟩
  have HE := Lib.hid (And.intro h1 (And.intro h2 (And.intro h3 (HX1.out.trans h4))))
  clear h1 h2 h3 h4
  go_wp2
  exact bodyPost_ret (v := .tuple #[.slice ro rl rc, .int .i64 0]) (by simp [results, Tryd.results13, go_sem]) rfl ⟨ro, rl, rc, out, rfl, HE.out⟩
end

end Go.Proofs.YthkafhmciapipaaDoor
