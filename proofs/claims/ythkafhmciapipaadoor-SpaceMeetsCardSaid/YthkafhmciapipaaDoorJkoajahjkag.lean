/- What parterreref3.RoomFault, RowFault and RowsFault answer. No conditions but a field. -/
import Derived.Test.YthkafhmciapipaaDoorJfegecgecad
import Derived.Test.YthkafhmciapipaaDoorJjljhcpfopd
import Derived.Test.YthkafhmciapipaaDoorJhcegahdkac
import Derived.Test.YthkafhmciapipaaDoorJemkcfcceid
import Derived.Test.YthkafhmciapipaaDoorJhbaopmehpf
import Derived.Test.YthkafhmciapipaaDoorJmlkdgekkci
import Derived.Shelf.Spec.SlicesGrow
import Derived.Deep.LoopGhost
namespace Go.Proofs.YthkafhmciapipaaDoor
open Go.RowKit
set_option linter.unusedVariables false

set_option maxHeartbeats 2000000 in
theorem refRoomFault_any (p k : Int) (ao : Option Addr) (len cap : Nat) (low : List Int) (n : Int) (w : World) (hl : low.length = len) (hr : Reads w ao (ints low)) :
    Calls Tryd.prog 10 #[.agg #[.int .i64 p, .int .i64 k, .slice ao len cap], .int .i64 n] w fun e w' => e = .returned (.int .i64 (roomFault p k low n)) ∧ Ext w w' := by
  have E0 := Lib.hid (ext_box w #[.int .i64 p, .int .i64 k, .slice ao len cap] 29)
  have F0 := Lib.hid (Blk.new w #[.int .i64 p, .int .i64 k, .slice ao len cap] 29)
  have k0 := F0.out.three
  have HF := Lib.hid (refFault_any p k ao len cap low _ hl (E0.out.reads hr))
  by_cases h0 : fieldFault p k low = 0
  · rw [h0] at HF
    obtain ⟨P, K, rfl, rfl, hF, ho⟩ := fieldFault_zero h0
    by_cases h1 : n < 1
    · have HV : Hid (roomFault P K low n = 1) := by show _ = _; unfold roomFault; rw [if_neg (fun h => h h0), if_pos (.inl h1)]
      have b1 : decide (n < 1) = true := decide_eq_true h1
      clear h0 h1 hr hF ho hl
      go_enter Tryd.func10, Tryd.ntmps10
      go_wp2_with fail
      refine Calls.mono HF.out ?_
      rintro e w1 ⟨rfl, hx⟩
      have E1 := Lib.hid (E0.out.trans hx)
      clear hx k0
      go_wp2
      exact bodyPost_ret (v := .int .i64 1) (by simp [results, Tryd.results10, go_sem]) rfl ⟨by rw [HV.out], E1.out⟩
    by_cases h6 : 6 < n
    · have HV : Hid (roomFault P K low n = 1) := by show _ = _; unfold roomFault; rw [if_neg (fun h => h h0), if_pos (.inr h6)]
      have b1 : decide (n < 1) = false := decide_eq_false h1
      have b2 : decide (6 < n) = true := decide_eq_true h6
      clear h0 h1 h6 hr hF ho hl
      go_enter Tryd.func10, Tryd.ntmps10
      go_wp2_with fail
      refine Calls.mono HF.out ?_
      rintro e w1 ⟨rfl, hx⟩
      have E1 := Lib.hid (E0.out.trans hx)
      clear hx k0
      go_wp2
      exact bodyPost_ret (v := .int .i64 1) (by simp [results, Tryd.results10, go_sem]) rfl ⟨by rw [HV.out], E1.out⟩
    obtain ⟨N, rfl⟩ : ∃ N : Nat, n = N := ⟨n.toNat, by omega⟩
    have HS : Hid (∀ w, _) := fun w => size_is P K ao len cap low w hF
    have hq2 : 2 ≤ P ^ K := one_lt_pow' hF.p2 hF.k1
    have h64 := hF.big
    have HV0 : Hid (roomFault P K low N = if 4096 < (P ^ K) ^ N then 3 else 0) := by
      show _ = _; unfold roomFault; rw [if_neg (fun h => h h0), if_neg (by omega), ho, Int.toNat_natCast]
    obtain ⟨q, hq⟩ : ∃ q, P ^ K = q := ⟨_, rfl⟩
    rw [hq] at hq2 h64 HS HV0
    have HPW : Hid (∀ i, i ≤ N → 4096 < q ^ i → 4096 < q ^ N) := fun i hi h => Nat.lt_of_lt_of_le h (Nat.pow_le_pow_right (by omega) hi)
    have HST : Hid (∀ i, q ^ (i + 1) = q ^ i * q) := fun i => Nat.pow_succ _ _
    have b1 : decide ((N : Int) < 1) = false := decide_eq_false h1
    have b2 : decide (6 < (N : Int)) = false := decide_eq_false h6
    have hN1 : 1 ≤ N := by omega
    have hN6 : N ≤ 6 := by omega
    clear h0 h1 h6 hr hF ho hl hq
    go_enter Tryd.func10, Tryd.ntmps10
    go_wp2_with fail
    refine Calls.mono HF.out ?_
    rintro e w1 ⟨rfl, hx⟩
    have E1 := Lib.hid (E0.out.trans hx)
    have k1 := (F0.out.ext hx).three
    clear hx k0
    go_wp2_with fail
    refine Calls.mono (HS.out w1) ?_
    rintro e w2 ⟨rfl, hx⟩
    have E2 := Lib.hid (E1.out.trans hx)
    clear hx k1 b1 b2
    go_wp2
    go_loopg [7, 8] N (fun r y x wr => ∃ i u : Nat, i + r = N ∧ x = .int .i64 i ∧ y = .int .i64 u ∧ Hid (u = q ^ i) ∧ u ≤ 4096 ∧ w2 = wr)
    case atStart => exact ⟨0, 1, by omega, rfl, rfl, by show _ = _; rw [Nat.pow_zero], by omega, rfl⟩
    case round =>
      obtain ⟨i, u, hir, rfl, rfl, HU, hu, rfl⟩ := hrel
      cases gk with
      | zero =>
        obtain rfl : i = N := by omega
        have HV : Hid (roomFault P K low i = 0) := by show _ = _; rw [HV0.out, ← HU.out, if_neg (by omega)]
        go_wp2
        exact bodyPost_ret (v := .int .i64 0) (by simp [results, Tryd.results10, go_sem]) rfl ⟨by rw [HV.out], E2.out⟩
      | succ r1 =>
        have hin : (i : Int) < (N : Int) := by omega
        obtain ⟨m, hm⟩ : ∃ m, u * q = m := ⟨_, rfl⟩
        have hm' : (u : Int) * (q : Int) = m := by rw [← hm, Int.natCast_mul]
        have hmb : m ≤ 4096 * 64 := by rw [← hm]; exact Nat.mul_le_mul hu h64
        have HM : Hid (m = q ^ (i + 1)) := by show _ = _; rw [← hm, HU.out, HST.out]
        clear hm
        by_cases hb : 4096 < m
        · have b3 : decide (4096 < (m : Int)) = true := decide_eq_true (by omega)
          have HV : Hid (roomFault P K low N = 3) := by
            show _ = _; rw [HV0.out, if_pos (HPW.out (i + 1) (by omega) (by rw [← HM.out]; exact hb))]
          clear hb
          go_wp2
          exact bodyPost_ret (v := .int .i64 3) (by simp [results, Tryd.results10, go_sem]) rfl ⟨by rw [HV.out], E2.out⟩
        · have b3 : decide (4096 < (m : Int)) = false := decide_eq_false (by omega)
          have hb' : m ≤ 4096 := by omega
          clear hb
          go_wp2
          go_roundg r1
          case measure => omega
          case rel => exact ⟨i + 1, m, by omega, by go_num, rfl, HM, hb', rfl⟩
  · have HV : Hid (roomFault p k low n = fieldFault p k low) := by show _ = _; unfold roomFault; rw [if_pos h0]
    obtain ⟨c, hc⟩ : ∃ c, fieldFault p k low = c := ⟨_, rfl⟩
    rw [hc] at HF HV h0
    have b1 : (c != 0) = true := by rw [bne_iff_ne]; exact h0
    clear hc h0 hr hl
    go_enter Tryd.func10, Tryd.ntmps10
    go_wp2_with fail
    refine Calls.mono HF.out ?_
    rintro e w1 ⟨rfl, hx⟩
    have E1 := Lib.hid (E0.out.trans hx)
    clear hx k0
    go_wp2
    exact bodyPost_ret (v := .int .i64 c) (by simp [results, Tryd.results10, go_sem]) rfl ⟨by rw [HV.out], E1.out⟩

set_option maxHeartbeats 400000 in
theorem in_any (p k : Nat) (ao : Option Addr) (len cap : Nat) (low : List Int) (x : Int) (w : World) (hF : IsField p k low) :
    Calls Tryd.prog 38 #[.agg #[.int .i64 p, .int .i64 k, .slice ao len cap], .int .i64 x] w fun e w' => e = .returned (.bool (!badDg (p ^ k : Nat) x)) ∧ Ext w w' := by
  have HS : Hid (∀ w, _) := fun w => size_is p k ao len cap low w hF
  have E0 := Lib.hid (ext_box w #[.int .i64 p, .int .i64 k, .slice ao len cap] 29)
  have k0 := (Blk.new w #[.int .i64 p, .int .i64 k, .slice ao len cap] 29).three
  obtain ⟨q, hq⟩ : ∃ q, p ^ k = q := ⟨_, rfl⟩
  rw [hq] at HS ⊢
  clear hF hq
  by_cases h0 : x < 0
  · have b1 : decide (0 ≤ x) = false := decide_eq_false (by omega)
    have HV : Hid (badDg q x = true) := by show _ = _; unfold badDg; rw [decide_eq_true h0]; rfl
    clear h0
    go_enter Tryd.func38, Tryd.ntmps38
    go_wp2_with fail
    refine Calls.mono (HS.out _) ?_
    rintro e w1 ⟨rfl, hx⟩
    have E1 := Lib.hid (E0.out.trans hx)
    clear hx k0
    go_wp2
    exact bodyPost_ret (v := .bool false) (by simp [results, Tryd.results38, go_sem]) rfl ⟨by rw [HV.out]; rfl, E1.out⟩
  · have b1 : decide (0 ≤ x) = true := decide_eq_true (by omega)
    by_cases h1 : x < q
    · have b2 : decide (x < (q : Int)) = true := decide_eq_true h1
      have HV : Hid (badDg q x = false) := by show _ = _; unfold badDg; rw [decide_eq_false h0, decide_eq_false (by omega)]; rfl
      clear h0 h1
      go_enter Tryd.func38, Tryd.ntmps38
      go_wp2_with fail
      refine Calls.mono (HS.out _) ?_
      rintro e w1 ⟨rfl, hx⟩
      have E1 := Lib.hid (E0.out.trans hx)
      clear hx k0
      go_wp2
      exact bodyPost_ret (v := .bool true) (by simp [results, Tryd.results38, go_sem]) rfl ⟨by rw [HV.out]; rfl, E1.out⟩
    · have b2 : decide (x < (q : Int)) = false := decide_eq_false h1
      have HV : Hid (badDg q x = true) := by show _ = _; unfold badDg; rw [decide_eq_false h0, decide_eq_true (by omega)]; rfl
      clear h0 h1
      go_enter Tryd.func38, Tryd.ntmps38
      go_wp2_with fail
      refine Calls.mono (HS.out _) ?_
      rintro e w1 ⟨rfl, hx⟩
      have E1 := Lib.hid (E0.out.trans hx)
      clear hx k0
      go_wp2
      exact bodyPost_ret (v := .bool false) (by simp [results, Tryd.results38, go_sem]) rfl ⟨by rw [HV.out]; rfl, E1.out⟩

theorem rowFault_hit {q n : Nat} {xs : List Int} {i : Nat} (hl : xs.length = n) (hi : i < n) (h : badDg q (nth xs i) = true) : rowFault q n xs = 1 := by
  unfold rowFault
  rw [if_neg (fun h => h hl), if_pos (List.any_eq_true.2 ⟨_, nth_mem xs i (by omega), h⟩)]
theorem rowFault_fine {q n : Nat} {xs : List Int} (hl : xs.length = n) (h : ∀ i, i < n → badDg q (nth xs i) = false) : rowFault q n xs = 0 := by
  unfold rowFault
  rw [if_neg (fun h => h hl), if_neg]
  intro ha
  obtain ⟨x, hx, hb⟩ := List.any_eq_true.1 ha
  obtain ⟨i, hi, rfl⟩ := mem_nth xs x hx
  rw [h i (by omega)] at hb
  exact absurd hb (by simp)

set_option maxHeartbeats 4000000 in
theorem refRowFault_any (p k n : Nat) (ao vo : Option Addr) (len cap vlen vcap : Nat) (low xs : List Int) (w : World) (hF : IsField p k low) (hn6 : n ≤ 6) (hl : xs.length = vlen) (hbig : vlen ≤ maxLen) (hr : Reads w vo (ints xs)) :
    Calls Tryd.prog 19 #[.agg #[.int .i64 p, .int .i64 k, .slice ao len cap], .int .i64 n, .slice vo vlen vcap] w fun e w' => e = .returned (.int .i64 (rowFault (p ^ k) n xs)) ∧ Ext w w' := by
  have E0 := Lib.hid (ext_box w #[.int .i64 p, .int .i64 k, .slice ao len cap] 29)
  have F0 := Lib.hid (Blk.new w #[.int .i64 p, .int .i64 k, .slice ao len cap] 29)
  have k0 := F0.out.three
  unfold maxLen at hbig
  have HI : Hid (∀ x w, _) := fun x w => in_any p k ao len cap low x w hF
  obtain ⟨q, hq⟩ : ∃ q, p ^ k = q := ⟨_, rfl⟩
  rw [hq] at HI ⊢
  by_cases hln : vlen = n
  · subst hln
    have b1 : ((vlen : Int) != (vlen : Int)) = false := by simp
    have HR := Lib.hid hr
    have HL := Lib.hid hl
    clear hr hl hF hq
    go_enter Tryd.func19, Tryd.ntmps19
    go_wp2
    obtain ⟨w0, hw0⟩ : ∃ w0, w0 = w.alloc (.cells #[.int .i64 p, .int .i64 k, .slice ao len cap] 29) := ⟨_, rfl⟩
    rw [← hw0] at E0 F0 ⊢
    clear hw0 k0
    go_loopg [7] vlen (fun r x wr => ∃ i : Nat, i + r = vlen ∧ x = .int .i64 i ∧ (∀ t, t < i → badDg q (nth xs t) = false) ∧ Ext w0 wr)
    case atStart => exact ⟨0, by omega, rfl, fun t ht => by omega, Ext.refl _⟩
    case round =>
      obtain ⟨i, hir, rfl, hall, hx⟩ := hrel
      have HA := Lib.hid hall
      have HX := Lib.hid hx
      clear hall hx
      cases gk with
      | zero =>
        obtain rfl : i = vlen := by omega
        have HV : Hid (rowFault q i xs = 0) := rowFault_fine HL.out HA.out
        go_wp2
        exact bodyPost_ret (v := .int .i64 0) (by simp [results, Tryd.results19, go_sem]) rfl ⟨by rw [HV.out], E0.out.trans HX.out⟩
      | succ r1 =>
        have hin : (i : Int) < (vlen : Int) := by omega
        obtain ⟨b, off, rfl, hb, hc⟩ := HR.out.int (by rw [HL.out]; omega)
        have t1 := ((E0.out.trans HX.out).cell hb).trans (hc i (by rw [HL.out]; omega))
        have t0 := (F0.out.ext HX.out).three
        have HHIT : Hid (badDg q (nth xs i) = true → rowFault q vlen xs = 1) := fun h => rowFault_hit HL.out (by omega) h
        have HNX : Hid (badDg q (nth xs i) = false → ∀ t, t < i + 1 → badDg q (nth xs t) = false) := fun h t ht => by
          rcases Nat.lt_succ_iff_lt_or_eq.1 ht with h' | rfl
          · exact HA.out t h'
          · exact h
        obtain ⟨x, hx⟩ : ∃ x, nth xs i = x := ⟨_, rfl⟩
        rw [hx] at t1 HHIT HNX
        have HIN := HI.out x wr.drew
        obtain ⟨bd, hbd⟩ : ∃ bd, badDg q x = bd := ⟨_, rfl⟩
        rw [hbd] at HIN HHIT HNX
        have HIN := Lib.hid HIN
        clear hc hx hbd
        have HEN : ∀ (args : Array Value) (w : World), (callFunc 38 args).run Tryd.prog w = .ok (.enter 38 args) w := fun _ _ => rfl
        have HEN := Lib.hid HEN
        go_upto_region 6 with fail
        go_region_law (first | (refine step_callS (f := 38) (xs := #[.tmp 18, .tmp 22]) (ats := #[29, 3]) (args := #[.agg #[.int .i64 p, .int .i64 k, .slice ao len cap], .int .i64 x]) (R := fun w' => Ext wr.drew w') (.bool (!bd)) ?_ ?_ HEN.out ?_ HIN.out ?_; (next => rfl); (next => rfl); (next => simp [Act.eval]; done); intro w5 hx5; have HX5 := Lib.hid (HX.out.trans ((Ext.refl wr).drew.trans hx5)); clear hx5))
        all_goals
          cases bd with
          | true =>
            have HV := Lib.hid (HHIT.out rfl)
            go_wp2
            exact bodyPost_ret (v := .int .i64 1) (by simp [results, Tryd.results19, go_sem]) rfl ⟨by rw [HV.out], E0.out.trans HX5.out⟩
          | false =>
            have HV := Lib.hid (HNX.out rfl)
            go_wp2
            go_roundg r1
            case measure => omega
            case rel => exact ⟨i + 1, by omega, by go_num, HV.out, HX5.out⟩
  · have b1 : ((vlen : Int) != (n : Int)) = true := by rw [bne_iff_ne]; omega
    have HV : Hid (rowFault q n xs = 2) := by show _ = _; unfold rowFault; rw [if_pos (by rw [hl]; exact hln)]
    clear hln hr hl hF hq
    go_enter Tryd.func19, Tryd.ntmps19
    go_wp2
    exact bodyPost_ret (v := .int .i64 2) (by simp [results, Tryd.results19, go_sem]) rfl ⟨by rw [HV.out], E0.out⟩

set_option maxHeartbeats 4000000 in
theorem refRowsFault_any (p k n : Nat) (ao vo : Option Addr) (len cap m mcap : Nat) (low : List Int) (xss : List (List Int)) (w : World) (hF : IsField p k low) (hn6 : n ≤ 6) (hl : xss.length = m) (hbig : m ≤ maxLen) (hr : ReadsL w vo xss) :
    Calls Tryd.prog 11 #[.agg #[.int .i64 p, .int .i64 k, .slice ao len cap], .int .i64 n, .slice vo m mcap] w fun e w' => e = .returned (.int .i64 (rowsFault (p ^ k) n xss)) ∧ Ext w w' := by
  have E0 := Lib.hid (ext_box w #[.int .i64 p, .int .i64 k, .slice ao len cap] 29)
  have F0 := Lib.hid (Blk.new w #[.int .i64 p, .int .i64 k, .slice ao len cap] 29)
  have k0 := F0.out.three
  unfold maxLen at hbig
  have HRF : Hid (∀ vo vlen vcap xs w, xs.length = vlen → vlen ≤ maxLen → Reads w vo (ints xs) → _) := fun vo vlen vcap xs w h1 h2 h3 => refRowFault_any p k n ao vo len cap vlen vcap low xs w hF hn6 h1 h2 h3
  obtain ⟨q, hq⟩ : ∃ q, p ^ k = q := ⟨_, rfl⟩
  rw [hq] at HRF ⊢
  by_cases h12 : 12 < m
  · have b1 : decide (12 < (m : Int)) = true := decide_eq_true (by omega)
    have HV : Hid (rowsFault q n xss = 3) := by show _ = _; unfold rowsFault; rw [if_pos (by rw [hl]; exact h12)]
    clear h12 hr hl hF hq
    go_enter Tryd.func11, Tryd.ntmps11
    go_wp2
    exact bodyPost_ret (v := .int .i64 3) (by simp [results, Tryd.results11, go_sem]) rfl ⟨by rw [HV.out], E0.out⟩
  · have b1 : decide (12 < (m : Int)) = false := decide_eq_false (by omega)
    have HU : Hid (rowsFault q n xss = rowsFault1 q n xss) := by show _ = _; unfold rowsFault; rw [if_neg (by rw [hl]; exact h12)]
    have HR := Lib.hid hr
    have HL := Lib.hid hl
    have hm12 : m ≤ 12 := by omega
    clear hr hl hF hq h12
    go_enter Tryd.func11, Tryd.ntmps11
    go_wp2
    obtain ⟨w0, hw0⟩ : ∃ w0, w0 = w.alloc (.cells #[.int .i64 p, .int .i64 k, .slice ao len cap] 29) := ⟨_, rfl⟩
    rw [← hw0] at E0 F0 ⊢
    clear hw0 k0
    go_loopg [7] m (fun r x wr => ∃ i : Nat, i + r = m ∧ x = .int .i64 i ∧ (∀ t, t < i → rowFault q n (row xss t) = 0) ∧ Ext w0 wr)
    case atStart => exact ⟨0, by omega, rfl, fun t ht => by omega, Ext.refl _⟩
    case round =>
      obtain ⟨i, hir, rfl, hall, hx⟩ := hrel
      have HA := Lib.hid hall
      have HX := Lib.hid hx
      clear hall hx
      cases gk with
      | zero =>
        obtain rfl : i = m := by omega
        have HV : Hid (rowsFault q n xss = 0) := by show _ = _; rw [HU.out]; exact rowsFault1_all xss (by rw [HL.out]; exact HA.out)
        go_wp2
        exact bodyPost_ret (v := .int .i64 0) (by simp [results, Tryd.results11, go_sem]) rfl ⟨by rw [HV.out], E0.out.trans HX.out⟩
      | succ r1 =>
        have hin : (i : Int) < (m : Int) := by omega
        obtain ⟨b, off, rfl, hb, hc⟩ := HR.out.row (by rw [HL.out]; omega)
        obtain ⟨a, c, h1, h2, h3⟩ := hc i (by rw [HL.out]; omega)
        have t1 := ((E0.out.trans HX.out).cell hb).trans h1
        have t0 := (F0.out.ext HX.out).three
        have HRW := HRF.out a (row xss i).length c (row xss i) wr.drew rfl h3 ((E0.out.trans HX.out).drew.reads h2)
        have HHIT : Hid (∀ v, rowFault q n (row xss i) = v → v ≠ 0 → rowsFault q n xss = v) := fun v hv h0 => by
          rw [HU.out, rowsFault1_hit xss i (by rw [HL.out]; omega) HA.out (by rw [hv]; exact h0), hv]
        have HNX : Hid (rowFault q n (row xss i) = 0 → ∀ t, t < i + 1 → rowFault q n (row xss t) = 0) := fun h t ht => by
          rcases Nat.lt_succ_iff_lt_or_eq.1 ht with h' | rfl
          · exact HA.out t h'
          · exact h
        obtain ⟨v, hv⟩ : ∃ v, rowFault q n (row xss i) = v := ⟨_, rfl⟩
        obtain ⟨rl, hrl⟩ : ∃ rl, (row xss i).length = rl := ⟨_, rfl⟩
        rw [hrl] at t1
        rw [hv, hrl] at HRW
        have HRW := Lib.hid HRW
        have HV := Lib.hid hv
        clear hc h1 h2 h3 hv hrl
        have HEN : ∀ (args : Array Value) (w : World), (callFunc 19 args).run Tryd.prog w = .ok (.enter 19 args) w := fun _ _ => rfl
        have HEN := Lib.hid HEN
        go_upto_region 6 with fail
        go_region_law (first | (refine step_callS (f := 19) (xs := #[.tmp 18, .tmp 19, .tmp 23]) (ats := #[29, 3, 27]) (args := #[.agg #[.int .i64 p, .int .i64 k, .slice ao len cap], .int .i64 n, .slice a rl c]) (R := fun w' => Ext wr.drew w') (.int .i64 v) ?_ ?_ HEN.out ?_ HRW.out ?_; (next => rfl); (next => rfl); (next => simp [Act.eval]; done); intro w5 hx5; have HX5 := Lib.hid (HX.out.trans ((Ext.refl wr).drew.trans hx5)); clear hx5))
        all_goals
          by_cases h0 : v = 0
          · have b2 : (v != 0) = false := by rw [h0]; rfl
            have HF := Lib.hid (HNX.out (HV.out.trans h0))
            clear h0
            go_wp2
            go_roundg r1
            case measure => omega
            case rel => exact ⟨i + 1, by omega, by go_num, HF.out, HX5.out⟩
          · have b2 : (v != 0) = true := by rw [bne_iff_ne]; exact h0
            have HF := Lib.hid (HHIT.out v HV.out h0)
            clear h0
            go_wp2
            exact bodyPost_ret (v := .int .i64 v) (by simp [results, Tryd.results11, go_sem]) rfl ⟨by rw [HF.out], E0.out.trans HX5.out⟩

end Go.Proofs.YthkafhmciapipaaDoor

/- What the reference answers of spaces, over the field. No conditions but a room. -/
namespace Go.Proofs.YthkafhmciapipaaDoor
open Go.RowKit
set_option linter.unusedVariables false
set_option linter.unusedSectionVars false

section
variable {p k : Nat} {low : List Int} [hI : FldP p k low]

theorem normalTo_ref (n m : Nat) (ao vo : Option Addr) (cap mcap : Nat) (V : List (Nat → El p k low)) (w : World) (hR : IsRoom p k low n) (hra : Reads w ao (ints low)) (hm : V.length = m) (hm12 : m ≤ 100) (hr : ReadsL w vo (rowsN n (V.map toN))) :
    Calls Tryd.prog 18 #[.agg #[.int .i64 p, .int .i64 k, .slice ao k cap], .int .i64 n, .slice vo m mcap] w fun e w' => ∃ (g : Nat) (T : Nat → Bool), e = .returned (.slice (some ⟨g, 0, none⟩) ((p ^ k) ^ n) ((p ^ k) ^ n)) ∧ OwnB w w' g ((p ^ k) ^ n) ((p ^ k) ^ n) T ∧ Marks n T (Nul n (Span V)) := by
  refine (refNormalTo_any p k n ao vo cap m mcap low (V.map toN) w hR.fld hra hR.n1 hR.n6 hR.big (by rw [List.length_map, hm]) hm12 (allLt_toN n V) hr).mono ?_
  rintro e w' ⟨g, rfl, h⟩
  refine ⟨g, _, rfl, h, fun c hc => ?_⟩
  have h1 := okTo_marks (p := p) (k := k) (low := low) (n := n) (V := V) c
  rw [hm] at h1
  exact h1
theorem basisOf_ref (n : Nat) (ao uo : Option Addr) (cap tcap : Nat) (T : Nat → Bool) (S : (Nat → El p k low) → Prop) (xss : List (List Int)) (w : World) (hR : IsRoom p k low n) (hr : Reads w uo (boolL T ((p ^ k) ^ n))) (hT : Marks n T S) (hB : BasisI n xss S) :
    Calls Tryd.prog 16 #[.agg #[.int .i64 p, .int .i64 k, .slice ao k cap], .int .i64 n, .slice uo ((p ^ k) ^ n) tcap] w fun e w' => ∃ (bo : Option Addr) (bc : Nat), e = .returned (.slice bo xss.length bc) ∧ ReadsL w' bo xss ∧ Ext w w' := by
  refine (refBasisOf_any p k n ao uo cap tcap low T w hR.fld hR.n1 hR.n6 hR.big hr).mono ?_
  rintro e w' ⟨v, rfl, bo, bl, bc, rfl, h1, h2⟩
  rw [basisOf_is hB hT] at h1
  obtain rfl := h1.length
  exact ⟨bo, bc, rfl, h1.readsL, h2⟩
end

end Go.Proofs.YthkafhmciapipaaDoor

/- slices.Concat at lists of rows. Conditions: as the theorem says. -/
namespace Go.Proofs.YthkafhmciapipaaDoor
open Go.RowKit Go.Shelf

shelf_lay_g Lays8.n4 Nm8 4 at Tryd 58 as growRows

/-- Lists of rows, one behind the other. -/
def catV (vs : Nat → List Value) : Nat → List Value
  | 0 => []
  | j + 1 => catV vs j ++ vs j

set_option maxHeartbeats 1000000 in
theorem grow_rows (n : Nat) (w : World) (hn : n ≤ 100000) :
    Calls Tryd.prog 58 #[.slice none 0 0, .int .i64 n] w fun e w' => ∃ ao cap, e = .returned (.slice ao 0 cap) ∧ RowOf 27 w' w.heap.size ao 0 cap [] ∧ Ext w w' := by
  obtain ⟨i, hi, hz, hsz, hby⟩ := info_parts eRow.inf
  by_cases h0 : n = 0
  · subst h0
    refine (Any8.slices_Grow_room growRows none 0 0 0 w (by omega) (by omega) (by omega) (by omega)).mono ?_
    rintro e w' ⟨rfl, rfl⟩
    exact ⟨none, 0, rfl, RowOf.nil _ _ _, Ext.refl _⟩
  · refine (Any8.slices_Grow_grow growRows i (.slice none 0 0) hi hz (by rw [hsz]; omega) none 0 0 n [] w (by omega) (by omega) (by rw [hby]; omega) (by omega) (by simp) (fun _ => rfl) (fun a h => by cases h)).mono ?_
    rintro e w' ⟨rfl, rfl⟩
    have hg := grownCap_ge w (0 + n) 0 27
    have hl := grownCap_le_maxLen w (0 + n) 0 27 (by unfold maxLen; omega)
    have key : ∀ (cs : Array Value) (G : Nat), cs.size = G → G ≤ maxLen → RowOf 27 (w.drew.alloc (.cells cs 27)) w.heap.size (some ⟨w.heap.size, 0, none⟩) 0 G [] := fun cs G hs hG =>
      ⟨by simp, .inr ⟨w.heap.size, G, cs, rfl, Nat.le_refl _, heap_alloc_new w.drew _, Nat.zero_le _, hG, by omega, by simp⟩⟩
    refine ⟨_, _, rfl, key _ _ ?_ hl, (Ext.refl w).drew.alloc _⟩
    have z : (Value.cells (.slice none 0 0)).size = 1 := rfl
    simp only [Array.size_append, size_zeroCells, z]
    show 0 + _ + (grownCap w (0 + n) 0 27 - (0 + n)) * 1 = grownCap w (0 + n) 0 27
    omega

theorem wpList_appAll {w : World} {ops : Array Oper} {rest : List Oper} {o : Oper} {a : Act} {Q : Exit → Act → World → Prop} (hgd : o.guard = none) (s x : Operand)
    (ho : o.op = .call { callee := .builtin .append, args := #[s, x], argTypes := #[30, 30] }) (B : Nat) {ao bo : Option Addr} {n cap m c : Nat} {xs news : List Value}
    (hs : a.eval s = .slice ao n cap) (hown : RowOf 27 w B ao n cap xs) (hx : a.eval x = .slice bo m c) (hl : news.length = m) (hr : Reads w bo news) (h1 : ∀ u ∈ news, u.oneCell' = true) (hn : n + m ≤ 100000) (hB : B ≤ w.heap.size)
    (h : ∀ ao' cap' w', RowOf 27 w' B ao' (n + m) cap' (xs ++ news) → w.grownBy w' (Value.slice ao n cap).ownBlock → wpList Tryd.prog ops Q rest (a.put o.dst (.slice ao' (n + m) cap')) w') : wpList Tryd.prog ops Q (o :: rest) a w := by
  obtain ⟨i, hi, hz, hsz, hby⟩ := info_parts eRow.inf
  cases bo with
  | none =>
    obtain rfl : news = [] := by
      rcases hr with h | ⟨b, off, h, _⟩
      · exact h
      · cases h
    obtain rfl : m = 0 := by simpa using hl.symm
    refine wpList_plain hgd fun K hK => ?_
    have hrun : ∀ ty, (Builtin.append_ #[30, 30] ty #[.slice ao n cap, .slice none 0 c]).run Tryd.prog w = .ok (.slice ao n cap) w := fun ty => by
      rcases hown.2 with ⟨h, rfl⟩ | ⟨g, cap', cur, h, _, _, hnc, _⟩
      · simp only [Value.slice.injEq] at h
        obtain ⟨rfl, _, rfl⟩ := h
        simp [Builtin.append_, run_underlying eRow.und, sizeOf, typeInfo, hi, Builtin.lenOf, Builtin.firstCells]
      · simp only [Value.slice.injEq] at h
        obtain ⟨rfl, _, rfl⟩ := h
        simp [Builtin.append_, run_underlying eRow.und, sizeOf, typeInfo, hi, Builtin.lenOf, Builtin.firstCells, hnc, storeCells]
    unfold Oper.wp
    simp [execOp, ho, resolve, invoke, builtin, hs, hx, hrun, Result.andThen]
    exact hK _ _ (h ao cap w (by simpa using hown) ⟨rfl, rfl, rfl, Nat.le_refl _, fun _ _ _ => rfl⟩)
  | some ad =>
    refine wpList_append_own _ hgd s x 30 ho B 27 i (.slice none 0 0) 1 24 eRow.und hi hz hsz hby eRow.cel (by decide) _ n xs hs hown ad m c news hx (by omega) ?_ h1 (by unfold maxLen; omega) (by omega) hB ?_
    · intro j u hu
      rcases hr with e | ⟨b', off', e, hlt, hc⟩
      · subst e; simp at hu
      · obtain rfl := Option.some.inj e
        rw [Addr.add_lit]
        exact hc j u hu
    · intro v' w' hr1 hg1 hz1
      obtain ⟨ao', cap', rfl⟩ := RowOf.shape hr1
      exact h ao' cap' w' hr1 hg1

theorem catV_le (vs : Nat → List Value) (N : Nat) : ∀ k, (∀ j, j < k → (vs j).length ≤ N) → (catV vs k).length ≤ k * N
  | 0, _ => by simp [catV]
  | k + 1, h => by
    have := catV_le vs N k fun j hj => h j (by omega)
    have := h k (by omega)
    rw [catV, List.length_append, Nat.succ_mul]; omega

set_option maxHeartbeats 4000000 in
set_option maxRecDepth 100000 in
theorem concat_any (b off k cap : Nat) (vs : Nat → List Value) (w : World) (hk : k ≤ 10) (hb : b < w.heap.size)
    (hc : ∀ j, j < k → ∃ a c, w.cell? ⟨b, off + j, none⟩ = some (.slice a (vs j).length c) ∧ Reads w a (vs j) ∧ (vs j).length ≤ 1000 ∧ ∀ v ∈ vs j, v.oneCell' = true) :
    Calls Tryd.prog 39 #[.slice (some ⟨b, off, none⟩) k cap] w fun e w' => ∃ ao' cap', e = .returned (.slice ao' (catV vs k).length cap') ∧ RowOf 27 w' w.heap.size ao' (catV vs k).length cap' (catV vs k) ∧ Ext w w' := by
  have HC := Lib.hid hc
  have HL : Hid (∀ j, j ≤ k → (catV vs j).length ≤ 10000) := fun j hj => by
    have := catV_le vs 1000 j fun i hi => by
      obtain ⟨_, _, _, _, h, _⟩ := hc i (by omega)
      exact h
    omega
  have HGR : Hid (∀ n, n ≤ 100000 → _) := fun n hn => grow_rows n w hn
  have HST : Hid (∀ j, (catV vs (j + 1)).length = (catV vs j).length + (vs j).length) := fun j => by show _ = _; rw [catV, List.length_append]
  clear hc
  go_enter Tryd.func39, Tryd.ntmps39
  go_wp2
  go_loopg [3, 11] k (fun g x y wr => ∃ j : Nat, j + g = k ∧ x = .int .i64 (catV vs j).length ∧ y = .int .i64 j ∧ w = wr)
  case atStart => exact ⟨0, by omega, rfl, rfl, rfl⟩
  case round =>
    obtain ⟨j, hjg, rfl, rfl, rfl⟩ := hrel
    cases gk with
    | zero =>
      have hjz : ¬ ((j : Int) < (k : Int)) := by omega
      obtain rfl : j = k := by omega
      have HG := HGR.out (catV vs j).length (by have := HL.out j (by omega); omega)
      have HG := Lib.hid HG
      go_wp2_with fail
      refine Calls.mono HG.out ?_
      rintro e w1 ⟨ao1, cap1, rfl, hr1, hx1⟩
      have HR1 := Lib.hid hr1
      have HX1 := Lib.hid hx1
      clear hr1 hx1
      go_wp2
      go_loopg [6, 27] j (fun g x y wr => ∃ i : Nat, i + g = j ∧ y = .int .i64 i ∧ ∃ ao cap, x = .slice ao (catV vs i).length cap ∧ RowOf 27 wr w.heap.size ao (catV vs i).length cap (catV vs i) ∧ Ext w wr)
      case atStart => exact ⟨0, by omega, rfl, _, _, rfl, HR1.out, HX1.out⟩
      case round =>
        obtain ⟨i, hig, rfl, ao, cap2, rfl, hro, hxo⟩ := hrel
        have HRO := Lib.hid hro
        have HXO := Lib.hid hxo
        have hsz := hxo.size
        clear hro hxo HR1 HX1
        cases gk with
        | zero =>
          have hiz : ¬ ((i : Int) < (j : Int)) := by omega
          obtain rfl : i = j := by omega
          go_wp2
          go_ret
          exact ⟨_, _, rfl, HRO.out, HXO.out⟩
        | succ g1 =>
          have hil : (i : Int) < (j : Int) := by omega
          obtain ⟨a, c, h1, h2, h3, h4⟩ := HC.out i (by omega)
          have k1 := (HXO.out.cell hb).trans h1
          have HN2 := Lib.hid (HXO.out.reads h2)
          have HO2 := Lib.hid h4
          have hle := HL.out i (by omega)
          clear h1 h2 h4
          go_wp2_with (at_builtin; (refine wpList_appAll rfl (.tmp 31) (.tmp 32) rfl w.heap.size (by rfl) HRO.out (by rfl) rfl HN2.out HO2.out (by omega) (by omega) ?_; intro ao4 cap4 w4 hr4 hg4; have HR4 := Lib.hid hr4; have HX4 := Lib.hid (Below.grown HXO.out hg4 hsz (fun b9 h9 => (HRO.out.block b9 h9).1)); clear hr4 hg4))
          go_roundg g1
          case measure => omega
          case rel => exact ⟨i + 1, by omega, by go_num, ao4, cap4, by rw [HST.out], by rw [HST.out]; exact HR4.out, HX4.out⟩
    | succ g1 =>
      have hjl : (j : Int) < (k : Int) := by omega
      obtain ⟨a, c, k1, _, h3, _⟩ := HC.out j (by omega)
      have hle := HL.out j (by omega)
      have h9 : ¬ (((catV vs j).length : Int) + ((vs j).length : Int) < 0) := by omega
      go_wp2
      go_roundg g1
      case measure => omega
      case rel => exact ⟨j + 1, by omega, by rw [HST.out]; go_num, by go_num, rfl⟩

end Go.Proofs.YthkafhmciapipaaDoor
