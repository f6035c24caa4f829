/- What parterreref3.RoomFault, RowFault and RowsFault answer. No conditions but a field. -/
import Derived.Test.YtnhdngnolepkcaaDoorJiclkdngkcn
import Derived.Test.YtnhdngnolepkcaaDoorJbflacgjipb
import Derived.Test.YtnhdngnolepkcaaDoorJdjapdnilio
import Derived.Test.YtnhdngnolepkcaaDoorJpoobehflpg
import Derived.ProofKit
import Derived.OpenShut
import Derived.ShutString
import Derived.ChangeOld
import Derived.Deep.Slices
import Derived.Test.YtnhdngnolepkcaaDoorJoemioeblca
import Derived.Deep.SlicePairs
namespace Go.Proofs.YtnhdngnolepkcaaDoor
open Go.RowKit
set_option linter.unusedVariables false

set_option maxHeartbeats 2000000 in
theorem refRoomFault_any (p k : Int) (ao : Option Addr) (len cap : Nat) (low : List Int) (n : Int) (w : World) (hl : low.length = len) (hr : Reads w ao (ints low)) :
    Calls Tryd.prog 5 #[.agg #[.int .i64 p, .int .i64 k, .slice ao len cap], .int .i64 n] w fun e w' => e = .returned (.int .i64 (roomFault p k low n)) ∧ Ext w w' := by
  have E0 := Lib.hid (ext_box w #[.int .i64 p, .int .i64 k, .slice ao len cap] 24)
  have F0 := Lib.hid (Blk.new w #[.int .i64 p, .int .i64 k, .slice ao len cap] 24)
  have k0 := F0.out.three
  have HF := Lib.hid (refFault_any p k ao len cap low _ hl (E0.out.reads hr))
  by_cases h0 : fieldFault p k low = 0
  · rw [h0] at HF
    obtain ⟨P, K, rfl, rfl, hF, ho⟩ := fieldFault_zero h0
    by_cases h1 : n < 1
    · have HV : Hid (roomFault P K low n = 1) := by show _ = _; unfold roomFault; rw [if_neg (fun h => h h0), if_pos (.inl h1)]
      have b1 : decide (n < 1) = true := decide_eq_true h1
      clear h0 h1 hr hF ho hl
      go_enter Tryd.func5, Tryd.ntmps5
      go_wp2_with fail
      refine Calls.mono HF.out ?_
      rintro e w1 ⟨rfl, hx⟩
      have E1 := Lib.hid (E0.out.trans hx)
      clear hx k0
      go_wp2
      exact bodyPost_ret (v := .int .i64 1) (by simp [results, Tryd.results5, go_sem]) rfl ⟨by rw [HV.out], E1.out⟩
    by_cases h6 : 6 < n
    · have HV : Hid (roomFault P K low n = 1) := by show _ = _; unfold roomFault; rw [if_neg (fun h => h h0), if_pos (.inr h6)]
      have b1 : decide (n < 1) = false := decide_eq_false h1
      have b2 : decide (6 < n) = true := decide_eq_true h6
      clear h0 h1 h6 hr hF ho hl
      go_enter Tryd.func5, Tryd.ntmps5
      go_wp2_with fail
      refine Calls.mono HF.out ?_
      rintro e w1 ⟨rfl, hx⟩
      have E1 := Lib.hid (E0.out.trans hx)
      clear hx k0
      go_wp2
      exact bodyPost_ret (v := .int .i64 1) (by simp [results, Tryd.results5, go_sem]) rfl ⟨by rw [HV.out], E1.out⟩
    obtain ⟨N, rfl⟩ : ∃ N : Nat, n = N := ⟨n.toNat, by omega⟩
    have HS : Hid (∀ w, _) := fun w => size_is P K ao len cap low w hF
    have hq2 : 2 ≤ P ^ K := one_lt_pow' hF.p2 hF.k1
    have h64 := hF.big
    have HV0 : Hid (roomFault P K low N = if 4096 < (P ^ K) ^ N then 3 else 0) := by
      show _ = _; unfold roomFault; rw [if_neg (fun h => h h0), if_neg (by omega), ho, Int.toNat_natCast]
    obtain ⟨q, hq⟩ : ∃ q, P ^ K = q := ⟨_, rfl⟩
    rw [hq] at hq2 h64 HS HV0
    have HPW : Hid (∀ i, i ≤ N → 4096 < q ^ i → 4096 < q ^ N) := fun i hi h => Nat.lt_of_lt_of_le h (Nat.pow_le_pow_right (by omega) hi)
    have HST : Hid (∀ i, q ^ (i + 1) = q ^ i * q) := fun i => Nat.pow_succ _ _
    have b1 : decide ((N : Int) < 1) = false := decide_eq_false h1
    have b2 : decide (6 < (N : Int)) = false := decide_eq_false h6
    have hN1 : 1 ≤ N := by omega
    have hN6 : N ≤ 6 := by omega
    clear h0 h1 h6 hr hF ho hl hq
    go_enter Tryd.func5, Tryd.ntmps5
    go_wp2_with fail
    refine Calls.mono HF.out ?_
    rintro e w1 ⟨rfl, hx⟩
    have E1 := Lib.hid (E0.out.trans hx)
    have k1 := (F0.out.ext hx).three
    clear hx k0
    go_wp2_with fail
    refine Calls.mono (HS.out w1) ?_
    rintro e w2 ⟨rfl, hx⟩
    have E2 := Lib.hid (E1.out.trans hx)
    clear hx k1 b1 b2
    go_wp2
    go_loopg [7, 8] N (fun r y x wr => ∃ i u : Nat, i + r = N ∧ x = .int .i64 i ∧ y = .int .i64 u ∧ Hid (u = q ^ i) ∧ u ≤ 4096 ∧ w2 = wr)
    case atStart => exact ⟨0, 1, by omega, rfl, rfl, by show _ = _; rw [Nat.pow_zero], by omega, rfl⟩
    case round =>
      obtain ⟨i, u, hir, rfl, rfl, HU, hu, rfl⟩ := hrel
      cases gk with
      | zero =>
        obtain rfl : i = N := by omega
        have HV : Hid (roomFault P K low i = 0) := by show _ = _; rw [HV0.out, ← HU.out, if_neg (by omega)]
        go_wp2
        exact bodyPost_ret (v := .int .i64 0) (by simp [results, Tryd.results5, go_sem]) rfl ⟨by rw [HV.out], E2.out⟩
      | succ r1 =>
        have hin : (i : Int) < (N : Int) := by omega
        obtain ⟨m, hm⟩ : ∃ m, u * q = m := ⟨_, rfl⟩
        have hm' : (u : Int) * (q : Int) = m := by rw [← hm, Int.natCast_mul]
        have hmb : m ≤ 4096 * 64 := by rw [← hm]; exact Nat.mul_le_mul hu h64
        have HM : Hid (m = q ^ (i + 1)) := by show _ = _; rw [← hm, HU.out, HST.out]
        clear hm
        by_cases hb : 4096 < m
        · have b3 : decide (4096 < (m : Int)) = true := decide_eq_true (by omega)
          have HV : Hid (roomFault P K low N = 3) := by
            show _ = _; rw [HV0.out, if_pos (HPW.out (i + 1) (by omega) (by rw [← HM.out]; exact hb))]
          clear hb
          go_wp2
          exact bodyPost_ret (v := .int .i64 3) (by simp [results, Tryd.results5, go_sem]) rfl ⟨by rw [HV.out], E2.out⟩
        · have b3 : decide (4096 < (m : Int)) = false := decide_eq_false (by omega)
          have hb' : m ≤ 4096 := by omega
          clear hb
          go_wp2
          go_roundg r1
          case measure => omega
          case rel => exact ⟨i + 1, m, by omega, by go_num, rfl, HM, hb', rfl⟩
  · have HV : Hid (roomFault p k low n = fieldFault p k low) := by show _ = _; unfold roomFault; rw [if_pos h0]
    obtain ⟨c, hc⟩ : ∃ c, fieldFault p k low = c := ⟨_, rfl⟩
    rw [hc] at HF HV h0
    have b1 : (c != 0) = true := by rw [bne_iff_ne]; exact h0
    clear hc h0 hr hl
    go_enter Tryd.func5, Tryd.ntmps5
    go_wp2_with fail
    refine Calls.mono HF.out ?_
    rintro e w1 ⟨rfl, hx⟩
    have E1 := Lib.hid (E0.out.trans hx)
    clear hx k0
    go_wp2
    exact bodyPost_ret (v := .int .i64 c) (by simp [results, Tryd.results5, go_sem]) rfl ⟨by rw [HV.out], E1.out⟩

set_option maxHeartbeats 400000 in
theorem in_any (p k : Nat) (ao : Option Addr) (len cap : Nat) (low : List Int) (x : Int) (w : World) (hF : IsField p k low) :
    Calls Tryd.prog 39 #[.agg #[.int .i64 p, .int .i64 k, .slice ao len cap], .int .i64 x] w fun e w' => e = .returned (.bool (!badDg (p ^ k : Nat) x)) ∧ Ext w w' := by
  have HS : Hid (∀ w, _) := fun w => size_is p k ao len cap low w hF
  have E0 := Lib.hid (ext_box w #[.int .i64 p, .int .i64 k, .slice ao len cap] 24)
  have k0 := (Blk.new w #[.int .i64 p, .int .i64 k, .slice ao len cap] 24).three
  obtain ⟨q, hq⟩ : ∃ q, p ^ k = q := ⟨_, rfl⟩
  rw [hq] at HS ⊢
  clear hF hq
  by_cases h0 : x < 0
  · have b1 : decide (0 ≤ x) = false := decide_eq_false (by omega)
    have HV : Hid (badDg q x = true) := by show _ = _; unfold badDg; rw [decide_eq_true h0]; rfl
    clear h0
    go_enter Tryd.func39, Tryd.ntmps39
    go_wp2_with fail
    refine Calls.mono (HS.out _) ?_
    rintro e w1 ⟨rfl, hx⟩
    have E1 := Lib.hid (E0.out.trans hx)
    clear hx k0
    go_wp2
    exact bodyPost_ret (v := .bool false) (by simp [results, Tryd.results39, go_sem]) rfl ⟨by rw [HV.out]; rfl, E1.out⟩
  · have b1 : decide (0 ≤ x) = true := decide_eq_true (by omega)
    by_cases h1 : x < q
    · have b2 : decide (x < (q : Int)) = true := decide_eq_true h1
      have HV : Hid (badDg q x = false) := by show _ = _; unfold badDg; rw [decide_eq_false h0, decide_eq_false (by omega)]; rfl
      clear h0 h1
      go_enter Tryd.func39, Tryd.ntmps39
      go_wp2_with fail
      refine Calls.mono (HS.out _) ?_
      rintro e w1 ⟨rfl, hx⟩
      have E1 := Lib.hid (E0.out.trans hx)
      clear hx k0
      go_wp2
      exact bodyPost_ret (v := .bool true) (by simp [results, Tryd.results39, go_sem]) rfl ⟨by rw [HV.out]; rfl, E1.out⟩
    · have b2 : decide (x < (q : Int)) = false := decide_eq_false h1
      have HV : Hid (badDg q x = true) := by show _ = _; unfold badDg; rw [decide_eq_false h0, decide_eq_true (by omega)]; rfl
      clear h0 h1
      go_enter Tryd.func39, Tryd.ntmps39
      go_wp2_with fail
      refine Calls.mono (HS.out _) ?_
      rintro e w1 ⟨rfl, hx⟩
      have E1 := Lib.hid (E0.out.trans hx)
      clear hx k0
      go_wp2
      exact bodyPost_ret (v := .bool false) (by simp [results, Tryd.results39, go_sem]) rfl ⟨by rw [HV.out]; rfl, E1.out⟩

theorem rowFault_hit {q n : Nat} {xs : List Int} {i : Nat} (hl : xs.length = n) (hi : i < n) (h : badDg q (nth xs i) = true) : rowFault q n xs = 1 := by
  unfold rowFault
  rw [if_neg (fun h => h hl), if_pos (List.any_eq_true.2 ⟨_, nth_mem xs i (by omega), h⟩)]
theorem rowFault_fine {q n : Nat} {xs : List Int} (hl : xs.length = n) (h : ∀ i, i < n → badDg q (nth xs i) = false) : rowFault q n xs = 0 := by
  unfold rowFault
  rw [if_neg (fun h => h hl), if_neg]
  intro ha
  obtain ⟨x, hx, hb⟩ := List.any_eq_true.1 ha
  obtain ⟨i, hi, rfl⟩ := mem_nth xs x hx
  rw [h i (by omega)] at hb
  exact absurd hb (by simp)

set_option maxHeartbeats 4000000 in
theorem refRowFault_any (p k n : Nat) (ao vo : Option Addr) (len cap vlen vcap : Nat) (low xs : List Int) (w : World) (hF : IsField p k low) (hn6 : n ≤ 6) (hl : xs.length = vlen) (hbig : vlen ≤ maxLen) (hr : Reads w vo (ints xs)) :
    Calls Tryd.prog 19 #[.agg #[.int .i64 p, .int .i64 k, .slice ao len cap], .int .i64 n, .slice vo vlen vcap] w fun e w' => e = .returned (.int .i64 (rowFault (p ^ k) n xs)) ∧ Ext w w' := by
  have E0 := Lib.hid (ext_box w #[.int .i64 p, .int .i64 k, .slice ao len cap] 24)
  have F0 := Lib.hid (Blk.new w #[.int .i64 p, .int .i64 k, .slice ao len cap] 24)
  have k0 := F0.out.three
  unfold maxLen at hbig
  have HI : Hid (∀ x w, _) := fun x w => in_any p k ao len cap low x w hF
  obtain ⟨q, hq⟩ : ∃ q, p ^ k = q := ⟨_, rfl⟩
  rw [hq] at HI ⊢
  by_cases hln : vlen = n
  · subst hln
    have b1 : ((vlen : Int) != (vlen : Int)) = false := by simp
    have HR := Lib.hid hr
    have HL := Lib.hid hl
    clear hr hl hF hq
    go_enter Tryd.func19, Tryd.ntmps19
    go_wp2
    obtain ⟨w0, hw0⟩ : ∃ w0, w0 = w.alloc (.cells #[.int .i64 p, .int .i64 k, .slice ao len cap] 24) := ⟨_, rfl⟩
    rw [← hw0] at E0 F0 ⊢
    clear hw0 k0
    go_loopg [7] vlen (fun r x wr => ∃ i : Nat, i + r = vlen ∧ x = .int .i64 i ∧ (∀ t, t < i → badDg q (nth xs t) = false) ∧ Ext w0 wr)
    case atStart => exact ⟨0, by omega, rfl, fun t ht => by omega, Ext.refl _⟩
    case round =>
      obtain ⟨i, hir, rfl, hall, hx⟩ := hrel
      have HA := Lib.hid hall
      have HX := Lib.hid hx
      clear hall hx
      cases gk with
      | zero =>
        obtain rfl : i = vlen := by omega
        have HV : Hid (rowFault q i xs = 0) := rowFault_fine HL.out HA.out
        go_wp2
        exact bodyPost_ret (v := .int .i64 0) (by simp [results, Tryd.results19, go_sem]) rfl ⟨by rw [HV.out], E0.out.trans HX.out⟩
      | succ r1 =>
        have hin : (i : Int) < (vlen : Int) := by omega
        obtain ⟨b, off, rfl, hb, hc⟩ := HR.out.int (by rw [HL.out]; omega)
        have t1 := ((E0.out.trans HX.out).cell hb).trans (hc i (by rw [HL.out]; omega))
        have t0 := (F0.out.ext HX.out).three
        have HHIT : Hid (badDg q (nth xs i) = true → rowFault q vlen xs = 1) := fun h => rowFault_hit HL.out (by omega) h
        have HNX : Hid (badDg q (nth xs i) = false → ∀ t, t < i + 1 → badDg q (nth xs t) = false) := fun h t ht => by
          rcases Nat.lt_succ_iff_lt_or_eq.1 ht with h' | rfl
          · exact HA.out t h'
          · exact h
        obtain ⟨x, hx⟩ : ∃ x, nth xs i = x := ⟨_, rfl⟩
        rw [hx] at t1 HHIT HNX
        have HIN := HI.out x wr.drew
        obtain ⟨bd, hbd⟩ : ∃ bd, badDg q x = bd := ⟨_, rfl⟩
        rw [hbd] at HIN HHIT HNX
        have HIN := Lib.hid HIN
        clear hc hx hbd
        have HEN : ∀ (args : Array Value) (w : World), (callFunc 39 args).run Tryd.prog w = .ok (.enter 39 args) w := fun _ _ => rfl
        have HEN := Lib.hid HEN
        go_upto_region 6 with fail
        go_region_law (first | (refine step_callS (f := 39) (xs := #[.tmp 18, .tmp 22]) (ats := #[24, 3]) (args := #[.agg #[.int .i64 p, .int .i64 k, .slice ao len cap], .int .i64 x]) (R := fun w' => Ext wr.drew w') (.bool (!bd)) ?_ ?_ HEN.out ?_ HIN.out ?_; (next => rfl); (next => rfl); (next => simp [Act.eval]; done); intro w5 hx5; have HX5 := Lib.hid (HX.out.trans ((Ext.refl wr).drew.trans hx5)); clear hx5))
        all_goals
          cases bd with
          | true =>
            have HV := Lib.hid (HHIT.out rfl)
            go_wp2
            exact bodyPost_ret (v := .int .i64 1) (by simp [results, Tryd.results19, go_sem]) rfl ⟨by rw [HV.out], E0.out.trans HX5.out⟩
          | false =>
            have HV := Lib.hid (HNX.out rfl)
            go_wp2
            go_roundg r1
            case measure => omega
            case rel => exact ⟨i + 1, by omega, by go_num, HV.out, HX5.out⟩
  · have b1 : ((vlen : Int) != (n : Int)) = true := by rw [bne_iff_ne]; omega
    have HV : Hid (rowFault q n xs = 2) := by show _ = _; unfold rowFault; rw [if_pos (by rw [hl]; exact hln)]
    clear hln hr hl hF hq
    go_enter Tryd.func19, Tryd.ntmps19
    go_wp2
    exact bodyPost_ret (v := .int .i64 2) (by simp [results, Tryd.results19, go_sem]) rfl ⟨by rw [HV.out], E0.out⟩

set_option maxHeartbeats 4000000 in
theorem refRowsFault_any (p k n : Nat) (ao vo : Option Addr) (len cap m mcap : Nat) (low : List Int) (xss : List (List Int)) (w : World) (hF : IsField p k low) (hn6 : n ≤ 6) (hl : xss.length = m) (hbig : m ≤ maxLen) (hr : ReadsL w vo xss) :
    Calls Tryd.prog 6 #[.agg #[.int .i64 p, .int .i64 k, .slice ao len cap], .int .i64 n, .slice vo m mcap] w fun e w' => e = .returned (.int .i64 (rowsFault (p ^ k) n xss)) ∧ Ext w w' := by
  have E0 := Lib.hid (ext_box w #[.int .i64 p, .int .i64 k, .slice ao len cap] 24)
  have F0 := Lib.hid (Blk.new w #[.int .i64 p, .int .i64 k, .slice ao len cap] 24)
  have k0 := F0.out.three
  unfold maxLen at hbig
  have HRF : Hid (∀ vo vlen vcap xs w, xs.length = vlen → vlen ≤ maxLen → Reads w vo (ints xs) → _) := fun vo vlen vcap xs w h1 h2 h3 => refRowFault_any p k n ao vo len cap vlen vcap low xs w hF hn6 h1 h2 h3
  obtain ⟨q, hq⟩ : ∃ q, p ^ k = q := ⟨_, rfl⟩
  rw [hq] at HRF ⊢
  by_cases h12 : 12 < m
  · have b1 : decide (12 < (m : Int)) = true := decide_eq_true (by omega)
    have HV : Hid (rowsFault q n xss = 3) := by show _ = _; unfold rowsFault; rw [if_pos (by rw [hl]; exact h12)]
    clear h12 hr hl hF hq
    go_enter Tryd.func6, Tryd.ntmps6
    go_wp2
    exact bodyPost_ret (v := .int .i64 3) (by simp [results, Tryd.results6, go_sem]) rfl ⟨by rw [HV.out], E0.out⟩
  · have b1 : decide (12 < (m : Int)) = false := decide_eq_false (by omega)
    have HU : Hid (rowsFault q n xss = rowsFault1 q n xss) := by show _ = _; unfold rowsFault; rw [if_neg (by rw [hl]; exact h12)]
    have HR := Lib.hid hr
    have HL := Lib.hid hl
    have hm12 : m ≤ 12 := by omega
    clear hr hl hF hq h12
    go_enter Tryd.func6, Tryd.ntmps6
    go_wp2
    obtain ⟨w0, hw0⟩ : ∃ w0, w0 = w.alloc (.cells #[.int .i64 p, .int .i64 k, .slice ao len cap] 24) := ⟨_, rfl⟩
    rw [← hw0] at E0 F0 ⊢
    clear hw0 k0
    go_loopg [7] m (fun r x wr => ∃ i : Nat, i + r = m ∧ x = .int .i64 i ∧ (∀ t, t < i → rowFault q n (row xss t) = 0) ∧ Ext w0 wr)
    case atStart => exact ⟨0, by omega, rfl, fun t ht => by omega, Ext.refl _⟩
    case round =>
      obtain ⟨i, hir, rfl, hall, hx⟩ := hrel
      have HA := Lib.hid hall
      have HX := Lib.hid hx
      clear hall hx
      cases gk with
      | zero =>
        obtain rfl : i = m := by omega
        have HV : Hid (rowsFault q n xss = 0) := by show _ = _; rw [HU.out]; exact rowsFault1_all xss (by rw [HL.out]; exact HA.out)
        go_wp2
        exact bodyPost_ret (v := .int .i64 0) (by simp [results, Tryd.results6, go_sem]) rfl ⟨by rw [HV.out], E0.out.trans HX.out⟩
      | succ r1 =>
        have hin : (i : Int) < (m : Int) := by omega
        obtain ⟨b, off, rfl, hb, hc⟩ := HR.out.row (by rw [HL.out]; omega)
        obtain ⟨a, c, h1, h2, h3⟩ := hc i (by rw [HL.out]; omega)
        have t1 := ((E0.out.trans HX.out).cell hb).trans h1
        have t0 := (F0.out.ext HX.out).three
        have HRW := HRF.out a (row xss i).length c (row xss i) wr.drew rfl h3 ((E0.out.trans HX.out).drew.reads h2)
        have HHIT : Hid (∀ v, rowFault q n (row xss i) = v → v ≠ 0 → rowsFault q n xss = v) := fun v hv h0 => by
          rw [HU.out, rowsFault1_hit xss i (by rw [HL.out]; omega) HA.out (by rw [hv]; exact h0), hv]
        have HNX : Hid (rowFault q n (row xss i) = 0 → ∀ t, t < i + 1 → rowFault q n (row xss t) = 0) := fun h t ht => by
          rcases Nat.lt_succ_iff_lt_or_eq.1 ht with h' | rfl
          · exact HA.out t h'
          · exact h
        obtain ⟨v, hv⟩ : ∃ v, rowFault q n (row xss i) = v := ⟨_, rfl⟩
        obtain ⟨rl, hrl⟩ : ∃ rl, (row xss i).length = rl := ⟨_, rfl⟩
        rw [hrl] at t1
        rw [hv, hrl] at HRW
        have HRW := Lib.hid HRW
        have HV := Lib.hid hv
        clear hc h1 h2 h3 hv hrl
        have HEN : ∀ (args : Array Value) (w : World), (callFunc 19 args).run Tryd.prog w = .ok (.enter 19 args) w := fun _ _ => rfl
        have HEN := Lib.hid HEN
        go_upto_region 6 with fail
        go_region_law (first | (refine step_callS (f := 19) (xs := #[.tmp 18, .tmp 19, .tmp 23]) (ats := #[24, 3, 22]) (args := #[.agg #[.int .i64 p, .int .i64 k, .slice ao len cap], .int .i64 n, .slice a rl c]) (R := fun w' => Ext wr.drew w') (.int .i64 v) ?_ ?_ HEN.out ?_ HRW.out ?_; (next => rfl); (next => rfl); (next => simp [Act.eval]; done); intro w5 hx5; have HX5 := Lib.hid (HX.out.trans ((Ext.refl wr).drew.trans hx5)); clear hx5))
        all_goals
          by_cases h0 : v = 0
          · have b2 : (v != 0) = false := by rw [h0]; rfl
            have HF := Lib.hid (HNX.out (HV.out.trans h0))
            clear h0
            go_wp2
            go_roundg r1
            case measure => omega
            case rel => exact ⟨i + 1, by omega, by go_num, HF.out, HX5.out⟩
          · have b2 : (v != 0) = true := by rw [bne_iff_ne]; exact h0
            have HF := Lib.hid (HHIT.out v HV.out h0)
            clear h0
            go_wp2
            exact bodyPost_ret (v := .int .i64 v) (by simp [results, Tryd.results6, go_sem]) rfl ⟨by rw [HF.out], E0.out.trans HX5.out⟩

end Go.Proofs.YtnhdngnolepkcaaDoor

/- What is known of a list of ints that comes in as an argument. No conditions. -/
namespace Go.Proofs.YtnhdngnolepkcaaDoor
set_option maxRecDepth 100000
open Go.ChangeShapes Go.WideShapes Go.ChangeAt Go.RowKit

/-- A list of ints that came in. -/
structure IntsArg (w : World) (ao : Option Addr) (n cap : Nat) (xs : List Int) : Prop where
  len : xs.length = n
  big : n ≤ maxLen
  reads : Reads w ao (ints xs)
  rng : ∀ x ∈ xs, -9223372036854775808 ≤ x ∧ x ≤ 9223372036854775807

theorem spot_of_cell {w : World} {a : Addr} {v : Value} (h : w.cell? a = some v) : a = ⟨a.block, a.off, none⟩ := by
  obtain ⟨b, o, s⟩ := a
  unfold World.cell? at h
  cases s with
  | none => rfl
  | some k => simp at h; split at h <;> simp at h

theorem reads_of_add {w : World} {a : Addr} {xs : List Value} (h : ∀ i u, xs[i]? = some u → w.cell? (a.add i) = some u) : Reads w (some a) xs := by
  cases xs with
  | nil => exact .inl rfl
  | cons x xs =>
    have h0 := h 0 x rfl
    rw [show a.add 0 = a by simp [Addr.add]] at h0
    have ha := spot_of_cell h0
    have hb := World.block_lt_of_cell? w a h0
    refine .inr ⟨a.block, a.off, by rw [← ha], hb, fun j u hu => ?_⟩
    have := h j u hu
    rw [show a.add j = ⟨a.block, a.off + j, none⟩ by unfold Addr.add; split <;> rename_i hj; (rw [hj]; exact ha); rfl] at this
    exact this

theorem rng_of_wf {x : Int} (h : (Lit.int .i64 x).wf = true) : -9223372036854775808 ≤ x ∧ x ≤ 9223372036854775807 := by
  simpa [Lit.wf, IntKind.min, IntKind.max, IntKind.signed, IntKind.bits] using h

theorem intsArg_of_trod {H : Type} {enc : TypeId × Value → H} {W : World} {fuel : Nat} {v : Value} {x : DataW H × List MemPlace}
    (h : DataW.trod enc Tryd.prog W 0 (fun _ => true) true fuel 22 [v] = some x) : ∃ ao n cap xs, v = .slice ao n cap ∧ IntsArg W ao n cap xs := by
  rcases open_ints Tryd.underlying22 Tryd.underlying3 (by kernel_rfl) h with ⟨hcs, _⟩ | ⟨a, l, c, zs, hcs, _, hl, hm, hz, _, hcell, hwz⟩
  · obtain rfl : v = .slice none 0 0 := by simpa using hcs
    exact ⟨none, 0, 0, [], rfl, rfl, by decide, .inl rfl, by simp⟩
  · obtain rfl : v = .slice (some a) l c := by simpa using hcs
    have hz' : zs.length = c := by simpa using hz
    refine ⟨some a, l, c, zs.take l, rfl, by simp; omega, by omega, reads_of_add fun i u hu => ?_, fun n hn => rng_of_wf (hwz n (List.mem_of_mem_take hn))⟩
    have hi : i < l := by have := (List.getElem?_eq_some_iff.1 hu).1; simp [ints] at this; omega
    rw [hcell i (by omega)]
    rw [← hu]
    simp [ints, hi, List.getElem?_eq_getElem (show i < zs.length by omega)]

theorem open_intsArg {H : Type} {enc : TypeId × Value → H} {W : World} {base : Nat} {v : Value} {d : DataW H} {p : List MemPlace}
    (hv : Value.okWide Tryd.prog W .any base 22 v) (h : DataW.Trod enc Tryd.prog W 0 (fun _ => true) true 22 v d p) :
    ∃ ao n cap xs, v = .slice ao n cap ∧ IntsArg W ao n cap xs := by
  obtain ⟨a0, len0, cap0, rfl⟩ := okWide_slice Tryd.underlying22 hv
  obtain ⟨fuel, hf⟩ := h
  exact intsArg_of_trod (by simpa [Value.cells] using hf)

end Go.Proofs.YtnhdngnolepkcaaDoor

/- What is known of a list of squares that comes in as an argument. No conditions. -/
namespace Go.Proofs.YtnhdngnolepkcaaDoor
set_option maxRecDepth 100000
open Go.ChangeShapes Go.WideShapes Go.ChangeAt Go.RowKit

/-- A list of squares that came in. -/
structure SqsArg (w : World) (ao : Option Addr) (n cap : Nat) (sqs : List (Int × List Int)) : Prop where
  len : sqs.length = n
  big : n ≤ maxLen
  reads : ReadsSq w ao sqs

theorem open_squaresArg {H : Type} {enc : TypeId × Value → H} {W : World} {base : Nat} {v : Value} {d : DataW H} {p : List MemPlace}
    (hv : Value.okWide Tryd.prog W .any base 26 v) (h : DataW.Trod enc Tryd.prog W 0 (fun _ => true) true 26 v d p) :
    ∃ ao n cap sqs, v = .slice ao n cap ∧ SqsArg W ao n cap sqs := by
  obtain ⟨a0, len0, cap0, rfl⟩ := okWide_slice Tryd.underlying26 hv
  obtain ⟨fuel, hf⟩ := h
  have hf' : DataW.trod enc Tryd.prog W 0 (fun _ => true) true fuel 26 [.slice a0 len0 cap0] = some (d, p) := by simpa [Value.cells] using hf
  rcases Go.Deep.open_slice_pairs Tryd.underlying26 Tryd.underlying54 (by kernel_rfl) rfl rfl (by kernel_rfl) (by kernel_rfl) hf' with ⟨hcs, _⟩ | ⟨a, len, cap, m, n, V0, V1, D0, D1, P0, P1, hcs, _, hl, hm, hmm, _, hr⟩
  · obtain ⟨rfl, rfl, rfl⟩ : a0 = none ∧ len0 = 0 ∧ cap0 = 0 := by simpa using hcs
    exact ⟨none, 0, 0, [], rfl, rfl, by decide, .inl rfl⟩
  · obtain ⟨rfl, rfl, rfl⟩ : a0 = some a ∧ len0 = len ∧ cap0 = cap := by simpa using hcs
    have hmm' : m = cap0 := by simpa using hmm
    have each : ∀ i, i < len0 → ∃ y : (Int × List Int) × Option Addr × Nat, V0 i = .int .i64 y.1.1 ∧ V1 i = .slice y.2.1 y.1.2.length y.2.2 ∧ Reads W y.2.1 (ints y.1.2) ∧ y.1.2.length ≤ maxLen := fun i hi => by
      obtain ⟨_, _, h0, h1⟩ := hr i (by omega)
      obtain ⟨z, e0, _, _⟩ := DataW.trod_int Tryd.underlying3 h0
      obtain ⟨ao, n, cap, xs, e1, hx⟩ := intsArg_of_trod h1
      refine ⟨((z, xs), ao, cap), by simpa using e0, by rw [e1, ← hx.len], hx.reads, by have := hx.big; have := hx.len; show xs.length ≤ _; omega⟩
    obtain ⟨y, hy⟩ := Go.Deep.choose_lt each
    have hat : ∀ j, j < len0 → sqAt ((List.range len0).map fun j => (y j).1) j = (y j).1 := fun j hj => by
      rw [sqAt_eq _ _ (by simpa using hj)]; simp
    refine ⟨some a, len0, cap0, (List.range len0).map fun j => (y j).1, rfl, by simp, by omega, ?_⟩
    by_cases hz : len0 = 0
    · subst hz; exact .inl rfl
    · have h0 := (hr 0 (by omega)).1
      rw [show a.add (0 * 2) = a by simp [Addr.add]] at h0
      have ha := spot_of_cell h0
      have hadd : ∀ j, a.add j = ⟨a.block, a.off + j, none⟩ := fun j => by unfold Addr.add; split <;> rename_i hj; (rw [hj]; exact ha); rfl
      refine .inr ⟨a.block, a.off, by rw [← ha], World.block_lt_of_cell? W a h0, fun j hj => ?_⟩
      have hj' : j < len0 := by simpa using hj
      obtain ⟨h1, h2, _, _⟩ := hr j (by omega)
      obtain ⟨e0, e1, e2, e3⟩ := hy j hj'
      rw [hadd, e0] at h1
      rw [hadd, e1] at h2
      rw [hat j hj']
      exact ⟨(y j).2.1, (y j).2.2, h1, by rw [Nat.add_assoc]; exact h2, e2, e3⟩

end Go.Proofs.YtnhdngnolepkcaaDoor
