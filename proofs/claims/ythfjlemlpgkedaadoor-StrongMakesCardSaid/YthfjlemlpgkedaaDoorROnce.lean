/- What parterreref2.once and LatinFault answer. No conditions. -/
import Derived.Test.YthfjlemlpgkedaaDoorLatin
import Derived.Test.YthfjlemlpgkedaaDoorBlk
import Derived.BigQuiet
import Derived.Deep.LoopGhost
import Derived.Deep.QuietTactic
namespace Go.Proofs.YthfjlemlpgkedaaDoor
open Go.RowKit
set_option linter.unusedVariables false

open Classical in
set_option maxHeartbeats 4000000 in
theorem refOnce_any (n : Nat) (ao : Option Addr) (len cap : Nat) (xs : List Int) (w : World) (h1 : 1 ≤ n) (h8 : n ≤ 8) (hl : xs.length = len) (h64 : len ≤ 64) (hr : Reads w ao (ints xs)) :
    Calls Tryd.prog 26 #[.int .i64 n, .slice ao len cap] w fun e w' => e = .returned (.bool (decide (Once n xs len))) ∧ Drawn w w' := by
  have HR := Lib.hid hr
  have HL := Lib.hid hl
  have hz : ((n : Int) == 0) = false := by rw [beq_eq_false_iff_ne]; omega
  clear hr hl
  go_enter Tryd.func26, Tryd.ntmps26
  go_wp2
  go_loopg [5] len (fun g x wr => ∃ i : Nat, i + g = len ∧ x = .int .i64 i ∧ Once n xs i ∧ Drawn w wr)
  case atStart => exact ⟨0, by omega, rfl, fun i j _ h => by omega, Drawn.refl _⟩
  case round =>
    obtain ⟨i, hig, rfl, hon, hd⟩ := hrel
    have HO := Lib.hid hon
    have HD := Lib.hid hd
    clear hon hd
    cases gk with
    | zero =>
      obtain rfl : i = len := by omega
      have HV : Hid (decide (Once n xs i) = true) := decide_eq_true HO.out
      go_wp2
      exact bodyPost_ret (v := .bool true) (by simp [results, Tryd.results26, go_sem]) rfl ⟨by rw [HV.out], HD.out⟩
    | succ g1 =>
      have hil : (i : Int) < (len : Int) := by omega
      obtain ⟨wo, rfl⟩ : ∃ wo : World, wo = wr := ⟨_, rfl⟩
      go_wp2
      go_loopg [6] i (fun g x wy => ∃ k : Nat, k + g = i ∧ x = .int .i64 k ∧ (∀ t, t < k → nth xs t = nth xs i → t / n ≠ i / n ∧ t % n ≠ i % n) ∧ Drawn wo wy)
      case atStart => exact ⟨0, by omega, rfl, fun t ht => by omega, Drawn.refl _⟩
      case round =>
        obtain ⟨k, hkg, rfl, hall, hd⟩ := hrel
        have HA := Lib.hid hall
        have HD1 := Lib.hid hd
        have HD2 := Lib.hid (HD.out.trans hd)
        clear hall hd
        cases gk with
        | zero =>
          obtain rfl : k = i := by omega
          go_wp2
          go_roundg g1
          case measure => omega
          case rel => exact ⟨k + 1, by omega, by go_num, HO.out.succ HA.out, HD2.out⟩
        | succ g2 =>
          have hki : (k : Int) < (i : Int) := by omega
          obtain ⟨b, off, rfl, hb, hc⟩ := HR.out.int (by rw [HL.out]; omega)
          have c1 := (HD2.out.cell _).trans (hc i (by rw [HL.out]; omega))
          have c2 := (HD2.out.cell _).trans (hc k (by rw [HL.out]; omega))
          have HAI := HA.out
          have HOB : Hid (∀ (h : nth xs k = nth xs i), (k / n = i / n ∨ k % n = i % n) → decide (Once n xs len) = false) := fun h h' => decide_eq_false fun ho => by
            have := ho k i (by omega) (by omega) h
            omega
          obtain ⟨x, hx⟩ : ∃ x, nth xs i = x := ⟨_, rfl⟩
          obtain ⟨y, hy⟩ : ∃ y, nth xs k = y := ⟨_, rfl⟩
          rw [hx] at c1 HOB
          rw [hy] at c2 HOB
          have HX := Lib.hid hx
          have HY := Lib.hid hy
          have e1 : (i : Int) / n = (i / n : Nat) := by simp
          have e2 : (k : Int) / n = (k / n : Nat) := by simp
          have e3 : (i : Int) % n = (i % n : Nat) := by simp
          have e4 : (k : Int) % n = (k % n : Nat) := by simp
          have HNX : Hid ((¬ (y = x ∧ (k / n = i / n ∨ k % n = i % n))) → ∀ t, t < k + 1 → nth xs t = nth xs i → t / n ≠ i / n ∧ t % n ≠ i % n) := fun hn t ht he => by
            rcases Nat.lt_succ_iff_lt_or_eq.1 ht with h | rfl
            · exact HA.out t h he
            · rw [HX.out, HY.out] at he
              exact ⟨fun h => hn ⟨he, .inl h⟩, fun h => hn ⟨he, .inr h⟩⟩
          have q1 : i / n ≤ i := Nat.div_le_self _ _
          have q2 : k / n ≤ k := Nat.div_le_self _ _
          have q3 : i % n ≤ i := Nat.mod_le _ _
          have q4 : k % n ≤ k := Nat.mod_le _ _
          obtain ⟨di, hdi⟩ : ∃ d, d = i / n := ⟨_, rfl⟩
          obtain ⟨dk, hdk⟩ : ∃ d, d = k / n := ⟨_, rfl⟩
          obtain ⟨mi, hmi⟩ : ∃ d, d = i % n := ⟨_, rfl⟩
          obtain ⟨mk, hmk⟩ : ∃ d, d = k % n := ⟨_, rfl⟩
          rw [← hdi] at e1 q1 HOB HNX
          rw [← hdk] at e2 q2 HOB HNX
          rw [← hmi] at e3 q3 HOB HNX
          rw [← hmk] at e4 q4 HOB HNX
          have HDI := Lib.hid hdi
          have HMI := Lib.hid hmi
          clear hc hx hy hdi hdk hmi hmk HAI
          by_cases hxy : x = y
          · have b1 : (x == y) = true := by rw [beq_iff_eq]; exact hxy
            by_cases hd : di = dk
            · have b2 : ((di : Int) == (dk : Int)) = true := by rw [beq_iff_eq]; omega
              have HF := Lib.hid (HOB.out hxy.symm (.inl hd.symm))
              clear hxy hd
              go_wp2_with fail
              go_quiet (fail)
              go_wp2
              exact bodyPost_ret (v := .bool false) (by simp [results, Tryd.results26, go_sem]) rfl ⟨by rw [HF.out], HD2.out.trans (Drawn.drewN _ _)⟩
            · have b2 : ((di : Int) == (dk : Int)) = false := by rw [beq_eq_false_iff_ne]; omega
              by_cases hm : mi = mk
              · have b3 : ((mi : Int) == (mk : Int)) = true := by rw [beq_iff_eq]; omega
                have HF := Lib.hid (HOB.out hxy.symm (.inr hm.symm))
                clear hxy hd hm
                go_wp2_with fail
                go_quiet (fail)
                go_wp2
                exact bodyPost_ret (v := .bool false) (by simp [results, Tryd.results26, go_sem]) rfl ⟨by rw [HF.out], HD2.out.trans (Drawn.drewN _ _)⟩
              · have b3 : ((mi : Int) == (mk : Int)) = false := by rw [beq_eq_false_iff_ne]; omega
                have HF := Lib.hid (HNX.out (fun h => h.2.elim (fun h => hd h.symm) (fun h => hm h.symm)))
                clear hxy hd hm
                go_wp2_with fail
                go_quiet (fail)
                go_wp2
                go_roundg g2
                case measure => omega
                case rel => exact ⟨k + 1, by omega, by go_num, by have h := HF.out; rw [HDI.out, HMI.out] at h; exact h, HD1.out.trans (Drawn.drewN _ _)⟩
          · have b1 : (x == y) = false := by rw [beq_eq_false_iff_ne]; exact hxy
            have HF := Lib.hid (HNX.out (fun h => hxy h.1.symm))
            clear hxy
            go_wp2_with fail
            go_quiet (fail)
            go_wp2
            go_roundg g2
            case measure => omega
            case rel => exact ⟨k + 1, by omega, by go_num, by have h := HF.out; rw [HDI.out, HMI.out] at h; exact h, HD1.out.trans (Drawn.drewN _ _)⟩

open Classical in
set_option maxHeartbeats 4000000 in
theorem refLatinFault_any (m : Int) (ao : Option Addr) (len cap : Nat) (xs : List Int) (w : World) (hl : xs.length = len) (hbig : len ≤ maxLen) (hr : Reads w ao (ints xs)) :
    Calls Tryd.prog 10 #[.agg #[.int .i64 m, .slice ao len cap]] w fun e w' => e = .returned (.int .i64 (latinFaultOf m xs)) ∧ Ext w w' := by
  have E0 := Lib.hid (ext_box w #[.int .i64 m, .slice ao len cap] 26)
  have F0 := Lib.hid (Blk.new w #[.int .i64 m, .slice ao len cap] 26)
  have k0 := F0.out.two
  unfold maxLen at hbig
  by_cases hm1 : m < 1
  · have HV : Hid (latinFaultOf m xs = 1) := by show _ = _; unfold latinFaultOf; rw [if_pos (.inl hm1)]
    have b1 : decide (m < 1) = true := decide_eq_true hm1
    clear hm1 hr hl
    go_enter Tryd.func10, Tryd.ntmps10
    go_wp2
    exact bodyPost_ret (v := .int .i64 1) (by simp [results, Tryd.results10, go_sem]) rfl ⟨by rw [HV.out], E0.out⟩
  by_cases hm8 : 8 < m
  · have HV : Hid (latinFaultOf m xs = 1) := by show _ = _; unfold latinFaultOf; rw [if_pos (.inr hm8)]
    have b1 : decide (m < 1) = false := decide_eq_false hm1
    have b2 : decide (8 < m) = true := decide_eq_true hm8
    clear hm1 hm8 hr hl
    go_enter Tryd.func10, Tryd.ntmps10
    go_wp2
    exact bodyPost_ret (v := .int .i64 1) (by simp [results, Tryd.results10, go_sem]) rfl ⟨by rw [HV.out], E0.out⟩
  obtain ⟨n, rfl⟩ : ∃ n : Nat, m = n := ⟨m.toNat, by omega⟩
  have h1 : 1 ≤ n := by omega
  have h8 : n ≤ 8 := by omega
  have hm1' : 0 ≤ (n : Int) * n := Int.mul_nonneg (by omega) (by omega)
  have hm2' : (n : Int) * n ≤ 8 * 8 := Int.mul_le_mul (by omega) (by omega) (by omega) (by omega)
  have HU : Hid (latinFaultOf n xs = if len ≠ n * n then 2 else if xs.any (badCell n) = true then 1 else if Once n xs (n * n) then 0 else 6) := by
    show _ = _; unfold latinFaultOf; rw [if_neg (by omega), Int.toNat_natCast, hl]
  by_cases hln : len = n * n
  · have h64 : len ≤ 64 := by rw [hln]; exact Nat.mul_le_mul h8 h8
    have b3 : ((len : Int) != (n : Int) * n) = false := by rw [hln, Int.natCast_mul]; simp
    rw [if_neg (fun h => h hln), ← hln] at HU
    have HON := Lib.hid (fun w' (h : Reads w' ao (ints xs)) => refOnce_any n ao len cap xs w' h1 h8 hl h64 h)
    have HR := Lib.hid hr
    have HL := Lib.hid hl
    have a1 : ¬ ((n : Int) < 1) := by omega
    have a2 : ¬ (8 < (n : Int)) := by omega
    clear hr hl hln hm1 hm8
    go_enter Tryd.func10, Tryd.ntmps10
    go_wp2
    obtain ⟨w0, hw0⟩ : ∃ w0, w0 = w.alloc (.cells #[.int .i64 n, .slice ao len cap] 26) := ⟨_, rfl⟩
    rw [← hw0] at E0 F0 ⊢
    obtain ⟨r, hr0⟩ : ∃ r, r = w.heap.size := ⟨_, rfl⟩
    rw [← hr0] at F0 ⊢
    clear hw0 hr0 k0
    go_loopg [3] len (fun g x wr => ∃ i : Nat, i + g = len ∧ x = .int .i64 i ∧ (∀ t, t < i → badCell n (nth xs t) = false) ∧ Drawn w0 wr)
    case atStart => exact ⟨0, by omega, rfl, fun t ht => by omega, Drawn.refl _⟩
    case round =>
      obtain ⟨i, hig, rfl, hall, hd⟩ := hrel
      have HA := Lib.hid hall
      have HD := Lib.hid hd
      have k0 := (F0.out.drawn hd).two
      clear hall hd
      cases gk with
      | zero =>
        obtain rfl : i = len := by omega
        have hany : xs.any (badCell n) = false := by
          rw [List.any_eq_false]
          intro x hx
          obtain ⟨t, ht, rfl⟩ := mem_nth xs x hx
          rw [HA.out t (by rw [HL.out] at ht; exact ht)]
          simp
        rw [hany, if_neg (by simp)] at HU
        have HO := Lib.hid (HON.out wr (E0.out.reads HR.out |>.below (HD.out.below w0.heap.size) (Nat.le_refl _)))
        clear hany
        by_cases ho : Once n xs i
        · rw [if_pos ho] at HU
          rw [decide_eq_true ho] at HO
          clear ho
          go_wp2_with fail
          refine Calls.mono HO.out ?_
          rintro e w2 ⟨rfl, hd2⟩
          have HD2 := Lib.hid (HD.out.trans hd2)
          clear hd2
          go_wp2
          exact bodyPost_ret (v := .int .i64 0) (by simp [results, Tryd.results10, go_sem]) rfl ⟨by rw [HU.out], E0.out.drawn HD2.out⟩
        · rw [if_neg ho] at HU
          rw [decide_eq_false ho] at HO
          clear ho
          go_wp2_with fail
          refine Calls.mono HO.out ?_
          rintro e w2 ⟨rfl, hd2⟩
          have HD2 := Lib.hid (HD.out.trans hd2)
          clear hd2
          go_wp2
          exact bodyPost_ret (v := .int .i64 6) (by simp [results, Tryd.results10, go_sem]) rfl ⟨by rw [HU.out], E0.out.drawn HD2.out⟩
      | succ g1 =>
        have hil : (i : Int) < (len : Int) := by omega
        obtain ⟨b, off, rfl, hb, hc⟩ := HR.out.int (by rw [HL.out]; omega)
        have c1 := ((HD.out.cell _).trans (E0.out.cell hb)).trans (hc i (by rw [HL.out]; omega))
        have HB : Hid (badCell n (nth xs i) = true → xs.any (badCell n) = true) := fun h => List.any_eq_true.2 ⟨_, nth_mem xs i (by rw [HL.out]; omega), h⟩
        have HNX : Hid (badCell n (nth xs i) = false → ∀ t, t < i + 1 → badCell n (nth xs t) = false) := fun h t ht => by
          rcases Nat.lt_succ_iff_lt_or_eq.1 ht with h' | rfl
          · exact HA.out t h'
          · exact h
        obtain ⟨x, hx⟩ : ∃ x, nth xs i = x := ⟨_, rfl⟩
        rw [hx] at c1 HB HNX
        clear hc hx
        by_cases h0 : x < 0
        · have b4 : decide (x < 0) = true := decide_eq_true h0
          have hbad : badCell n x = true := by unfold badCell; rw [b4]; rfl
          have hHV := HU.out
          rw [if_pos (HB.out hbad)] at hHV
          have HV := Lib.hid hHV
          clear h0 hbad hHV
          go_wp2_with fail
          go_quiet (fail)
          go_wp2
          exact bodyPost_ret (v := .int .i64 1) (by simp [results, Tryd.results10, go_sem]) rfl ⟨by rw [HV.out], E0.out.drawn (HD.out.trans (Drawn.drewN _ _))⟩
        · have b4 : decide (x < 0) = false := decide_eq_false h0
          by_cases h9 : (n : Int) ≤ x
          · have b5 : decide ((n : Int) ≤ x) = true := decide_eq_true h9
            have hbad : badCell n x = true := by unfold badCell; rw [b4, b5]; rfl
            have hHV := HU.out
            rw [if_pos (HB.out hbad)] at hHV
            have HV := Lib.hid hHV
            clear h0 h9 hbad hHV
            go_wp2_with fail
            go_quiet (fail)
            go_wp2
            exact bodyPost_ret (v := .int .i64 1) (by simp [results, Tryd.results10, go_sem]) rfl ⟨by rw [HV.out], E0.out.drawn (HD.out.trans (Drawn.drewN _ _))⟩
          · have b5 : decide ((n : Int) ≤ x) = false := decide_eq_false h9
            have HG := Lib.hid (HNX.out (by unfold badCell; rw [b4, b5]; rfl))
            clear h0 h9
            go_wp2_with fail
            go_quiet (fail)
            go_wp2
            go_roundg g1
            case measure => omega
            case rel => exact ⟨i + 1, by omega, by go_num, HG.out, HD.out.trans (Drawn.drewN _ _)⟩
  · have b3 : ((len : Int) != (n : Int) * n) = true := by rw [bne_iff_ne, ← Int.natCast_mul]; omega
    rw [if_pos hln] at HU
    have a1 : ¬ ((n : Int) < 1) := by omega
    have a2 : ¬ (8 < (n : Int)) := by omega
    clear hln hr hl hm1 hm8
    go_enter Tryd.func10, Tryd.ntmps10
    go_wp2
    exact bodyPost_ret (v := .int .i64 2) (by simp [results, Tryd.results10, go_sem]) rfl ⟨by rw [HU.out], E0.out⟩

end Go.Proofs.YthfjlemlpgkedaaDoor
