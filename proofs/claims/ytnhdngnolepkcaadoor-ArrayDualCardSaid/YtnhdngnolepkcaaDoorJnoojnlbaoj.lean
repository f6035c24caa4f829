/- What parterreref2.once and LatinFault answer. No conditions. -/
import Derived.Test.YtnhdngnolepkcaaDoorJhpippbikkf
import Derived.Test.YtnhdngnolepkcaaDoorJpoobehflpg
import Derived.BigQuiet
import Derived.Deep.LoopGhost
import Derived.Deep.QuietTactic
import Derived.Test.YtnhdngnolepkcaaDoorJoemioeblca
namespace Go.Proofs.YtnhdngnolepkcaaDoor
open Go.RowKit
set_option linter.unusedVariables false

open Classical in
set_option maxHeartbeats 4000000 in
theorem refOnce_any (n : Nat) (ao : Option Addr) (len cap : Nat) (xs : List Int) (w : World) (h1 : 1 ≤ n) (h8 : n ≤ 8) (hl : xs.length = len) (h64 : len ≤ 64) (hr : Reads w ao (ints xs)) :
    Calls Tryd.prog 52 #[.int .i64 n, .slice ao len cap] w fun e w' => e = .returned (.bool (decide (Once n xs len))) ∧ Drawn w w' := by
  have HR := Lib.hid hr
  have HL := Lib.hid hl
  have hz : ((n : Int) == 0) = false := by rw [beq_eq_false_iff_ne]; omega
  clear hr hl
  go_enter Tryd.func52, Tryd.ntmps52
  go_wp2
  go_loopg [5] len (fun g x wr => ∃ i : Nat, i + g = len ∧ x = .int .i64 i ∧ Once n xs i ∧ Drawn w wr)
  case atStart => exact ⟨0, by omega, rfl, fun i j _ h => by omega, Drawn.refl _⟩
  case round =>
    obtain ⟨i, hig, rfl, hon, hd⟩ := hrel
    have HO := Lib.hid hon
    have HD := Lib.hid hd
    clear hon hd
    cases gk with
    | zero =>
      obtain rfl : i = len := by omega
      have HV : Hid (decide (Once n xs i) = true) := decide_eq_true HO.out
      go_wp2
      exact bodyPost_ret (v := .bool true) (by simp [results, Tryd.results52, go_sem]) rfl ⟨by rw [HV.out], HD.out⟩
    | succ g1 =>
      have hil : (i : Int) < (len : Int) := by omega
      obtain ⟨wo, rfl⟩ : ∃ wo : World, wo = wr := ⟨_, rfl⟩
      go_wp2
      go_loopg [6] i (fun g x wy => ∃ k : Nat, k + g = i ∧ x = .int .i64 k ∧ (∀ t, t < k → nth xs t = nth xs i → t / n ≠ i / n ∧ t % n ≠ i % n) ∧ Drawn wo wy)
      case atStart => exact ⟨0, by omega, rfl, fun t ht => by omega, Drawn.refl _⟩
      case round =>
        obtain ⟨k, hkg, rfl, hall, hd⟩ := hrel
        have HA := Lib.hid hall
        have HD1 := Lib.hid hd
        have HD2 := Lib.hid (HD.out.trans hd)
        clear hall hd
        cases gk with
        | zero =>
          obtain rfl : k = i := by omega
          go_wp2
          go_roundg g1
          case measure => omega
          case rel => exact ⟨k + 1, by omega, by go_num, HO.out.succ HA.out, HD2.out⟩
        | succ g2 =>
          have hki : (k : Int) < (i : Int) := by omega
          obtain ⟨b, off, rfl, hb, hc⟩ := HR.out.int (by rw [HL.out]; omega)
          have c1 := (HD2.out.cell _).trans (hc i (by rw [HL.out]; omega))
          have c2 := (HD2.out.cell _).trans (hc k (by rw [HL.out]; omega))
          have HAI := HA.out
          have HOB : Hid (∀ (h : nth xs k = nth xs i), (k / n = i / n ∨ k % n = i % n) → decide (Once n xs len) = false) := fun h h' => decide_eq_false fun ho => by
            have := ho k i (by omega) (by omega) h
            omega
          obtain ⟨x, hx⟩ : ∃ x, nth xs i = x := ⟨_, rfl⟩
          obtain ⟨y, hy⟩ : ∃ y, nth xs k = y := ⟨_, rfl⟩
          rw [hx] at c1 HOB
          rw [hy] at c2 HOB
          have HX := Lib.hid hx
          have HY := Lib.hid hy
          have e1 : (i : Int) / n = (i / n : Nat) := by simp
          have e2 : (k : Int) / n = (k / n : Nat) := by simp
          have e3 : (i : Int) % n = (i % n : Nat) := by simp
          have e4 : (k : Int) % n = (k % n : Nat) := by simp
          have HNX : Hid ((¬ (y = x ∧ (k / n = i / n ∨ k % n = i % n))) → ∀ t, t < k + 1 → nth xs t = nth xs i → t / n ≠ i / n ∧ t % n ≠ i % n) := fun hn t ht he => by
            rcases Nat.lt_succ_iff_lt_or_eq.1 ht with h | rfl
            · exact HA.out t h he
            · rw [HX.out, HY.out] at he
              exact ⟨fun h => hn ⟨he, .inl h⟩, fun h => hn ⟨he, .inr h⟩⟩
          have q1 : i / n ≤ i := Nat.div_le_self _ _
          have q2 : k / n ≤ k := Nat.div_le_self _ _
          have q3 : i % n ≤ i := Nat.mod_le _ _
          have q4 : k % n ≤ k := Nat.mod_le _ _
          obtain ⟨di, hdi⟩ : ∃ d, d = i / n := ⟨_, rfl⟩
          obtain ⟨dk, hdk⟩ : ∃ d, d = k / n := ⟨_, rfl⟩
          obtain ⟨mi, hmi⟩ : ∃ d, d = i % n := ⟨_, rfl⟩
          obtain ⟨mk, hmk⟩ : ∃ d, d = k % n := ⟨_, rfl⟩
          rw [← hdi] at e1 q1 HOB HNX
          rw [← hdk] at e2 q2 HOB HNX
          rw [← hmi] at e3 q3 HOB HNX
          rw [← hmk] at e4 q4 HOB HNX
          have HDI := Lib.hid hdi
          have HMI := Lib.hid hmi
          clear hc hx hy hdi hdk hmi hmk HAI
          by_cases hxy : x = y
          · have b1 : (x == y) = true := by rw [beq_iff_eq]; exact hxy
            by_cases hd : di = dk
            · have b2 : ((di : Int) == (dk : Int)) = true := by rw [beq_iff_eq]; omega
              have HF := Lib.hid (HOB.out hxy.symm (.inl hd.symm))
              clear hxy hd
              go_wp2_with fail
              go_quiet (fail)
              go_wp2
              exact bodyPost_ret (v := .bool false) (by simp [results, Tryd.results52, go_sem]) rfl ⟨by rw [HF.out], HD2.out.trans (Drawn.drewN _ _)⟩
            · have b2 : ((di : Int) == (dk : Int)) = false := by rw [beq_eq_false_iff_ne]; omega
              by_cases hm : mi = mk
              · have b3 : ((mi : Int) == (mk : Int)) = true := by rw [beq_iff_eq]; omega
                have HF := Lib.hid (HOB.out hxy.symm (.inr hm.symm))
                clear hxy hd hm
                go_wp2_with fail
                go_quiet (fail)
                go_wp2
                exact bodyPost_ret (v := .bool false) (by simp [results, Tryd.results52, go_sem]) rfl ⟨by rw [HF.out], HD2.out.trans (Drawn.drewN _ _)⟩
              · have b3 : ((mi : Int) == (mk : Int)) = false := by rw [beq_eq_false_iff_ne]; omega
                have HF := Lib.hid (HNX.out (fun h => h.2.elim (fun h => hd h.symm) (fun h => hm h.symm)))
                clear hxy hd hm
                go_wp2_with fail
                go_quiet (fail)
                go_wp2
                go_roundg g2
                case measure => omega
                case rel => exact ⟨k + 1, by omega, by go_num, by have h := HF.out; rw [HDI.out, HMI.out] at h; exact h, HD1.out.trans (Drawn.drewN _ _)⟩
          · have b1 : (x == y) = false := by rw [beq_eq_false_iff_ne]; exact hxy
            have HF := Lib.hid (HNX.out (fun h => hxy h.1.symm))
            clear hxy
            go_wp2_with fail
            go_quiet (fail)
            go_wp2
            go_roundg g2
            case measure => omega
            case rel => exact ⟨k + 1, by omega, by go_num, by have h := HF.out; rw [HDI.out, HMI.out] at h; exact h, HD1.out.trans (Drawn.drewN _ _)⟩

open Classical in
set_option maxHeartbeats 4000000 in
theorem refLatinFault_any (m : Int) (ao : Option Addr) (len cap : Nat) (xs : List Int) (w : World) (hl : xs.length = len) (hbig : len ≤ maxLen) (hr : Reads w ao (ints xs)) :
    Calls Tryd.prog 30 #[.agg #[.int .i64 m, .slice ao len cap]] w fun e w' => e = .returned (.int .i64 (latinFaultOf m xs)) ∧ Ext w w' := by
  have E0 := Lib.hid (ext_box w #[.int .i64 m, .slice ao len cap] 54)
  have F0 := Lib.hid (Blk.new w #[.int .i64 m, .slice ao len cap] 54)
  have k0 := F0.out.two
  unfold maxLen at hbig
  by_cases hm1 : m < 1
  · have HV : Hid (latinFaultOf m xs = 1) := by show _ = _; unfold latinFaultOf; rw [if_pos (.inl hm1)]
    have b1 : decide (m < 1) = true := decide_eq_true hm1
    clear hm1 hr hl
    go_enter Tryd.func30, Tryd.ntmps30
    go_wp2
    exact bodyPost_ret (v := .int .i64 1) (by simp [results, Tryd.results30, go_sem]) rfl ⟨by rw [HV.out], E0.out⟩
  by_cases hm8 : 8 < m
  · have HV : Hid (latinFaultOf m xs = 1) := by show _ = _; unfold latinFaultOf; rw [if_pos (.inr hm8)]
    have b1 : decide (m < 1) = false := decide_eq_false hm1
    have b2 : decide (8 < m) = true := decide_eq_true hm8
    clear hm1 hm8 hr hl
    go_enter Tryd.func30, Tryd.ntmps30
    go_wp2
    exact bodyPost_ret (v := .int .i64 1) (by simp [results, Tryd.results30, go_sem]) rfl ⟨by rw [HV.out], E0.out⟩
  obtain ⟨n, rfl⟩ : ∃ n : Nat, m = n := ⟨m.toNat, by omega⟩
  have h1 : 1 ≤ n := by omega
  have h8 : n ≤ 8 := by omega
  have hm1' : 0 ≤ (n : Int) * n := Int.mul_nonneg (by omega) (by omega)
  have hm2' : (n : Int) * n ≤ 8 * 8 := Int.mul_le_mul (by omega) (by omega) (by omega) (by omega)
  have HU : Hid (latinFaultOf n xs = if len ≠ n * n then 2 else if xs.any (badCell n) = true then 1 else if Once n xs (n * n) then 0 else 6) := by
    show _ = _; unfold latinFaultOf; rw [if_neg (by omega), Int.toNat_natCast, hl]
  by_cases hln : len = n * n
  · have h64 : len ≤ 64 := by rw [hln]; exact Nat.mul_le_mul h8 h8
    have b3 : ((len : Int) != (n : Int) * n) = false := by rw [hln, Int.natCast_mul]; simp
    rw [if_neg (fun h => h hln), ← hln] at HU
    have HON := Lib.hid (fun w' (h : Reads w' ao (ints xs)) => refOnce_any n ao len cap xs w' h1 h8 hl h64 h)
    have HR := Lib.hid hr
    have HL := Lib.hid hl
    have a1 : ¬ ((n : Int) < 1) := by omega
    have a2 : ¬ (8 < (n : Int)) := by omega
    clear hr hl hln hm1 hm8
    go_enter Tryd.func30, Tryd.ntmps30
    go_wp2
    obtain ⟨w0, hw0⟩ : ∃ w0, w0 = w.alloc (.cells #[.int .i64 n, .slice ao len cap] 54) := ⟨_, rfl⟩
    rw [← hw0] at E0 F0 ⊢
    obtain ⟨r, hr0⟩ : ∃ r, r = w.heap.size := ⟨_, rfl⟩
    rw [← hr0] at F0 ⊢
    clear hw0 hr0 k0
    go_loopg [3] len (fun g x wr => ∃ i : Nat, i + g = len ∧ x = .int .i64 i ∧ (∀ t, t < i → badCell n (nth xs t) = false) ∧ Drawn w0 wr)
    case atStart => exact ⟨0, by omega, rfl, fun t ht => by omega, Drawn.refl _⟩
    case round =>
      obtain ⟨i, hig, rfl, hall, hd⟩ := hrel
      have HA := Lib.hid hall
      have HD := Lib.hid hd
      have k0 := (F0.out.drawn hd).two
      clear hall hd
      cases gk with
      | zero =>
        obtain rfl : i = len := by omega
        have hany : xs.any (badCell n) = false := by
          rw [List.any_eq_false]
          intro x hx
          obtain ⟨t, ht, rfl⟩ := mem_nth xs x hx
          rw [HA.out t (by rw [HL.out] at ht; exact ht)]
          simp
        rw [hany, if_neg (by simp)] at HU
        have HO := Lib.hid (HON.out wr (E0.out.reads HR.out |>.below (HD.out.below w0.heap.size) (Nat.le_refl _)))
        clear hany
        by_cases ho : Once n xs i
        · rw [if_pos ho] at HU
          rw [decide_eq_true ho] at HO
          clear ho
          go_wp2_with fail
          refine Calls.mono HO.out ?_
          rintro e w2 ⟨rfl, hd2⟩
          have HD2 := Lib.hid (HD.out.trans hd2)
          clear hd2
          go_wp2
          exact bodyPost_ret (v := .int .i64 0) (by simp [results, Tryd.results30, go_sem]) rfl ⟨by rw [HU.out], E0.out.drawn HD2.out⟩
        · rw [if_neg ho] at HU
          rw [decide_eq_false ho] at HO
          clear ho
          go_wp2_with fail
          refine Calls.mono HO.out ?_
          rintro e w2 ⟨rfl, hd2⟩
          have HD2 := Lib.hid (HD.out.trans hd2)
          clear hd2
          go_wp2
          exact bodyPost_ret (v := .int .i64 6) (by simp [results, Tryd.results30, go_sem]) rfl ⟨by rw [HU.out], E0.out.drawn HD2.out⟩
      | succ g1 =>
        have hil : (i : Int) < (len : Int) := by omega
        obtain ⟨b, off, rfl, hb, hc⟩ := HR.out.int (by rw [HL.out]; omega)
        have c1 := ((HD.out.cell _).trans (E0.out.cell hb)).trans (hc i (by rw [HL.out]; omega))
        have HB : Hid (badCell n (nth xs i) = true → xs.any (badCell n) = true) := fun h => List.any_eq_true.2 ⟨_, nth_mem xs i (by rw [HL.out]; omega), h⟩
        have HNX : Hid (badCell n (nth xs i) = false → ∀ t, t < i + 1 → badCell n (nth xs t) = false) := fun h t ht => by
          rcases Nat.lt_succ_iff_lt_or_eq.1 ht with h' | rfl
          · exact HA.out t h'
          · exact h
        obtain ⟨x, hx⟩ : ∃ x, nth xs i = x := ⟨_, rfl⟩
        rw [hx] at c1 HB HNX
        clear hc hx
        by_cases h0 : x < 0
        · have b4 : decide (x < 0) = true := decide_eq_true h0
          have hbad : badCell n x = true := by unfold badCell; rw [b4]; rfl
          have hHV := HU.out
          rw [if_pos (HB.out hbad)] at hHV
          have HV := Lib.hid hHV
          clear h0 hbad hHV
          go_wp2_with fail
          go_quiet (fail)
          go_wp2
          exact bodyPost_ret (v := .int .i64 1) (by simp [results, Tryd.results30, go_sem]) rfl ⟨by rw [HV.out], E0.out.drawn (HD.out.trans (Drawn.drewN _ _))⟩
        · have b4 : decide (x < 0) = false := decide_eq_false h0
          by_cases h9 : (n : Int) ≤ x
          · have b5 : decide ((n : Int) ≤ x) = true := decide_eq_true h9
            have hbad : badCell n x = true := by unfold badCell; rw [b4, b5]; rfl
            have hHV := HU.out
            rw [if_pos (HB.out hbad)] at hHV
            have HV := Lib.hid hHV
            clear h0 h9 hbad hHV
            go_wp2_with fail
            go_quiet (fail)
            go_wp2
            exact bodyPost_ret (v := .int .i64 1) (by simp [results, Tryd.results30, go_sem]) rfl ⟨by rw [HV.out], E0.out.drawn (HD.out.trans (Drawn.drewN _ _))⟩
          · have b5 : decide ((n : Int) ≤ x) = false := decide_eq_false h9
            have HG := Lib.hid (HNX.out (by unfold badCell; rw [b4, b5]; rfl))
            clear h0 h9
            go_wp2_with fail
            go_quiet (fail)
            go_wp2
            go_roundg g1
            case measure => omega
            case rel => exact ⟨i + 1, by omega, by go_num, HG.out, HD.out.trans (Drawn.drewN _ _)⟩
  · have b3 : ((len : Int) != (n : Int) * n) = true := by rw [bne_iff_ne, ← Int.natCast_mul]; omega
    rw [if_pos hln] at HU
    have a1 : ¬ ((n : Int) < 1) := by omega
    have a2 : ¬ (8 < (n : Int)) := by omega
    clear hln hr hl hm1 hm8
    go_enter Tryd.func30, Tryd.ntmps30
    go_wp2
    exact bodyPost_ret (v := .int .i64 2) (by simp [results, Tryd.results30, go_sem]) rfl ⟨by rw [HU.out], E0.out⟩

end Go.Proofs.YtnhdngnolepkcaaDoor

/- What parterreref3.SquaresRuns answers at any list of squares. -/
namespace Go.Proofs.YtnhdngnolepkcaaDoor
open Go.RowKit
set_option linter.unusedVariables false

set_option maxHeartbeats 1000000 in
theorem refSquares_many (ao : Option Addr) (n cap : Nat) (sqs : List (Int × List Int)) (w : World) (hl : sqs.length = n) (hbig : n ≤ maxLen) (hn : n = 0 ∨ 6 < n) :
    Calls Tryd.prog 12 #[.slice ao n cap] w fun e w' => SqPost sqs w w' e ∧ Ext w w' := by
  unfold maxLen at hbig
  have HP : Hid (SqIs sqs 3) := .inl ⟨by omega, rfl⟩
  clear hl
  rcases hn with rfl | hn
  · go_enter Tryd.func12, Tryd.ntmps12
    go_wp2
    exact bodyPost_ret (v := .tuple #[.slice none 0 0, .int .i64 3]) (by simp [results, Tryd.results12, go_sem]) rfl ⟨⟨_, 3, rfl, HP.out, fun _ => rfl, fun _ h => by cases h⟩, Ext.refl _⟩
  · have b0 : ((n : Int) == 0) = false := by rw [beq_eq_false_iff_ne]; omega
    have b1 : decide (6 < (n : Int)) = true := decide_eq_true (by omega)
    go_enter Tryd.func12, Tryd.ntmps12
    go_wp2
    exact bodyPost_ret (v := .tuple #[.slice none 0 0, .int .i64 3]) (by simp [results, Tryd.results12, go_sem]) rfl ⟨⟨_, 3, rfl, HP.out, fun _ => rfl, fun _ h => by cases h⟩, Ext.refl _⟩

set_option maxHeartbeats 4000000 in
set_option maxRecDepth 100000 in
theorem refSquares_some (ao : Option Addr) (n cap : Nat) (sqs : List (Int × List Int)) (w : World) (hl : sqs.length = n) (h1 : 1 ≤ n) (h6 : n ≤ 6) (hr : ReadsSq w ao sqs) :
    Calls Tryd.prog 12 #[.slice ao n cap] w fun e w' => SqPost sqs w w' e ∧ Ext w w' := by
  rcases hr with h0 | ⟨b, off, rfl, hb, hc⟩
  · rw [h0] at hl; simp at hl; omega
  have HL := Lib.hid hl
  have HC := Lib.hid hc
  have b0 : ((n : Int) == 0) = false := by rw [beq_eq_false_iff_ne]; omega
  have b1 : decide (6 < (n : Int)) = false := decide_eq_false (by omega)
  obtain ⟨z, hz⟩ : ∃ z, (sqAt sqs 0).1 = z := ⟨_, rfl⟩
  have HZ := Lib.hid hz
  clear hl hc hz
  go_enter Tryd.func12, Tryd.ntmps12
  go_wp2
  go_loopg [4] n (fun r a wr => ∃ k : Nat, k + r = n ∧ a = .int .i64 k ∧ Ext w wr ∧ Hid (∀ i, i < k → sqFault sqs i = 0))
  case atStart => exact ⟨0, by omega, rfl, Ext.refl _, fun i h => by omega⟩
  case round =>
    obtain ⟨k, hk, rfl, hx, HA⟩ := hrel
    have HX := Lib.hid hx
    clear hx
    cases gk with
    | succ r1 =>
      have hkl : (k : Int) < (n : Int) := by omega
      have hlt : k < n := by omega
      obtain ⟨a, c, k1, k2, r1', l1⟩ := HC.out k (by rw [HL.out]; exact hlt)
      rw [← HX.out.cell hb] at k1 k2
      have HLC := Lib.hid (refLatinFault_any (sqAt sqs k).1 a _ c (sqAt sqs k).2 wr rfl l1 (HX.out.reads r1'))
      obtain ⟨f, hf⟩ : ∃ f, latinFaultOf (sqAt sqs k).1 (sqAt sqs k).2 = f := ⟨_, rfl⟩
      have HF : Hid (sqFault sqs k = f) := hf
      rw [hf] at HLC
      obtain ⟨m, hm⟩ : ∃ m, (sqAt sqs k).1 = m := ⟨_, rfl⟩
      obtain ⟨l, hll⟩ : ∃ l, (sqAt sqs k).2.length = l := ⟨_, rfl⟩
      rw [hm] at k1 HLC
      rw [hll] at k2 HLC
      clear r1' l1 hf hm hll
      go_wp2_with fail
      refine Calls.mono HLC.out ?_
      rintro e w1 ⟨rfl, hx⟩
      have HX2 := Lib.hid (HX.out.trans hx)
      clear hx k1 k2
      by_cases hf0 : f = 0
      · subst hf0
        go_wp2
        go_roundg r1
        case measure => omega
        case rel => exact ⟨k + 1, by omega, by go_num, HX2.out, fun i hi => by
          rcases Nat.lt_succ_iff_lt_or_eq.1 hi with h | rfl
          · exact HA.out i h
          · exact HF.out⟩
      · have b2 : (f != 0) = true := by rw [bne_iff_ne]; exact hf0
        have HF0 := Lib.hid hf0
        clear hf0
        go_wp2
        exact bodyPost_ret (v := .tuple #[.slice none 0 0, .int .i64 f]) (by simp [results, Tryd.results12, go_sem]) rfl ⟨⟨_, f, rfl, .inr (.inl ⟨by rw [HL.out]; exact h1, by rw [HL.out]; exact h6, k, by rw [HL.out]; exact hlt, HA.out, HF.out, HF0.out⟩), fun _ => rfl, fun _ h => absurd h HF0.out⟩, HX2.out⟩
    | zero =>
      obtain rfl : n = k := by omega
      obtain ⟨a, c, k1, _, _, _⟩ := HC.out 0 (by rw [HL.out]; omega)
      rw [← HX.out.cell hb, HZ.out, Nat.zero_mul, Nat.add_zero] at k1
      obtain ⟨w1, rfl⟩ : ∃ w1 : World, w1 = wr := ⟨_, rfl⟩
      go_wp2
      go_loopg [7] n (fun r a wr => ∃ k : Nat, k + r = n ∧ a = .int .i64 k ∧ w1 = wr ∧ Hid (∀ i, i < k → (sqAt sqs i).1 = z))
      case atStart => exact ⟨0, by omega, rfl, rfl, fun i h => by omega⟩
      case round =>
        obtain ⟨k, hk, rfl, rfl, HS1⟩ := hrel
        cases gk with
        | succ r1 =>
          have hkl : (k : Int) < (n : Int) := by omega
          have hlt : k < n := by omega
          obtain ⟨a, c, k2, _, _, _⟩ := HC.out k (by rw [HL.out]; exact hlt)
          rw [← HX.out.cell hb] at k2
          obtain ⟨y, hy⟩ : ∃ y, (sqAt sqs k).1 = y := ⟨_, rfl⟩
          rw [hy] at k2
          have HY := Lib.hid hy
          clear hy
          by_cases hyz : y = z
          · have b2 : (y != z) = false := by subst hyz; simp
            have HYZ := Lib.hid hyz
            clear hyz
            go_wp2
            go_roundg r1
            case measure => omega
            case rel => exact ⟨k + 1, by omega, by go_num, rfl, fun i hi => by
              rcases Nat.lt_succ_iff_lt_or_eq.1 hi with h | rfl
              · exact HS1.out i h
              · exact HY.out.trans HYZ.out⟩
          · have b2 : (y != z) = true := by rw [bne_iff_ne]; exact hyz
            have HP : Hid (SqIs sqs 2) := .inr (.inr (.inl ⟨by rw [HL.out]; exact h1, by rw [HL.out]; exact h6, fun i hi => HA.out i (by rw [HL.out] at hi; exact hi), List.any_eq_true.2 ⟨sqs[k]'(by rw [HL.out]; exact hlt), List.getElem_mem _, by rw [← sqAt_eq, HY.out, HZ.out]; exact b2⟩, rfl⟩))
            clear hyz
            go_wp2
            exact bodyPost_ret (v := .tuple #[.slice none 0 0, .int .i64 2]) (by simp [results, Tryd.results12, go_sem]) rfl ⟨⟨_, 2, rfl, HP.out, fun _ => rfl, fun _ h => by cases h⟩, HX.out⟩
        | zero =>
          obtain rfl : n = k := by omega
          have HP : Hid (SqIs sqs 0) := .inr (.inr (.inr ⟨by rw [HL.out]; exact h1, by rw [HL.out]; exact h6, fun i hi => HA.out i (by rw [HL.out] at hi; exact hi), List.any_eq_false.2 (fun x hx => by
            obtain ⟨i, hi, rfl⟩ := List.mem_iff_getElem.1 hx
            rw [← sqAt_eq, HS1.out i (by rw [← HL.out]; exact hi), HZ.out]; simp), rfl⟩))
          obtain ⟨N, hS⟩ := HP.out.zero
          have HS := Lib.hid hS
          obtain rfl : z = (N : Int) := by rw [← HZ.out]; exact hS.side 0 (by rw [HL.out]; exact h1)
          have hL0 := hS.latin 0 (by rw [HL.out]; exact h1)
          have hN1 := hL0.one
          have hN8 := hL0.big
          clear hS hL0 k1
          have H0 : Hid (OwnTbl w1 w1 (.slice none 0 0) (runsUp N sqs 0)) := OwnTbl.nil (Ext.refl w1)
          have HSZ := HX.out.size
          go_wp2
          go_loopg [8, 9] N (fun r y x wr => ∃ i : Nat, i + r = N ∧ x = .int .i64 i ∧ OwnTbl w1 wr y (runsUp N sqs (i * N)))
          case atStart => exact ⟨0, by omega, rfl, by rw [Nat.zero_mul]; exact H0.out⟩
          case round =>
            obtain ⟨i, hiN, rfl, hT⟩ := hrel
            have HT := Lib.hid hT
            clear H0 hT
            cases gk with
            | zero =>
              obtain rfl : N = i := by omega
              obtain ⟨ao2, n2, cap2, e2, htb, hx⟩ := HT.out
              subst e2
              have HTB := Lib.hid htb
              have HXT := Lib.hid hx
              clear htb hx
              go_wp2
              exact bodyPost_ret (v := .tuple #[.slice ao2 n2 cap2, .int .i64 0]) (by simp [results, Tryd.results12, go_sem]) rfl ⟨⟨_, 0, rfl, HP.out, fun h => absurd rfl h, fun N' _ hS' => by
                obtain rfl : N' = N := by have h3 := hS'.side 0 (by rw [HL.out]; exact h1); have h2 := HS.out.side 0 (by rw [HL.out]; exact h1); omega
                rw [← runsUp_all]
                exact OwnTbl.back HX.out ⟨_, _, _, rfl, HTB.out, HXT.out⟩⟩, HX.out.trans HXT.out⟩
            | succ r1 =>
              have hil : (i : Int) < (N : Int) := by omega
              have hil' : i < N := by omega
              have HIR : Hid (i + 1 + r1 = N) := by show _ = _; omega
              obtain ⟨u, hu⟩ : ∃ u, u = i * N := ⟨_, rfl⟩
              have hu' : (i : Int) * (N : Int) = u := by rw [hu, Int.natCast_mul]
              have hu64 : u + N ≤ 64 := by
                have : (i + 1) * N ≤ 8 * 8 := Nat.mul_le_mul (by omega) hN8
                rw [Nat.succ_mul] at this; omega
              have HU := Lib.hid hu
              rw [← hu] at HT
              clear hu
              obtain ⟨wa, rfl⟩ : ∃ wa : World, wa = wr := ⟨_, rfl⟩
              go_wp2
              go_loopg [8, 10] N (fun r y x wr => ∃ j : Nat, j + r = N ∧ x = .int .i64 j ∧ OwnTbl w1 wr y (runsUp N sqs (u + j)))
              case atStart => exact ⟨0, by omega, rfl, HT.out⟩
              case round =>
                obtain ⟨j, hjN, rfl, hT⟩ := hrel
                obtain ⟨ao2, n2, cap2, rfl, htb, hx⟩ := hT
                have hn2 : n2 ≤ u + j := by rw [← htb.length]; simp [runsUp]
                have HTB := Lib.hid htb
                have HXT := Lib.hid hx
                clear htb hx HT
                cases gk with
                | zero =>
                  obtain rfl : N = j := by omega
                  go_wp2
                  go_roundg r1
                  case measure => omega
                  case rel => exact ⟨i + 1, HIR.out, by go_num, by rw [Nat.succ_mul, ← HU.out]; exact ⟨_, _, _, rfl, HTB.out, HXT.out⟩⟩
                | succ r2 =>
                  have hjl : (j : Int) < (N : Int) := by omega
                  have hjl' : j < N := by omega
                  have HJR : Hid (j + 1 + r2 = N) := by show _ = _; omega
                  have HRU : Hid (runUp N sqs (u + j) 0 = [(i : Int), (j : Int)]) := by
                    show _ = _
                    have e1 : (u + j) / N = i := by rw [HU.out, Nat.mul_comm, Nat.mul_add_div hN1, Nat.div_eq_of_lt hjl', Nat.add_zero]
                    have e2 : (u + j) % N = j := by rw [HU.out, Nat.mul_comm, Nat.mul_add_mod, Nat.mod_eq_of_lt hjl']
                    unfold runUp; rw [e1, e2]; rfl
                  have HI0 : Hid (OwnInts wr (wr.alloc (.cells #[.int .i64 i, .int .i64 j] 3)) (.slice (some ⟨wr.heap.size, 0, none⟩) 2 2) (runUp N sqs (u + j) 0)) := by
                    rw [HRU.out]
                    exact ⟨_, _, _, rfl, RowOf.lit _ wr #[.int .i64 i, .int .i64 j] (by simp [maxLen]), (Ext.refl wr).alloc _⟩
                  obtain ⟨wo, rfl⟩ : ∃ wo : World, wo = wr := ⟨_, rfl⟩
                  go_wp2
                  go_loopg [11, 12] n (fun r y x wr => ∃ q : Nat, q + r = n ∧ x = .int .i64 q ∧ OwnInts wo wr y (runUp N sqs (u + j) q))
                  case atStart => exact ⟨0, by omega, rfl, HI0.out⟩
                  case round =>
                    obtain ⟨q, hqn, rfl, hI⟩ := hrel
                    clear HI0
                    obtain ⟨ao3, n3, cap3, rfl, hrow, hx⟩ := hI
                    have hn3 : n3 ≤ q + 2 := by have := hrow.length; rw [ints_length, runUp_len N sqs (u + j) q (by rw [HL.out]; omega)] at this; omega
                    have HROW := Lib.hid hrow
                    have HXI := Lib.hid hx
                    have hsz1 := HXT.out.size
                    have hsz2 := hx.size
                    clear hrow hx
                    cases gk with
                    | succ r3 =>
                      have hql : (q : Int) < (n : Int) := by omega
                      have hql' : q < n := by omega
                      obtain ⟨a, c, k1, k2, r1', l1⟩ := HC.out q (by rw [HL.out]; exact hql')
                      have HXX := Lib.hid ((HX.out.trans HXT.out).trans HXI.out)
                      have hlen := (HS.out.latin q (by rw [HL.out]; exact hql')).len
                      have huj : u + j < N * N := by
                        have : (i + 1) * N ≤ N * N := Nat.mul_le_mul_right N hil'
                        have h := HU.out
                        rw [Nat.succ_mul] at this; omega
                      obtain ⟨b3, o3, rfl, hb3, hc3⟩ := Reads.int r1' (by rw [hlen]; omega)
                      have k3 := (HXX.out.cell hb3).trans (hc3 (u + j) (by rw [hlen]; exact huj))
                      rw [← HXX.out.cell hb] at k2
                      have HRS : Hid (runUp N sqs (u + j) (q + 1) = runUp N sqs (u + j) q ++ [nth (sqAt sqs q).2 (u + j)]) := runUp_succ (by rw [HL.out]; exact hql')
                      obtain ⟨x, hx⟩ : ∃ x, nth (sqAt sqs q).2 (u + j) = x := ⟨_, rfl⟩
                      rw [hx] at k3 HRS
                      obtain ⟨M, hM⟩ : ∃ M, N * N = M := ⟨_, rfl⟩
                      rw [hlen, hM] at k2
                      rw [hM] at huj
                      have hlb : b3 < wr.heap.size := Nat.lt_of_lt_of_le hb3 HXX.out.size
                      clear hx hc3 r1' l1 hlen hM k1
                      go_wp2_with (at_builtin; refine wpList_app eInt rfl (.tmp 71) (.tmp 84) rfl wo.heap.size _ _ _ _ (by rfl) (((Ext.refl wr).alloc _).row HROW.out) ⟨wr.heap.size, 0, none⟩ (.int .i64 x) (by rfl) (by rw [World.cell?_alloc_at _ _ _ _ (by simp)]; rfl) rfl (by omega) (by simp; omega) ?_; intro ao4 cap4 w4 hr4 hg4 hb4; have HR4 := Lib.hid hr4; have HB4 := Lib.hid (hb4 _ _ (HXI.out.alloc (.cells #[.int .i64 x] 3)) (Nat.le_refl _)); clear hr4 hg4 hb4)
                      go_roundg r3
                      case measure => omega
                      case rel => exact ⟨q + 1, by omega, by go_num, by rw [HRS.out]; exact ⟨_, _, _, rfl, by rw [ints_append]; exact HR4.out, HB4.out⟩⟩
                    | zero =>
                      obtain rfl : n = q := by omega
                      have HRW : Hid (InnerX wr (fun b => w1.heap.size ≤ b) (Value.slice ao2 n2 cap2).ownBlock (.slice ao3 n3 cap3) (runUp N sqs (u + j) n)) := HROW.out.innerX _ _ (fun b hb => by omega) (fun b hb => (HTB.out.block b hb).2) (by unfold maxLen; omega)
                      have HRS := Lib.hid (runsUp_succ N sqs (u + j))
                      rw [HL.out] at HRS
                      go_wp2_with (at_builtin; (refine wpList_appRow (w := wr) rfl (.tmp 86) (.tmp 88) rfl (fun b => w1.heap.size ≤ b) w1.heap.size (by rfl) (HTB.out.ext HXI.out) (by rfl) HRW.out (by omega) (by omega) ?_; intro ao4 cap4 w4 hr4 hg4 hb4; have HR4 := Lib.hid hr4; have HB4 := Lib.hid (hb4 _ _ (HXT.out.trans HXI.out) (Nat.le_refl _)); clear hr4 hg4 hb4))
                      go_roundg r2
                      case measure => omega
                      case rel => exact ⟨j + 1, HJR.out, by go_num, by rw [show u + (j + 1) = u + j + 1 from rfl, HRS.out]; exact ⟨_, _, _, rfl, HR4.out, HB4.out⟩⟩

end Go.Proofs.YtnhdngnolepkcaaDoor

/- The runs of a list of squares, as both sides answer. -/
namespace Go.Proofs.YtnhdngnolepkcaaDoor
open Go.RowKit

noncomputable def sqRows (sqs : List (Int × List Int)) (c : Int) : List (List Int) :=
  @dite _ (c = 0 ∧ ∃ n, AreSq n sqs) (Classical.propDecidable _) (fun h => runsOf (Classical.choose h.2) (sqs.map (·.2))) (fun _ => [])
theorem sqRows_len (sqs : List (Int × List Int)) (c : Int) : (sqRows sqs c).length ≤ 64 := by
  unfold sqRows
  split
  · rename_i h
    have hS := Classical.choose_spec h.2
    have h8 := (hS.latin 0 hS.one).big
    unfold runsOf
    rw [List.length_map, List.length_range]
    exact Nat.mul_le_mul h8 h8
  · simp
theorem SqPost.rows {sqs : List (Int × List Int)} {w w' : World} {e : Ending} (h : SqPost sqs w w' e) : ∃ (c : Int) (oo : Option Addr) (on oc : Nat), e = .returned (.tuple #[.slice oo on oc, .int .i64 c]) ∧ SqIs sqs c ∧ ReadsL w' oo (sqRows sqs c) ∧ (sqRows sqs c).length = on := by
  obtain ⟨v, c, rfl, h1, h2, h3⟩ := h
  by_cases hc : c = 0
  · obtain ⟨N, hS⟩ := (hc ▸ h1 : SqIs sqs 0).zero
    have he : ∃ n, AreSq n sqs := ⟨N, hS⟩
    have e : sqRows sqs c = runsOf (Classical.choose he) (sqs.map (·.2)) := by unfold sqRows; rw [dif_pos ⟨hc, he⟩]
    obtain ⟨ao, n, cap, rfl, ht, _⟩ := h3 _ hc (Classical.choose_spec he)
    exact ⟨c, ao, n, cap, rfl, h1, by rw [e]; exact ht.readsL, by rw [e]; exact ht.length⟩
  · have e : sqRows sqs c = [] := by unfold sqRows; rw [dif_neg fun h => hc h.1]
    rw [h2 hc]
    exact ⟨c, none, 0, 0, rfl, h1, by rw [e]; exact ReadsL.nil _ _, by rw [e]; rfl⟩

theorem arraySquares_all (ao : Option Addr) (n cap : Nat) (sqs : List (Int × List Int)) (w : World) (hl : sqs.length = n) (hbig : n ≤ maxLen) (hr : ReadsSq w ao sqs) :
    Calls Tryd.prog 11 #[.slice ao n cap] w fun e w' => ∃ (c : Int) (oo : Option Addr) (on oc : Nat), e = .returned (.tuple #[.slice oo on oc, .int .i64 c]) ∧ SqIs sqs c ∧ ReadsL w' oo (sqRows sqs c) ∧ (sqRows sqs c).length = on ∧ Ext w w' := by
  have h : Calls Tryd.prog 11 #[.slice ao n cap] w fun e w' => SqPost sqs w w' e ∧ Ext w w' := by
    by_cases h0 : 1 ≤ n ∧ n ≤ 6
    · exact arraySquares_some ao n cap sqs w hl h0.1 h0.2 hr
    · exact arraySquares_many ao n cap sqs w hl hbig (by omega)
  refine h.mono fun e w' ⟨h1, h2⟩ => ?_
  obtain ⟨c, oo, on, oc, h3, h4, h5, h6⟩ := h1.rows
  exact ⟨c, oo, on, oc, h3, h4, h5, h6, h2⟩
theorem refSquares_all (ao : Option Addr) (n cap : Nat) (sqs : List (Int × List Int)) (w : World) (hl : sqs.length = n) (hbig : n ≤ maxLen) (hr : ReadsSq w ao sqs) :
    Calls Tryd.prog 12 #[.slice ao n cap] w fun e w' => ∃ (c : Int) (oo : Option Addr) (on oc : Nat), e = .returned (.tuple #[.slice oo on oc, .int .i64 c]) ∧ SqIs sqs c ∧ ReadsL w' oo (sqRows sqs c) ∧ (sqRows sqs c).length = on ∧ Ext w w' := by
  have h : Calls Tryd.prog 12 #[.slice ao n cap] w fun e w' => SqPost sqs w w' e ∧ Ext w w' := by
    by_cases h0 : 1 ≤ n ∧ n ≤ 6
    · exact refSquares_some ao n cap sqs w hl h0.1 h0.2 hr
    · exact refSquares_many ao n cap sqs w hl hbig (by omega)
  refine h.mono fun e w' ⟨h1, h2⟩ => ?_
  obtain ⟨c, oo, on, oc, h3, h4, h5, h6⟩ := h1.rows
  exact ⟨c, oo, on, oc, h3, h4, h5, h6, h2⟩

end Go.Proofs.YtnhdngnolepkcaaDoor
