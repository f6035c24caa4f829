/- What parterreref1.Ints answers: are two lists the same? Conditions: both can be read. -/
import Derived.Test.YtnhdngnolepkcaaDoorJpoobehflpg
import Derived.Test.YtnhdngnolepkcaaDoorJnoojnlbaoj
import Derived.Test.YtnhdngnolepkcaaDoorJmanplccnef
namespace Go.Proofs.YtnhdngnolepkcaaDoor
open Go.RowKit

set_option maxHeartbeats 400000 in
theorem ints_yes (ao bo : Option Addr) (n cap cap' : Nat) (xs : List Int) (w : World) (hx : xs.length = n) (hbig : n ≤ maxLen) (ra : Reads w ao (ints xs)) (rb : Reads w bo (ints xs)) :
    Calls Tryd.prog 26 #[.slice ao n cap, .slice bo n cap'] w fun e w' => e = .returned (.bool true) ∧ Drawn w w' := by
  unfold maxLen at hbig
  have HX := Lib.hid hx
  have RA := Lib.hid ra
  have RB := Lib.hid rb
  clear hx ra rb
  go_enter Tryd.func26, Tryd.ntmps26
  go_wp2
  go_loopw [5] (fun i wr => ∃ k : Nat, k ≤ n ∧ i = .int .i64 k ∧ Drawn w wr) (fun i _ => n - (intOf i).toNat)
  case atStart => exact ⟨0, by omega, rfl, Drawn.refl _⟩
  case round =>
    obtain ⟨k, hk, rfl, hd⟩ := hrel
    by_cases hlt : k < n
    · obtain ⟨b, off, rfl, hb, hc⟩ := Reads.int RA.out (by rw [HX.out]; omega)
      obtain ⟨b', off', rfl, hb', hc'⟩ := Reads.int RB.out (by rw [HX.out]; omega)
      have c1 : wr.cell? ⟨b, off + k, none⟩ = some (.int .i64 (nth xs k)) := by rw [hd.cell]; exact hc k (by rw [HX.out]; omega)
      have c2 : wr.cell? ⟨b', off' + k, none⟩ = some (.int .i64 (nth xs k)) := by rw [hd.cell]; exact hc' k (by rw [HX.out]; omega)
      have HD := Lib.hid hd
      clear hc hc' hd
      go_wp2_with fail
      go_quiet (fail)
      go_wp2
      go_roundw
      case rel => exact ⟨k + 1, by omega, by go_num, HD.out.trans (Drawn.drewN _ _)⟩
      case measure => simp [intOf]; omega
    · go_wp2
      go_ret
      exact ⟨rfl, hd⟩

set_option maxHeartbeats 400000 in
/-- Lists that part somewhere, or that are not as long. -/
theorem ints_no (ao bo : Option Addr) (n m cap cap' : Nat) (xs ys : List Int) (w : World) (hx : xs.length = n) (hy : ys.length = m) (hbig : n ≤ maxLen) (hbig' : m ≤ maxLen) (ra : Reads w ao (ints xs)) (rb : Reads w bo (ints ys)) (hne : xs ≠ ys) :
    Calls Tryd.prog 26 #[.slice ao n cap, .slice bo m cap'] w fun e w' => e = .returned (.bool false) ∧ Drawn w w' := by
  unfold maxLen at hbig hbig'
  have HX := Lib.hid hx
  have HY := Lib.hid hy
  have RA := Lib.hid ra
  have RB := Lib.hid rb
  have HN := Lib.hid hne
  clear hx ra rb hy hne
  by_cases hnm : n = m
  · subst hnm
    go_enter Tryd.func26, Tryd.ntmps26
    go_wp2
    go_loopw [5] (fun i wr => ∃ k : Nat, k ≤ n ∧ i = .int .i64 k ∧ Drawn w wr ∧ ∀ j, j < k → nth xs j = nth ys j) (fun i _ => n - (intOf i).toNat)
    case atStart => exact ⟨0, by omega, rfl, Drawn.refl _, fun j hj => by omega⟩
    case round =>
      obtain ⟨k, hk, rfl, hd, hall⟩ := hrel
      have HA := Lib.hid hall
      clear hall
      by_cases hlt : k < n
      · obtain ⟨b, off, rfl, hb, hc⟩ := Reads.int RA.out (by rw [HX.out]; omega)
        obtain ⟨b', off', rfl, hb', hc'⟩ := Reads.int RB.out (by rw [HY.out]; omega)
        have c1 : wr.cell? ⟨b, off + k, none⟩ = some (.int .i64 (nth xs k)) := by rw [hd.cell]; exact hc k (by rw [HX.out]; omega)
        have c2 : wr.cell? ⟨b', off' + k, none⟩ = some (.int .i64 (nth ys k)) := by rw [hd.cell]; exact hc' k (by rw [HY.out]; omega)
        have HD := Lib.hid hd
        clear hc hc' hd
        by_cases he : nth xs k = nth ys k
        · have HE := Lib.hid he
          have hb2 : (nth xs k != nth ys k) = false := by rw [he]; simp
          clear he
          go_wp2_with fail
          go_quiet (fail)
          go_wp2
          go_roundw
          case rel => exact ⟨k + 1, by omega, by go_num, HD.out.trans (Drawn.drewN _ _), fun j hj => by
            rcases Nat.lt_succ_iff_lt_or_eq.1 hj with h | rfl
            · exact HA.out j h
            · exact HE.out⟩
          case measure => simp [intOf]; omega
        · have hb2 : (nth xs k != nth ys k) = true := by rw [bne_iff_ne]; exact he
          clear he
          go_wp2_with fail
          go_quiet (fail)
          go_wp2
          go_ret
          exact ⟨rfl, HD.out.trans (Drawn.drewN _ _)⟩
      · exfalso
        exact HN.out (nth_ext xs ys (by rw [HX.out, HY.out]) fun j hj => HA.out j (by rw [HX.out] at hj; omega))
  · have hb2 : ((n : Int) != (m : Int)) = true := by rw [bne_iff_ne]; omega
    go_enter Tryd.func26, Tryd.ntmps26
    go_wp2
    go_ret
    exact ⟨rfl, Drawn.refl _⟩

theorem ints_any (ao bo : Option Addr) (n m cap cap' : Nat) (xs ys : List Int) (w : World) (hx : xs.length = n) (hy : ys.length = m) (hbig : n ≤ maxLen) (hbig' : m ≤ maxLen) (ra : Reads w ao (ints xs)) (rb : Reads w bo (ints ys)) :
    Calls Tryd.prog 26 #[.slice ao n cap, .slice bo m cap'] w fun e w' => e = .returned (.bool (decide (xs = ys))) ∧ Drawn w w' := by
  by_cases h : xs = ys
  · subst h
    obtain rfl : n = m := by omega
    rw [decide_eq_true rfl]
    exact ints_yes ao bo n cap cap' xs w hx hbig ra rb
  · rw [decide_eq_false h]
    exact ints_no ao bo n m cap cap' xs ys w hx hy hbig hbig' ra rb h

end Go.Proofs.YtnhdngnolepkcaaDoor

/- What parterreref1.Lists answers: are two lists of lists the same? Conditions: both can be read. -/
namespace Go.Proofs.YtnhdngnolepkcaaDoor
open Go.RowKit

set_option maxHeartbeats 400000 in
theorem lists_any (ao bo : Option Addr) (n m cap cap' : Nat) (xss yss : List (List Int)) (w : World) (hx : xss.length = n) (hy : yss.length = m) (hbig : n ≤ maxLen) (hbig' : m ≤ maxLen) (ra : ReadsL w ao xss) (rb : ReadsL w bo yss) :
    Calls Tryd.prog 10 #[.slice ao n cap, .slice bo m cap'] w fun e w' => e = .returned (.bool (decide (xss = yss))) ∧ Drawn w w' := by
  unfold maxLen at hbig hbig'
  have HX := Lib.hid hx
  have HY := Lib.hid hy
  have RA := Lib.hid ra
  have RB := Lib.hid rb
  clear hx ra rb hy
  by_cases hnm : n = m
  · subst hnm
    go_enter Tryd.func10, Tryd.ntmps10
    go_wp2
    go_loopw [5] (fun i wr => ∃ k : Nat, k ≤ n ∧ i = .int .i64 k ∧ Drawn w wr ∧ ∀ j, j < k → row xss j = row yss j) (fun i _ => n - (intOf i).toNat)
    case atStart => exact ⟨0, by omega, rfl, Drawn.refl _, fun j hj => by omega⟩
    case round =>
      obtain ⟨k, hk, rfl, hd, hall⟩ := hrel
      have HA := Lib.hid hall
      clear hall
      by_cases hlt : k < n
      · obtain ⟨b, off, rfl, hb, hc⟩ := RA.out.row (by rw [HX.out]; omega)
        obtain ⟨b', off', rfl, hb', hc'⟩ := RB.out.row (by rw [HY.out]; omega)
        obtain ⟨a1, q1, c1, r1, l1⟩ := hc k (by rw [HX.out]; omega)
        obtain ⟨a2, q2, c2, r2, l2⟩ := hc' k (by rw [HY.out]; omega)
        rw [← hd.cell] at c1 c2
        have HD := Lib.hid hd
        have HI : Hid (∀ w', Drawn wr w' → _) := fun w' hd' => ints_any a1 a2 _ _ q1 q2 (row xss k) (row yss k) w' rfl rfl l1 l2 ((hd.trans hd').ext.reads r1) ((hd.trans hd').ext.reads r2)
        unfold maxLen at l1 l2
        clear hc hc' hd r1 r2
        obtain ⟨p, hp⟩ : ∃ p, (row xss k).length = p := ⟨_, rfl⟩
        obtain ⟨q, hq⟩ : ∃ q, (row yss k).length = q := ⟨_, rfl⟩
        rw [hp] at c1 HI
        rw [hq] at c2 HI
        clear hp hq l1 l2
        by_cases he : row xss k = row yss k
        · have HE := Lib.hid he
          rw [decide_eq_true he] at HI
          clear he
          go_wp2_with fail
          go_quiet ((go_at_call 26; exact Calls.quiet_of (HI.out _ (Drawn.drewN _ _))))
          go_wp2
          go_roundw
          case rel => exact ⟨k + 1, by omega, by go_num, HD.out.trans (Drawn.drewN _ _), fun j hj => by
            rcases Nat.lt_succ_iff_lt_or_eq.1 hj with h | rfl
            · exact HA.out j h
            · exact HE.out⟩
          case measure => simp [intOf]; omega
        · have HE : Hid (xss ≠ yss) := fun e => he (by rw [e])
          rw [decide_eq_false he] at HI
          clear he
          go_wp2_with fail
          go_quiet ((go_at_call 26; exact Calls.quiet_of (HI.out _ (Drawn.drewN _ _))))
          go_wp2
          go_ret
          exact ⟨by rw [decide_eq_false HE.out]; rfl, HD.out.trans (Drawn.drewN _ _)⟩
      · have HE : Hid (xss = yss) := row_ext xss yss (by rw [HX.out, HY.out]) fun j hj => HA.out j (by rw [HX.out] at hj; omega)
        have HD := Lib.hid hd
        clear hd
        go_wp2
        go_ret
        exact ⟨by rw [decide_eq_true HE.out]; rfl, HD.out⟩
  · have hb2 : ((n : Int) != (m : Int)) = true := by rw [bne_iff_ne]; omega
    have HE : Hid (xss ≠ yss) := fun e => hnm (by rw [← HX.out, ← HY.out, e])
    clear hnm
    go_enter Tryd.func10, Tryd.ntmps10
    go_wp2
    go_ret
    exact ⟨by rw [decide_eq_false HE.out]; rfl, Drawn.refl _⟩

end Go.Proofs.YtnhdngnolepkcaaDoor

/- What ArrayMakes returns, from what its callees answer (printed by gen_arraymakes.py). -/
namespace Go.Proofs.YtnhdngnolepkcaaDoor
open Go.RowKit
set_option linter.unusedVariables false

set_option maxHeartbeats 4000000 in
set_option maxRecDepth 100000 in
theorem makes_walk (p k : Int) (ao bo so : Option Addr) (len cap m mc sn sc : Nat) (n : Int) (sqs : List (Int × List Int)) (w : World) (c0 c1 c : Int) (R : List (List Int)) (hR : R.length ≤ 128)
    (h0 : (c0 ≠ 0 ∧ c = c0 ∧ R = []) ∨ (c0 = 0 ∧ c1 ≠ 0 ∧ c = c1 ∧ R = []) ∨ (c0 = 0 ∧ c1 = 0))
    (hroom : ∀ W, Ext w W → Calls Tryd.prog 5 #[.agg #[.int .i64 p, .int .i64 k, .slice ao len cap], .int .i64 n] W fun e w' => e = .returned (.int .i64 c0) ∧ Ext W w')
    (hrows : c0 = 0 → ∀ W, Ext w W → Calls Tryd.prog 6 #[.agg #[.int .i64 p, .int .i64 k, .slice ao len cap], .int .i64 n, .slice bo m mc] W fun e w' => e = .returned (.int .i64 c1) ∧ Ext W w')
    (hspan : c0 = 0 → c1 = 0 → ∀ W, Ext w W → Calls Tryd.prog 7 #[.agg #[.int .i64 p, .int .i64 k, .slice ao len cap], .int .i64 n, .slice bo m mc] W fun e w' => ∃ go gn gc, e = .returned (.slice go gn gc) ∧ Ext W w' ∧ ∀ W', Ext w' W' → Calls Tryd.prog 8 #[.agg #[.int .i64 p, .int .i64 k, .slice ao len cap], .int .i64 n, .slice go gn gc] W' fun e w'' => ∃ oo on oc, e = .returned (.tuple #[.slice oo on oc, .int .i64 c]) ∧ ReadsL w'' oo R ∧ R.length = on ∧ Ext W' w'')
    (hl : ∀ W, Ext w W → Calls Tryd.prog 9 #[.agg #[.int .i64 p, .int .i64 k, .slice ao len cap], .int .i64 n, .slice bo m mc] W fun e w' => ∃ oo on oc, e = .returned (.tuple #[.slice oo on oc, .int .i64 c]) ∧ ReadsL w' oo R ∧ R.length = on ∧ Ext W w')
    (hs1 : ∀ W, Ext w W → Calls Tryd.prog 11 #[.slice so sn sc] W fun e w' => ∃ (c : Int) (oo : Option Addr) (on oc : Nat), e = .returned (.tuple #[.slice oo on oc, .int .i64 c]) ∧ SqIs sqs c ∧ ReadsL w' oo (sqRows sqs c) ∧ (sqRows sqs c).length = on ∧ Ext W w')
    (hs2 : ∀ W, Ext w W → Calls Tryd.prog 12 #[.slice so sn sc] W fun e w' => ∃ (c : Int) (oo : Option Addr) (on oc : Nat), e = .returned (.tuple #[.slice oo on oc, .int .i64 c]) ∧ SqIs sqs c ∧ ReadsL w' oo (sqRows sqs c) ∧ (sqRows sqs c).length = on ∧ Ext W w') :
    Calls Tryd.prog 3 #[.agg #[.int .i64 p, .int .i64 k, .slice ao len cap], .int .i64 n, .slice bo m mc, .slice so sn sc] w fun e w' => e = .returned (.bool true) ∧ Ext w w' := by
  have E0 := Lib.hid (ext_box w #[.int .i64 p, .int .i64 k, .slice ao len cap] 24)
  have F0 := Lib.hid (Blk.new w #[.int .i64 p, .int .i64 k, .slice ao len cap] 24)
  have k0 := F0.out.three
  have HRM := Lib.hid hroom
  have HRA := Lib.hid hrows
  have HSP := Lib.hid hspan
  have HL := Lib.hid hl
  have HS1 := Lib.hid hs1
  have HS2 := Lib.hid hs2
  have HC := Lib.hid h0
  have HRB := Lib.hid hR
  clear hroom hrows hspan hl hs1 hs2 h0 hR
  go_enter Tryd.func3, Tryd.ntmps3
  go_wp2_with fail
  refine Calls.mono (HRM.out _ E0.out) ?_
  rintro e w1 ⟨rfl, hx⟩
  have E1 := Lib.hid (E0.out.trans hx)
  have F1 := Lib.hid (F0.out.ext hx)
  clear k0 hx
  rcases HC.out with ⟨hc, rfl, rfl⟩ | ⟨rfl, hc, rfl, rfl⟩ | ⟨rfl, rfl⟩
  · have b0 : (c == 0) = false := by rw [beq_eq_false_iff_ne]; exact hc
    have b1 : (c != 0) = true := by rw [bne_iff_ne]; exact hc
    clear hc
    have RW := Lib.hid (ReadsL.nil w1 none)
    have HWL : Hid (([] : List (List Int)).length = 0) := rfl
    have kt := F1.out.three
    go_wp2_with fail
    refine Calls.mono (HL.out w1 E1.out) ?_
    rintro e w5 ⟨b5, l5, c5, rfl, hrd, hln, hx⟩
    have E5 := Lib.hid (E1.out.trans hx)
    have RW5 := Lib.hid (RW.out.ext hx)
    have LL := Lib.hid (lists_any b5 none l5 0 c5 0 [] [] w5 hln HWL.out (by unfold maxLen; have := HRB.out; omega) (by unfold maxLen; have := HRB.out; have := HWL.out; omega) hrd RW5.out)
    rw [decide_eq_true rfl] at LL
    clear kt hrd hln hx
    go_wp2_with fail
    refine Calls.mono LL.out ?_
    rintro e w6 ⟨rfl, hd⟩
    have E6 := Lib.hid (E5.out.drawn hd)
    clear hd
    go_wp2_with fail
    refine Calls.mono (HS1.out w6 E6.out) ?_
    rintro e w7 ⟨d1, b7, l7, c7, rfl, hi1, hr1, hl1, hx1⟩
    have E7 := Lib.hid (E6.out.trans hx1)
    have I1 := Lib.hid hi1
    have R1 := Lib.hid hr1
    have L1 := Lib.hid hl1
    clear hi1 hr1 hl1 hx1
    go_wp2_with fail
    refine Calls.mono (HS2.out w7 E7.out) ?_
    rintro e w8 ⟨d2, b8, l8, c8, rfl, hi2, hr2, hl2, hx2⟩
    have E8 := Lib.hid (E7.out.trans hx2)
    obtain rfl : d1 = d2 := I1.out.one hi2
    have R18 := Lib.hid (R1.out.ext hx2)
    have hsb := sqRows_len sqs d1
    have L1b := L1.out
    have LL2 := Lib.hid (lists_any b7 b8 l7 l8 c7 c8 _ _ w8 L1.out hl2 (by unfold maxLen; omega) (by unfold maxLen; omega) R18.out hr2)
    rw [decide_eq_true rfl] at LL2
    clear hi2 hr2 hl2 hx2 hsb L1b I1
    go_wp2_with fail
    refine Calls.mono LL2.out ?_
    rintro e w9 ⟨rfl, hd⟩
    have E9 := Lib.hid (E8.out.drawn hd)
    clear hd
    go_wp2
    go_ret
    exact ⟨by simp, E9.out⟩
  · have k1 := F1.out.three
    have b0 : (c == 0) = false := by rw [beq_eq_false_iff_ne]; exact hc
    have b1 : (c != 0) = true := by rw [bne_iff_ne]; exact hc
    have HW := Lib.hid (HRA.out (by simp) w1 E1.out)
    clear hc
    go_wp2_with fail
    refine Calls.mono HW.out ?_
    rintro e w2 ⟨rfl, hx⟩
    have E2 := Lib.hid (E1.out.trans hx)
    have F2 := Lib.hid (F1.out.ext hx)
    clear k1 hx
    have RW := Lib.hid (ReadsL.nil w2 none)
    have HWL : Hid (([] : List (List Int)).length = 0) := rfl
    have kt := F2.out.three
    go_wp2_with fail
    refine Calls.mono (HL.out w2 E2.out) ?_
    rintro e w5 ⟨b5, l5, c5, rfl, hrd, hln, hx⟩
    have E5 := Lib.hid (E2.out.trans hx)
    have RW5 := Lib.hid (RW.out.ext hx)
    have LL := Lib.hid (lists_any b5 none l5 0 c5 0 [] [] w5 hln HWL.out (by unfold maxLen; have := HRB.out; omega) (by unfold maxLen; have := HRB.out; have := HWL.out; omega) hrd RW5.out)
    rw [decide_eq_true rfl] at LL
    clear kt hrd hln hx
    go_wp2_with fail
    refine Calls.mono LL.out ?_
    rintro e w6 ⟨rfl, hd⟩
    have E6 := Lib.hid (E5.out.drawn hd)
    clear hd
    go_wp2_with fail
    refine Calls.mono (HS1.out w6 E6.out) ?_
    rintro e w7 ⟨d1, b7, l7, c7, rfl, hi1, hr1, hl1, hx1⟩
    have E7 := Lib.hid (E6.out.trans hx1)
    have I1 := Lib.hid hi1
    have R1 := Lib.hid hr1
    have L1 := Lib.hid hl1
    clear hi1 hr1 hl1 hx1
    go_wp2_with fail
    refine Calls.mono (HS2.out w7 E7.out) ?_
    rintro e w8 ⟨d2, b8, l8, c8, rfl, hi2, hr2, hl2, hx2⟩
    have E8 := Lib.hid (E7.out.trans hx2)
    obtain rfl : d1 = d2 := I1.out.one hi2
    have R18 := Lib.hid (R1.out.ext hx2)
    have hsb := sqRows_len sqs d1
    have L1b := L1.out
    have LL2 := Lib.hid (lists_any b7 b8 l7 l8 c7 c8 _ _ w8 L1.out hl2 (by unfold maxLen; omega) (by unfold maxLen; omega) R18.out hr2)
    rw [decide_eq_true rfl] at LL2
    clear hi2 hr2 hl2 hx2 hsb L1b I1
    go_wp2_with fail
    refine Calls.mono LL2.out ?_
    rintro e w9 ⟨rfl, hd⟩
    have E9 := Lib.hid (E8.out.drawn hd)
    clear hd
    go_wp2
    go_ret
    exact ⟨by simp, E9.out⟩
  · have k1 := F1.out.three
    have HW := Lib.hid (HRA.out (by simp) w1 E1.out)
    go_wp2_with fail
    refine Calls.mono HW.out ?_
    rintro e w2 ⟨rfl, hx⟩
    have E2 := Lib.hid (E1.out.trans hx)
    have F2 := Lib.hid (F1.out.ext hx)
    clear k1 hx
    have k2 := F2.out.three
    have HW2 := Lib.hid (HSP.out (by simp) (by simp) w2 E2.out)
    go_wp2_with fail
    refine Calls.mono HW2.out ?_
    rintro e w3 ⟨g3, n3, c3, rfl, hx, hlin⟩
    have E3 := Lib.hid (E2.out.trans hx)
    have F3 := Lib.hid (F2.out.ext hx)
    have HW3 := Lib.hid (hlin w3 (Ext.refl w3))
    clear k2 hx hlin
    have k3 := F3.out.three
    go_wp2_with fail
    refine Calls.mono HW3.out ?_
    rintro e w4 ⟨b4, l4, c4, rfl, hr4, hl4, hx⟩
    have E4 := Lib.hid (E3.out.trans hx)
    have F4 := Lib.hid (F3.out.ext hx)
    have RW := Lib.hid hr4
    have HWL := Lib.hid hl4
    clear k3 hx hr4 hl4
    have kt := F4.out.three
    go_wp2_with fail
    refine Calls.mono (HL.out w4 E4.out) ?_
    rintro e w5 ⟨b5, l5, c5, rfl, hrd, hln, hx⟩
    have E5 := Lib.hid (E4.out.trans hx)
    have RW5 := Lib.hid (RW.out.ext hx)
    have LL := Lib.hid (lists_any b5 b4 l5 l4 c5 c4 R R w5 hln HWL.out (by unfold maxLen; have := HRB.out; omega) (by unfold maxLen; have := HRB.out; have := HWL.out; omega) hrd RW5.out)
    rw [decide_eq_true rfl] at LL
    clear kt hrd hln hx
    go_wp2_with fail
    refine Calls.mono LL.out ?_
    rintro e w6 ⟨rfl, hd⟩
    have E6 := Lib.hid (E5.out.drawn hd)
    clear hd
    go_wp2_with fail
    refine Calls.mono (HS1.out w6 E6.out) ?_
    rintro e w7 ⟨d1, b7, l7, c7, rfl, hi1, hr1, hl1, hx1⟩
    have E7 := Lib.hid (E6.out.trans hx1)
    have I1 := Lib.hid hi1
    have R1 := Lib.hid hr1
    have L1 := Lib.hid hl1
    clear hi1 hr1 hl1 hx1
    go_wp2_with fail
    refine Calls.mono (HS2.out w7 E7.out) ?_
    rintro e w8 ⟨d2, b8, l8, c8, rfl, hi2, hr2, hl2, hx2⟩
    have E8 := Lib.hid (E7.out.trans hx2)
    obtain rfl : d1 = d2 := I1.out.one hi2
    have R18 := Lib.hid (R1.out.ext hx2)
    have hsb := sqRows_len sqs d1
    have L1b := L1.out
    have LL2 := Lib.hid (lists_any b7 b8 l7 l8 c7 c8 _ _ w8 L1.out hl2 (by unfold maxLen; omega) (by unfold maxLen; omega) R18.out hr2)
    rw [decide_eq_true rfl] at LL2
    clear hi2 hr2 hl2 hx2 hsb L1b I1
    go_wp2_with fail
    refine Calls.mono LL2.out ?_
    rintro e w9 ⟨rfl, hd⟩
    have E9 := Lib.hid (E8.out.drawn hd)
    clear hd
    go_wp2
    go_ret
    exact ⟨by simp, E9.out⟩

end Go.Proofs.YtnhdngnolepkcaaDoor
