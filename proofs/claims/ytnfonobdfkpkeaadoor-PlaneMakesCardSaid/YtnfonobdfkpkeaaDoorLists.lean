/- What parterreref1.Lists answers: are two lists of lists the same? Conditions: both can be read. -/
import Derived.Test.YtnfonobdfkpkeaaDoorIntsEq
import Derived.Test.YtnfonobdfkpkeaaDoorReadsL
namespace Go.Proofs.YtnfonobdfkpkeaaDoor
open Go.RowKit

set_option maxHeartbeats 400000 in
theorem lists_any (ao bo : Option Addr) (n m cap cap' : Nat) (xss yss : List (List Int)) (w : World) (hx : xss.length = n) (hy : yss.length = m) (hbig : n ≤ maxLen) (hbig' : m ≤ maxLen) (ra : ReadsL w ao xss) (rb : ReadsL w bo yss) :
    Calls Tryd.prog 17 #[.slice ao n cap, .slice bo m cap'] w fun e w' => e = .returned (.bool (decide (xss = yss))) ∧ Drawn w w' := by
  unfold maxLen at hbig hbig'
  have HX := Lib.hid hx
  have HY := Lib.hid hy
  have RA := Lib.hid ra
  have RB := Lib.hid rb
  clear hx ra rb hy
  by_cases hnm : n = m
  · subst hnm
    go_enter Tryd.func17, Tryd.ntmps17
    go_wp2
    go_loopw [5] (fun i wr => ∃ k : Nat, k ≤ n ∧ i = .int .i64 k ∧ Drawn w wr ∧ ∀ j, j < k → row xss j = row yss j) (fun i _ => n - (intOf i).toNat)
    case atStart => exact ⟨0, by omega, rfl, Drawn.refl _, fun j hj => by omega⟩
    case round =>
      obtain ⟨k, hk, rfl, hd, hall⟩ := hrel
      have HA := Lib.hid hall
      clear hall
      by_cases hlt : k < n
      · obtain ⟨b, off, rfl, hb, hc⟩ := RA.out.row (by rw [HX.out]; omega)
        obtain ⟨b', off', rfl, hb', hc'⟩ := RB.out.row (by rw [HY.out]; omega)
        obtain ⟨a1, q1, c1, r1, l1⟩ := hc k (by rw [HX.out]; omega)
        obtain ⟨a2, q2, c2, r2, l2⟩ := hc' k (by rw [HY.out]; omega)
        rw [← hd.cell] at c1 c2
        have HD := Lib.hid hd
        have HI : Hid (∀ w', Drawn wr w' → _) := fun w' hd' => ints_any a1 a2 _ _ q1 q2 (row xss k) (row yss k) w' rfl rfl l1 l2 ((hd.trans hd').ext.reads r1) ((hd.trans hd').ext.reads r2)
        unfold maxLen at l1 l2
        clear hc hc' hd r1 r2
        obtain ⟨p, hp⟩ : ∃ p, (row xss k).length = p := ⟨_, rfl⟩
        obtain ⟨q, hq⟩ : ∃ q, (row yss k).length = q := ⟨_, rfl⟩
        rw [hp] at c1 HI
        rw [hq] at c2 HI
        clear hp hq l1 l2
        by_cases he : row xss k = row yss k
        · have HE := Lib.hid he
          rw [decide_eq_true he] at HI
          clear he
          go_wp2_with fail
          go_quiet ((go_at_call 10; exact Calls.quiet_of (HI.out _ (Drawn.drewN _ _))))
          go_wp2
          go_roundw
          case rel => exact ⟨k + 1, by omega, by go_num, HD.out.trans (Drawn.drewN _ _), fun j hj => by
            rcases Nat.lt_succ_iff_lt_or_eq.1 hj with h | rfl
            · exact HA.out j h
            · exact HE.out⟩
          case measure => simp [intOf]; omega
        · have HE : Hid (xss ≠ yss) := fun e => he (by rw [e])
          rw [decide_eq_false he] at HI
          clear he
          go_wp2_with fail
          go_quiet ((go_at_call 10; exact Calls.quiet_of (HI.out _ (Drawn.drewN _ _))))
          go_wp2
          go_ret
          exact ⟨by rw [decide_eq_false HE.out]; rfl, HD.out.trans (Drawn.drewN _ _)⟩
      · have HE : Hid (xss = yss) := row_ext xss yss (by rw [HX.out, HY.out]) fun j hj => HA.out j (by rw [HX.out] at hj; omega)
        have HD := Lib.hid hd
        clear hd
        go_wp2
        go_ret
        exact ⟨by rw [decide_eq_true HE.out]; rfl, HD.out⟩
  · have hb2 : ((n : Int) != (m : Int)) = true := by rw [bne_iff_ne]; omega
    have HE : Hid (xss ≠ yss) := fun e => hnm (by rw [← HX.out, ← HY.out, e])
    clear hnm
    go_enter Tryd.func17, Tryd.ntmps17
    go_wp2
    go_ret
    exact ⟨by rw [decide_eq_false HE.out]; rfl, Drawn.refl _⟩

end Go.Proofs.YtnfonobdfkpkeaaDoor
