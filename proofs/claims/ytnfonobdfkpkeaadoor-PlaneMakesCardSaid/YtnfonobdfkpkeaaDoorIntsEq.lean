/- What parterreref1.Ints answers: are two lists the same? Conditions: both can be read. -/
import Derived.Test.YtnfonobdfkpkeaaDoorBase
namespace Go.Proofs.YtnfonobdfkpkeaaDoor
open Go.RowKit

set_option maxHeartbeats 400000 in
theorem ints_yes (ao bo : Option Addr) (n cap cap' : Nat) (xs : List Int) (w : World) (hx : xs.length = n) (hbig : n ≤ maxLen) (ra : Reads w ao (ints xs)) (rb : Reads w bo (ints xs)) :
    Calls Tryd.prog 10 #[.slice ao n cap, .slice bo n cap'] w fun e w' => e = .returned (.bool true) ∧ Drawn w w' := by
  unfold maxLen at hbig
  have HX := Lib.hid hx
  have RA := Lib.hid ra
  have RB := Lib.hid rb
  clear hx ra rb
  go_enter Tryd.func10, Tryd.ntmps10
  go_wp2
  go_loopw [5] (fun i wr => ∃ k : Nat, k ≤ n ∧ i = .int .i64 k ∧ Drawn w wr) (fun i _ => n - (intOf i).toNat)
  case atStart => exact ⟨0, by omega, rfl, Drawn.refl _⟩
  case round =>
    obtain ⟨k, hk, rfl, hd⟩ := hrel
    by_cases hlt : k < n
    · obtain ⟨b, off, rfl, hb, hc⟩ := Reads.int RA.out (by rw [HX.out]; omega)
      obtain ⟨b', off', rfl, hb', hc'⟩ := Reads.int RB.out (by rw [HX.out]; omega)
      have c1 : wr.cell? ⟨b, off + k, none⟩ = some (.int .i64 (nth xs k)) := by rw [hd.cell]; exact hc k (by rw [HX.out]; omega)
      have c2 : wr.cell? ⟨b', off' + k, none⟩ = some (.int .i64 (nth xs k)) := by rw [hd.cell]; exact hc' k (by rw [HX.out]; omega)
      have HD := Lib.hid hd
      clear hc hc' hd
      go_wp2_with fail
      go_quiet (fail)
      go_wp2
      go_roundw
      case rel => exact ⟨k + 1, by omega, by go_num, HD.out.trans (Drawn.drewN _ _)⟩
      case measure => simp [intOf]; omega
    · go_wp2
      go_ret
      exact ⟨rfl, hd⟩

set_option maxHeartbeats 400000 in
/-- Lists that part somewhere, or that are not as long. -/
theorem ints_no (ao bo : Option Addr) (n m cap cap' : Nat) (xs ys : List Int) (w : World) (hx : xs.length = n) (hy : ys.length = m) (hbig : n ≤ maxLen) (hbig' : m ≤ maxLen) (ra : Reads w ao (ints xs)) (rb : Reads w bo (ints ys)) (hne : xs ≠ ys) :
    Calls Tryd.prog 10 #[.slice ao n cap, .slice bo m cap'] w fun e w' => e = .returned (.bool false) ∧ Drawn w w' := by
  unfold maxLen at hbig hbig'
  have HX := Lib.hid hx
  have HY := Lib.hid hy
  have RA := Lib.hid ra
  have RB := Lib.hid rb
  have HN := Lib.hid hne
  clear hx ra rb hy hne
  by_cases hnm : n = m
  · subst hnm
    go_enter Tryd.func10, Tryd.ntmps10
    go_wp2
    go_loopw [5] (fun i wr => ∃ k : Nat, k ≤ n ∧ i = .int .i64 k ∧ Drawn w wr ∧ ∀ j, j < k → nth xs j = nth ys j) (fun i _ => n - (intOf i).toNat)
    case atStart => exact ⟨0, by omega, rfl, Drawn.refl _, fun j hj => by omega⟩
    case round =>
      obtain ⟨k, hk, rfl, hd, hall⟩ := hrel
      have HA := Lib.hid hall
      clear hall
      by_cases hlt : k < n
      · obtain ⟨b, off, rfl, hb, hc⟩ := Reads.int RA.out (by rw [HX.out]; omega)
        obtain ⟨b', off', rfl, hb', hc'⟩ := Reads.int RB.out (by rw [HY.out]; omega)
        have c1 : wr.cell? ⟨b, off + k, none⟩ = some (.int .i64 (nth xs k)) := by rw [hd.cell]; exact hc k (by rw [HX.out]; omega)
        have c2 : wr.cell? ⟨b', off' + k, none⟩ = some (.int .i64 (nth ys k)) := by rw [hd.cell]; exact hc' k (by rw [HY.out]; omega)
        have HD := Lib.hid hd
        clear hc hc' hd
        by_cases he : nth xs k = nth ys k
        · have HE := Lib.hid he
          have hb2 : (nth xs k != nth ys k) = false := by rw [he]; simp
          clear he
          go_wp2_with fail
          go_quiet (fail)
          go_wp2
          go_roundw
          case rel => exact ⟨k + 1, by omega, by go_num, HD.out.trans (Drawn.drewN _ _), fun j hj => by
            rcases Nat.lt_succ_iff_lt_or_eq.1 hj with h | rfl
            · exact HA.out j h
            · exact HE.out⟩
          case measure => simp [intOf]; omega
        · have hb2 : (nth xs k != nth ys k) = true := by rw [bne_iff_ne]; exact he
          clear he
          go_wp2_with fail
          go_quiet (fail)
          go_wp2
          go_ret
          exact ⟨rfl, HD.out.trans (Drawn.drewN _ _)⟩
      · exfalso
        exact HN.out (nth_ext xs ys (by rw [HX.out, HY.out]) fun j hj => HA.out j (by rw [HX.out] at hj; omega))
  · have hb2 : ((n : Int) != (m : Int)) = true := by rw [bne_iff_ne]; omega
    go_enter Tryd.func10, Tryd.ntmps10
    go_wp2
    go_ret
    exact ⟨rfl, Drawn.refl _⟩

theorem ints_any (ao bo : Option Addr) (n m cap cap' : Nat) (xs ys : List Int) (w : World) (hx : xs.length = n) (hy : ys.length = m) (hbig : n ≤ maxLen) (hbig' : m ≤ maxLen) (ra : Reads w ao (ints xs)) (rb : Reads w bo (ints ys)) :
    Calls Tryd.prog 10 #[.slice ao n cap, .slice bo m cap'] w fun e w' => e = .returned (.bool (decide (xs = ys))) ∧ Drawn w w' := by
  by_cases h : xs = ys
  · subst h
    obtain rfl : n = m := by omega
    rw [decide_eq_true rfl]
    exact ints_yes ao bo n cap cap' xs w hx hbig ra rb
  · rw [decide_eq_false h]
    exact ints_no ao bo n m cap cap' xs ys w hx hy hbig hbig' ra rb h

end Go.Proofs.YtnfonobdfkpkeaaDoor
