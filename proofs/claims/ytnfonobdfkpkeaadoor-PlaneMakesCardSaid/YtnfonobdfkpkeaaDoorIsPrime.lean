/- What parterreref1.IsPrime answers. No conditions. -/
import Derived.Test.YtnfonobdfkpkeaaDoorBlk
namespace Go.Proofs.YtnfonobdfkpkeaaDoor
open Go.RowKit

/-- No divisor from 2 on whose square is not greater. -/
def primeB (n : Nat) : Bool := decide (2 ≤ n) && decide (n ≤ 100000) && (List.range 317).all fun d => decide (d < 2) || decide (n < d * d) || n % d != 0
theorem primeB_false {n d : Nat} (h2 : 2 ≤ d) (hd : d * d ≤ n) (hm : n % d = 0) : primeB n = false := by
  unfold primeB
  by_cases hb : n ≤ 100000
  · have hlt : d < 317 := by
      rcases Nat.lt_or_ge d 317 with h | h
      · exact h
      · have := Nat.mul_le_mul h h; omega
    rw [Bool.and_eq_false_iff]
    right
    rw [List.all_eq_false]
    exact ⟨d, List.mem_range.2 hlt, by simp [hm]; omega⟩
  · simp [hb]
theorem primeB_true {n k : Nat} (h2 : 2 ≤ n) (hb : n ≤ 100000) (hk : n < k * k) (h : ∀ d, 2 ≤ d → d < k → n % d ≠ 0) : primeB n = true := by
  unfold primeB
  simp only [Bool.and_eq_true, decide_eq_true_eq]
  refine ⟨⟨h2, hb⟩, List.all_eq_true.2 fun d hd => ?_⟩
  by_cases h1 : d < 2
  · simp [h1]
  · by_cases h3 : n < d * d
    · simp [h3]
    · have : d < k := by
        rcases Nat.lt_or_ge d k with h | h
        · exact h
        · have := Nat.mul_le_mul h h; omega
      simp [h d (by omega) this]

set_option maxHeartbeats 400000 in
theorem isPrime_big (n : Int) (w : World) (hn : n < 2 ∨ 100000 < n) :
    Calls Tryd.prog 30 #[.int .i64 n] w fun e w' => e = .returned (.bool false) ∧ w = w' := by
  rcases hn with hn | hn
  · have b1 : decide (n < 2) = true := decide_eq_true hn
    go_enter Tryd.func30, Tryd.ntmps30
    go_wp2
    go_ret
    exact ⟨rfl, rfl⟩
  · have b1 : decide (n < 2) = false := decide_eq_false (by omega)
    have b2 : decide (100000 < n) = true := decide_eq_true hn
    go_enter Tryd.func30, Tryd.ntmps30
    go_wp2
    go_ret
    exact ⟨rfl, rfl⟩

set_option maxHeartbeats 400000 in
theorem isPrime_any (n : Nat) (w : World) (h2 : 2 ≤ n) (hb : n ≤ 100000) :
    Calls Tryd.prog 30 #[.int .i64 n] w fun e w' => e = .returned (.bool (primeB n)) ∧ w = w' := by
  have b1 : decide ((n : Int) < 2) = false := decide_eq_false (by omega)
  have b2 : decide (100000 < (n : Int)) = false := decide_eq_false (by omega)
  go_enter Tryd.func30, Tryd.ntmps30
  go_wp2
  go_loop [3] (fun a => ∃ d : Nat, 2 ≤ d ∧ d ≤ 317 ∧ a = .int .i64 d ∧ ∀ d', 2 ≤ d' → d' < d → n % d' ≠ 0) (fun a => 317 - (intOf a).toNat)
  case atStart => exact ⟨2, by omega, by omega, rfl, fun d h1 h2 => by omega⟩
  case round =>
    obtain ⟨d, hd2, hd, rfl, hall⟩ := hrel
    have HA := Lib.hid hall
    clear hall
    have hsq : d * d ≤ 317 * 317 := Nat.mul_le_mul hd hd
    have hbig : d = 317 → 100489 ≤ d * d := fun e => by rw [e]; decide
    obtain ⟨s, hs⟩ : ∃ s : Nat, s = d * d := ⟨_, rfl⟩
    have hs' : (d : Int) * d = s := by rw [hs]; simp
    rw [← hs] at hsq hbig
    have HS := Lib.hid hs
    clear hs
    by_cases hle : s ≤ n
    · have hlt : d < 317 := by omega
      have hm' : (n : Int) % d = (n % d : Nat) := by simp
      by_cases hm : n % d = 0
      · have HP := Lib.hid (primeB_false hd2 (by rw [← HS.out]; exact hle) hm)
        have b3 : ((n : Int) % d == 0) = true := by rw [hm', hm]; rfl
        clear hm hm' hbig
        go_wp2
        go_ret
        exact ⟨by rw [HP.out]; rfl, rfl⟩
      · have b3 : ((n : Int) % d == 0) = false := by rw [hm', beq_eq_false_iff_ne]; omega
        have HM := Lib.hid hm
        clear hm hm' hbig
        go_wp2
        go_round
        case rel => exact ⟨d + 1, by omega, by omega, by go_num, fun d' h1 h2 => by
          rcases Nat.lt_succ_iff_lt_or_eq.1 h2 with h | rfl
          · exact HA.out d' h1 h
          · exact HM.out⟩
        case measure => simp [intOf]; omega
    · have HP := Lib.hid (primeB_true h2 hb (by rw [← HS.out]; omega) HA.out)
      clear hbig
      go_wp2
      go_ret
      exact ⟨by rw [HP.out]; rfl, rfl⟩

end Go.Proofs.YtnfonobdfkpkeaaDoor
