/- What field.order answers. Condition: the variable of primes holds them. -/
import Derived.Test.YtnfonobdfkpkeaaDoorFPrime
namespace Go.Proofs.YtnfonobdfkpkeaaDoor
open Go.RowKit

theorem prime_bd {p : Int} (h : primeF p = true) : 2 ≤ p ∧ p ≤ 61 := by
  unfold primeF at h
  rw [List.contains_iff_mem] at h
  have : ∀ x ∈ primesL, 2 ≤ x ∧ x ≤ 61 := by decide
  exact this p h
/-- The order of a field; 0: there is none. -/
def ordF (p k : Int) : Nat := if primeF p = true ∧ 1 ≤ k ∧ k ≤ 6 ∧ p.toNat ^ k.toNat ≤ 64 then p.toNat ^ k.toNat else 0
theorem ordF_pos {p k : Int} (h : ordF p k ≠ 0) : primeF p = true ∧ 1 ≤ k ∧ k ≤ 6 ∧ p.toNat ^ k.toNat ≤ 64 ∧ ordF p k = p.toNat ^ k.toNat := by
  unfold ordF at h ⊢
  split at h
  · rename_i hc; rw [if_pos hc]; exact ⟨hc.1, hc.2.1, hc.2.2.1, hc.2.2.2, rfl⟩
  · exact absurd rfl h

set_option maxHeartbeats 1000000 in
theorem order_any (p k : Int) (w : World) (hP : Primes w) :
    Calls Tryd.prog 36 #[.int .i64 p, .int .i64 k] w fun e w' => e = .returned (.tuple #[.int .i64 (ordF p k), .bool (ordF p k != 0)]) ∧ w = w' := by
  have HQ := Lib.hid (primeF_any p w hP)
  clear hP
  cases hp : primeF p with
  | false =>
    have HV : Hid (ordF p k = 0) := by show _ = _; unfold ordF; rw [if_neg (by rw [hp]; simp)]
    rw [hp] at HQ
    clear hp
    go_enter Tryd.func36, Tryd.ntmps36
    go_wp2_with (go_at_call 38; refine HQ.out.mono ?_; rintro e w1 ⟨rfl, rfl⟩)
    go_ret2
    exact ⟨by rw [HV.out]; rfl, rfl⟩
  | true =>
    obtain ⟨h2, h61⟩ := prime_bd hp
    have HPP := Lib.hid hp
    rw [hp] at HQ
    clear hp
    by_cases h1 : k < 1
    · have HV : Hid (ordF p k = 0) := by show _ = _; unfold ordF; rw [if_neg (by omega)]
      have b1 : decide (k < 1) = true := decide_eq_true h1
      go_enter Tryd.func36, Tryd.ntmps36
      go_wp2_with (go_at_call 38; refine HQ.out.mono ?_; rintro e w1 ⟨rfl, rfl⟩)
      go_ret2
      exact ⟨by rw [HV.out]; rfl, rfl⟩
    · have b1 : decide (k < 1) = false := decide_eq_false h1
      by_cases h6 : 6 < k
      · have HV : Hid (ordF p k = 0) := by show _ = _; unfold ordF; rw [if_neg (by omega)]
        have b2 : decide (6 < k) = true := decide_eq_true h6
        go_enter Tryd.func36, Tryd.ntmps36
        go_wp2_with (go_at_call 38; refine HQ.out.mono ?_; rintro e w1 ⟨rfl, rfl⟩)
        go_ret2
        exact ⟨by rw [HV.out]; rfl, rfl⟩
      · have b2 : decide (6 < k) = false := decide_eq_false h6
        obtain ⟨P, rfl⟩ : ∃ P : Nat, p = P := ⟨p.toNat, by omega⟩
        obtain ⟨K, rfl⟩ : ∃ K : Nat, k = K := ⟨k.toNat, by omega⟩
        have HV : Hid (ordF P K = if P ^ K ≤ 64 then P ^ K else 0) := by
          show _ = _
          unfold ordF
          rw [Int.toNat_natCast, Int.toNat_natCast]
          by_cases h : P ^ K ≤ 64
          · rw [if_pos ⟨HPP.out, by omega, by omega, h⟩, if_pos h]
          · rw [if_neg (fun hc => h hc.2.2.2), if_neg h]
        go_enter Tryd.func36, Tryd.ntmps36
        go_wp2_with (go_at_call 38; refine HQ.out.mono ?_; rintro e w1 ⟨rfl, rfl⟩)
        go_loop [6, 19] (fun q a => ∃ i Q : Nat, i ≤ K ∧ a = .int .i64 i ∧ q = .int .i64 Q ∧ Q ≤ 64 ∧ Hid (Q = P ^ i)) (fun _ a => K - (intOf a).toNat)
        case atStart => exact ⟨0, 1, by omega, rfl, rfl, by omega, by show _ = _; simp⟩
        case round =>
          obtain ⟨i, Q, hi, rfl, rfl, hQ, HQP⟩ := hrel
          by_cases hlt : i < K
          · obtain ⟨R, hR⟩ : ∃ R, Q * P = R := ⟨_, rfl⟩
            have hR' : (Q : Int) * (P : Int) = R := by rw [← hR, Int.natCast_mul]
            have hRb : R ≤ 64 * 61 := by rw [← hR]; exact Nat.mul_le_mul hQ (by omega)
            have HRP : Hid (R = P ^ (i + 1)) := by show _ = _; rw [← hR, HQP.out, Nat.pow_succ]
            clear hR
            by_cases h64 : 64 < R
            · have HN : Hid (ordF P K = 0) := by
                show _ = _
                have : P ^ (i + 1) ≤ P ^ K := Nat.pow_le_pow_right (by omega) (by omega)
                rw [HV.out, if_neg (by rw [← HRP.out] at this; omega)]
              go_wp2
              go_ret2
              exact ⟨by rw [HN.out]; rfl, rfl⟩
            · go_wp2
              go_round
              case rel => exact ⟨i + 1, R, by omega, by go_num, rfl, by omega, HRP⟩
              case measure => simp [intOf]; omega
          · obtain rfl : K = i := by omega
            have HN : Hid (ordF P K = Q) := by show _ = _; rw [HV.out, ← HQP.out, if_pos hQ]
            have HN2 : Hid (Q ≠ 0) := by show Q ≠ 0; rw [HQP.out]; exact Nat.pos_iff_ne_zero.1 (Nat.pow_pos (by omega))
            go_wp2
            go_ret2
            exact ⟨by rw [HN.out, show (Q != 0) = true from by rw [bne_iff_ne]; exact HN2.out]; rfl, rfl⟩

end Go.Proofs.YtnfonobdfkpkeaaDoor
