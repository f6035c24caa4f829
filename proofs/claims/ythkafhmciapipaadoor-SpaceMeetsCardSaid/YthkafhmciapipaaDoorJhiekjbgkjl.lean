/- What field.isPrime and field.order answer. Condition: the variable of primes holds them. -/
import Derived.Test.YthkafhmciapipaaDoorJohebcdhffd
import Derived.Outline
import Derived.Deep.MidRow
namespace Go.Proofs.YthkafhmciapipaaDoor
open Go.RowKit

def primeF (p : Int) : Bool := primesL.contains p
theorem primes_range {w : World} (h : Primes w) : w.rangeAt 0 0 (ints primesL) := fun j v hv => by
  have hj : j < 18 := by have := (List.getElem?_eq_some_iff.1 hv).1; exact this
  rw [Nat.zero_add, h.2 j hj, ← hv, ints_get primesL j hj]
theorem prime_hit {p : Int} {k : Nat} (hk : k < 18) (h : p = nth primesL k) : primeF p = true := by
  unfold primeF; rw [List.contains_iff_mem, h]; exact nth_mem _ _ hk
theorem prime_miss {p : Int} (h : ∀ i, i < 18 → p ≠ nth primesL i) : primeF p = false := by
  unfold primeF
  cases hc : primesL.contains p with
  | false => rfl
  | true =>
    obtain ⟨k, hk, e⟩ := mem_nth _ _ (List.contains_iff_mem.1 hc)
    exact absurd e.symm (h k hk)

theorem index_prime : ∀ k : Nat, k < 18 → ∀ w, (Instr.index 89 (.agg (ints primesL).toArray) (.int .i64 (k : Int))).run Tryd.prog w = .ok (.int .i64 (nth primesL k)) w
  | 0, _ => fun _ => by kernel_rfl
  | 1, _ => fun _ => by kernel_rfl
  | 2, _ => fun _ => by kernel_rfl
  | 3, _ => fun _ => by kernel_rfl
  | 4, _ => fun _ => by kernel_rfl
  | 5, _ => fun _ => by kernel_rfl
  | 6, _ => fun _ => by kernel_rfl
  | 7, _ => fun _ => by kernel_rfl
  | 8, _ => fun _ => by kernel_rfl
  | 9, _ => fun _ => by kernel_rfl
  | 10, _ => fun _ => by kernel_rfl
  | 11, _ => fun _ => by kernel_rfl
  | 12, _ => fun _ => by kernel_rfl
  | 13, _ => fun _ => by kernel_rfl
  | 14, _ => fun _ => by kernel_rfl
  | 15, _ => fun _ => by kernel_rfl
  | 16, _ => fun _ => by kernel_rfl
  | 17, _ => fun _ => by kernel_rfl
  | n + 18, h => absurd h (by omega)

set_option maxHeartbeats 1000000 in
theorem primeF_any (p : Int) (w : World) (hP : Primes w) :
    Calls Tryd.prog 59 #[.int .i64 p] w fun e w' => e = .returned (.bool (primeF p)) ∧ w = w' := by
  have HR := Lib.hid (primes_range hP)
  clear hP
  go_enter Tryd.func59, Tryd.ntmps59
  go_wp2_with ((with_reducible refine wpList_load_mid rfl 89 (.global 0) rfl 0 0 rfl (ints primesL) (.array 18 3) HR.out Tryd.underlying89 rfl (by kernel_rfl) ?_))
  have HI : Hid (∀ k : Nat, k < 18 → ∀ w, (Instr.index 89 (.agg (ints primesL).toArray) (.int .i64 (k : Int))).run Tryd.prog w = .ok (.int .i64 (nth primesL k)) w) := index_prime
  generalize (ints primesL).toArray = A at HI ⊢
  go_loop [6] (fun a => ∃ k : Nat, k ≤ 18 ∧ a = .int .i64 k ∧ ∀ i, i < k → p ≠ nth primesL i) (fun a => 18 - (intOf a).toNat)
  case atStart => exact ⟨0, by omega, rfl, fun i h => by omega⟩
  case round =>
    obtain ⟨k, hk, rfl, hall⟩ := hrel
    have HA := Lib.hid hall
    clear hall
    by_cases hlt : k < 18
    · have hi := HI.out k hlt
      obtain ⟨x, hx⟩ : ∃ x, nth primesL k = x := ⟨_, rfl⟩
      have HX := Lib.hid hx
      rw [hx] at hi
      clear hx
      by_cases hpx : p = x
      · have b1 : (p == x) = true := by rw [beq_iff_eq]; exact hpx
        have HP := Lib.hid (prime_hit hlt (hpx.trans HX.out.symm))
        clear hpx
        go_wp2
        go_ret
        exact ⟨by rw [HP.out]; rfl, rfl⟩
      · have b1 : (p == x) = false := by rw [beq_eq_false_iff_ne]; exact hpx
        have HP := Lib.hid hpx
        clear hpx
        go_wp2
        go_round
        case rel => exact ⟨k + 1, by omega, by go_num, fun i hi => by
          rcases Nat.lt_succ_iff_lt_or_eq.1 hi with h | rfl
          · exact HA.out i h
          · rw [HX.out]; exact HP.out⟩
        case measure => simp [intOf]; omega
    · have HP : Hid (primeF p = false) := prime_miss fun i hi => HA.out i (by omega)
      go_wp2
      go_ret
      exact ⟨by rw [HP.out]; rfl, rfl⟩

end Go.Proofs.YthkafhmciapipaaDoor

/- What field.order answers. Condition: the variable of primes holds them. -/
namespace Go.Proofs.YthkafhmciapipaaDoor
open Go.RowKit

theorem prime_bd {p : Int} (h : primeF p = true) : 2 ≤ p ∧ p ≤ 61 := by
  unfold primeF at h
  rw [List.contains_iff_mem] at h
  have : ∀ x ∈ primesL, 2 ≤ x ∧ x ≤ 61 := by decide
  exact this p h
/-- The order of a field; 0: there is none. -/
def ordF (p k : Int) : Nat := if primeF p = true ∧ 1 ≤ k ∧ k ≤ 6 ∧ p.toNat ^ k.toNat ≤ 64 then p.toNat ^ k.toNat else 0
theorem ordF_pos {p k : Int} (h : ordF p k ≠ 0) : primeF p = true ∧ 1 ≤ k ∧ k ≤ 6 ∧ p.toNat ^ k.toNat ≤ 64 ∧ ordF p k = p.toNat ^ k.toNat := by
  unfold ordF at h ⊢
  split at h
  · rename_i hc; rw [if_pos hc]; exact ⟨hc.1, hc.2.1, hc.2.2.1, hc.2.2.2, rfl⟩
  · exact absurd rfl h

set_option maxHeartbeats 1000000 in
theorem order_any (p k : Int) (w : World) (hP : Primes w) :
    Calls Tryd.prog 40 #[.int .i64 p, .int .i64 k] w fun e w' => e = .returned (.tuple #[.int .i64 (ordF p k), .bool (ordF p k != 0)]) ∧ w = w' := by
  have HQ := Lib.hid (primeF_any p w hP)
  clear hP
  cases hp : primeF p with
  | false =>
    have HV : Hid (ordF p k = 0) := by show _ = _; unfold ordF; rw [if_neg (by rw [hp]; simp)]
    rw [hp] at HQ
    clear hp
    go_enter Tryd.func40, Tryd.ntmps40
    go_wp2_with (go_at_call 59; refine HQ.out.mono ?_; rintro e w1 ⟨rfl, rfl⟩)
    go_ret2
    exact ⟨by rw [HV.out]; rfl, rfl⟩
  | true =>
    obtain ⟨h2, h61⟩ := prime_bd hp
    have HPP := Lib.hid hp
    rw [hp] at HQ
    clear hp
    by_cases h1 : k < 1
    · have HV : Hid (ordF p k = 0) := by show _ = _; unfold ordF; rw [if_neg (by omega)]
      have b1 : decide (k < 1) = true := decide_eq_true h1
      go_enter Tryd.func40, Tryd.ntmps40
      go_wp2_with (go_at_call 59; refine HQ.out.mono ?_; rintro e w1 ⟨rfl, rfl⟩)
      go_ret2
      exact ⟨by rw [HV.out]; rfl, rfl⟩
    · have b1 : decide (k < 1) = false := decide_eq_false h1
      by_cases h6 : 6 < k
      · have HV : Hid (ordF p k = 0) := by show _ = _; unfold ordF; rw [if_neg (by omega)]
        have b2 : decide (6 < k) = true := decide_eq_true h6
        go_enter Tryd.func40, Tryd.ntmps40
        go_wp2_with (go_at_call 59; refine HQ.out.mono ?_; rintro e w1 ⟨rfl, rfl⟩)
        go_ret2
        exact ⟨by rw [HV.out]; rfl, rfl⟩
      · have b2 : decide (6 < k) = false := decide_eq_false h6
        obtain ⟨P, rfl⟩ : ∃ P : Nat, p = P := ⟨p.toNat, by omega⟩
        obtain ⟨K, rfl⟩ : ∃ K : Nat, k = K := ⟨k.toNat, by omega⟩
        have HV : Hid (ordF P K = if P ^ K ≤ 64 then P ^ K else 0) := by
          show _ = _
          unfold ordF
          rw [Int.toNat_natCast, Int.toNat_natCast]
          by_cases h : P ^ K ≤ 64
          · rw [if_pos ⟨HPP.out, by omega, by omega, h⟩, if_pos h]
          · rw [if_neg (fun hc => h hc.2.2.2), if_neg h]
        go_enter Tryd.func40, Tryd.ntmps40
        go_wp2_with (go_at_call 59; refine HQ.out.mono ?_; rintro e w1 ⟨rfl, rfl⟩)
        go_loop [6, 19] (fun q a => ∃ i Q : Nat, i ≤ K ∧ a = .int .i64 i ∧ q = .int .i64 Q ∧ Q ≤ 64 ∧ Hid (Q = P ^ i)) (fun _ a => K - (intOf a).toNat)
        case atStart => exact ⟨0, 1, by omega, rfl, rfl, by omega, by show _ = _; simp⟩
        case round =>
          obtain ⟨i, Q, hi, rfl, rfl, hQ, HQP⟩ := hrel
          by_cases hlt : i < K
          · obtain ⟨R, hR⟩ : ∃ R, Q * P = R := ⟨_, rfl⟩
            have hR' : (Q : Int) * (P : Int) = R := by rw [← hR, Int.natCast_mul]
            have hRb : R ≤ 64 * 61 := by rw [← hR]; exact Nat.mul_le_mul hQ (by omega)
            have HRP : Hid (R = P ^ (i + 1)) := by show _ = _; rw [← hR, HQP.out, Nat.pow_succ]
            clear hR
            by_cases h64 : 64 < R
            · have HN : Hid (ordF P K = 0) := by
                show _ = _
                have : P ^ (i + 1) ≤ P ^ K := Nat.pow_le_pow_right (by omega) (by omega)
                rw [HV.out, if_neg (by rw [← HRP.out] at this; omega)]
              go_wp2
              go_ret2
              exact ⟨by rw [HN.out]; rfl, rfl⟩
            · go_wp2
              go_round
              case rel => exact ⟨i + 1, R, by omega, by go_num, rfl, by omega, HRP⟩
              case measure => simp [intOf]; omega
          · obtain rfl : K = i := by omega
            have HN : Hid (ordF P K = Q) := by show _ = _; rw [HV.out, ← HQP.out, if_pos hQ]
            have HN2 : Hid (Q ≠ 0) := by show Q ≠ 0; rw [HQP.out]; exact Nat.pos_iff_ne_zero.1 (Nat.pow_pos (by omega))
            go_wp2
            go_ret2
            exact ⟨by rw [HN.out, show (Q != 0) = true from by rw [bne_iff_ne]; exact HN2.out]; rfl, rfl⟩

end Go.Proofs.YthkafhmciapipaaDoor
