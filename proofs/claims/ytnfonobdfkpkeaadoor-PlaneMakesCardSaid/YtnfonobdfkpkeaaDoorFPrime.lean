/- What field.isPrime and field.order answer. Condition: the variable of primes holds them. -/
import Derived.Test.YtnfonobdfkpkeaaDoorPoly
import Derived.Outline
import Derived.Deep.MidRow
namespace Go.Proofs.YtnfonobdfkpkeaaDoor
open Go.RowKit

def primeF (p : Int) : Bool := primesL.contains p
theorem primes_range {w : World} (h : Primes w) : w.rangeAt 0 0 (ints primesL) := fun j v hv => by
  have hj : j < 18 := by have := (List.getElem?_eq_some_iff.1 hv).1; exact this
  rw [Nat.zero_add, h.2 j hj, ← hv, ints_get primesL j hj]
theorem prime_hit {p : Int} {k : Nat} (hk : k < 18) (h : p = nth primesL k) : primeF p = true := by
  unfold primeF; rw [List.contains_iff_mem, h]; exact nth_mem _ _ hk
theorem prime_miss {p : Int} (h : ∀ i, i < 18 → p ≠ nth primesL i) : primeF p = false := by
  unfold primeF
  cases hc : primesL.contains p with
  | false => rfl
  | true =>
    obtain ⟨k, hk, e⟩ := mem_nth _ _ (List.contains_iff_mem.1 hc)
    exact absurd e.symm (h k hk)

theorem index_prime : ∀ k : Nat, k < 18 → ∀ w, (Instr.index 71 (.agg (ints primesL).toArray) (.int .i64 (k : Int))).run Tryd.prog w = .ok (.int .i64 (nth primesL k)) w
  | 0, _ => fun _ => by kernel_rfl
  | 1, _ => fun _ => by kernel_rfl
  | 2, _ => fun _ => by kernel_rfl
  | 3, _ => fun _ => by kernel_rfl
  | 4, _ => fun _ => by kernel_rfl
  | 5, _ => fun _ => by kernel_rfl
  | 6, _ => fun _ => by kernel_rfl
  | 7, _ => fun _ => by kernel_rfl
  | 8, _ => fun _ => by kernel_rfl
  | 9, _ => fun _ => by kernel_rfl
  | 10, _ => fun _ => by kernel_rfl
  | 11, _ => fun _ => by kernel_rfl
  | 12, _ => fun _ => by kernel_rfl
  | 13, _ => fun _ => by kernel_rfl
  | 14, _ => fun _ => by kernel_rfl
  | 15, _ => fun _ => by kernel_rfl
  | 16, _ => fun _ => by kernel_rfl
  | 17, _ => fun _ => by kernel_rfl
  | n + 18, h => absurd h (by omega)

set_option maxHeartbeats 1000000 in
theorem primeF_any (p : Int) (w : World) (hP : Primes w) :
    Calls Tryd.prog 38 #[.int .i64 p] w fun e w' => e = .returned (.bool (primeF p)) ∧ w = w' := by
  have HR := Lib.hid (primes_range hP)
  clear hP
  go_enter Tryd.func38, Tryd.ntmps38
  go_wp2_with ((with_reducible refine wpList_load_mid rfl 71 (.global 0) rfl 0 0 rfl (ints primesL) (.array 18 3) HR.out Tryd.underlying71 rfl (by kernel_rfl) ?_))
  have HI : Hid (∀ k : Nat, k < 18 → ∀ w, (Instr.index 71 (.agg (ints primesL).toArray) (.int .i64 (k : Int))).run Tryd.prog w = .ok (.int .i64 (nth primesL k)) w) := index_prime
  generalize (ints primesL).toArray = A at HI ⊢
  go_loop [6] (fun a => ∃ k : Nat, k ≤ 18 ∧ a = .int .i64 k ∧ ∀ i, i < k → p ≠ nth primesL i) (fun a => 18 - (intOf a).toNat)
  case atStart => exact ⟨0, by omega, rfl, fun i h => by omega⟩
  case round =>
    obtain ⟨k, hk, rfl, hall⟩ := hrel
    have HA := Lib.hid hall
    clear hall
    by_cases hlt : k < 18
    · have hi := HI.out k hlt
      obtain ⟨x, hx⟩ : ∃ x, nth primesL k = x := ⟨_, rfl⟩
      have HX := Lib.hid hx
      rw [hx] at hi
      clear hx
      by_cases hpx : p = x
      · have b1 : (p == x) = true := by rw [beq_iff_eq]; exact hpx
        have HP := Lib.hid (prime_hit hlt (hpx.trans HX.out.symm))
        clear hpx
        go_wp2
        go_ret
        exact ⟨by rw [HP.out]; rfl, rfl⟩
      · have b1 : (p == x) = false := by rw [beq_eq_false_iff_ne]; exact hpx
        have HP := Lib.hid hpx
        clear hpx
        go_wp2
        go_round
        case rel => exact ⟨k + 1, by omega, by go_num, fun i hi => by
          rcases Nat.lt_succ_iff_lt_or_eq.1 hi with h | rfl
          · exact HA.out i h
          · rw [HX.out]; exact HP.out⟩
        case measure => simp [intOf]; omega
    · have HP : Hid (primeF p = false) := prime_miss fun i hi => HA.out i (by omega)
      go_wp2
      go_ret
      exact ⟨by rw [HP.out]; rfl, rfl⟩

end Go.Proofs.YtnfonobdfkpkeaaDoor
