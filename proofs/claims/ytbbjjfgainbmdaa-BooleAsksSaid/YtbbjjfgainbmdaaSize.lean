/- What boole.size answers. Conditions: the length is 2 to the power of k up to 8; or it is none such. -/
import Derived.Test.YtbbjjfgainbmdaaBase
namespace Go.Proofs.Ytbbjjfgainbmdaa
open Go.RowKit

theorem pow_wrap (j : Nat) (h : j ≤ 8) : wrap64 ((2 : Int) ^ j) = ((2 ^ j : Nat) : Int) := by
  match j, h with
  | 0, _ => unfold wrap64; rfl
  | 1, _ => unfold wrap64; rfl
  | 2, _ => unfold wrap64; rfl
  | 3, _ => unfold wrap64; rfl
  | 4, _ => unfold wrap64; rfl
  | 5, _ => unfold wrap64; rfl
  | 6, _ => unfold wrap64; rfl
  | 7, _ => unfold wrap64; rfl
  | 8, _ => unfold wrap64; rfl
  | j + 9, h => omega

theorem pow_inj (j k : Nat) (h : (2 : Nat) ^ j = 2 ^ k) : j = k := (Nat.pow_right_inj (by omega)).1 h

set_option maxHeartbeats 400000 in
theorem size_yes (k n : Nat) (ao : Option Addr) (cap : Nat) (w : World) (hk : k ≤ 8) (hn : n = 2 ^ k) :
    Calls Try.prog 29 #[.slice ao n cap] w fun e w' => e = .returned (.tuple #[.int .i64 k, .int .i64 0]) ∧ w = w' := by
  have HN := Lib.hid hn
  clear hn
  go_enter Try.func29, Try.ntmps29
  go_wp2
  go_loop [5] (fun i => ∃ j : Nat, j ≤ k ∧ i = .int .i64 j) (fun i => 9 - (intOf i).toNat)
  case atStart => exact ⟨0, by omega, rfl⟩
  case round =>
    obtain ⟨j, hj, rfl⟩ := hrel
    by_cases hjk : j < k
    · have he : ((n : Int) == wrap64 (2 ^ j)) = false := by
        rw [beq_eq_false_iff_ne, pow_wrap j (by omega), HN.out]
        intro h
        have := pow_inj k j (Int.ofNat.inj h)
        omega
      go_wp2
      go_round
      case rel => exact ⟨j + 1, by omega, by go_num⟩
      case measure => simp [intOf]; omega
    · have he : ((n : Int) == wrap64 (2 ^ j)) = true := by
        rw [beq_iff_eq, pow_wrap j (by omega), HN.out, show j = k by omega]
      have E := Lib.hid (show j = k by omega)
      go_wp2
      go_ret2
      exact ⟨by rw [← E.out]; rfl, rfl⟩

set_option maxHeartbeats 400000 in
theorem size_no (n : Nat) (ao : Option Addr) (cap : Nat) (w : World) (hn : ∀ k, k ≤ 8 → n ≠ 2 ^ k) :
    Calls Try.prog 29 #[.slice ao n cap] w fun e w' => e = .returned (.tuple #[.int .i64 0, .int .i64 2]) ∧ w = w' := by
  have HN := Lib.hid hn
  clear hn
  go_enter Try.func29, Try.ntmps29
  go_wp2
  go_loop [5] (fun i => ∃ j : Nat, j ≤ 9 ∧ i = .int .i64 j) (fun i => 9 - (intOf i).toNat)
  case atStart => exact ⟨0, by omega, rfl⟩
  case round =>
    obtain ⟨j, hj, rfl⟩ := hrel
    by_cases hjk : j < 9
    · have he : ((n : Int) == wrap64 (2 ^ j)) = false := by
        rw [beq_eq_false_iff_ne, pow_wrap j (by omega)]
        intro h
        exact HN.out j (by omega) (Int.ofNat.inj h)
      go_wp2
      go_round
      case rel => exact ⟨j + 1, by omega, by go_num⟩
      case measure => simp [intOf]; omega
    · go_wp2
      go_ret2
      exact ⟨rfl, rfl⟩

end Go.Proofs.Ytbbjjfgainbmdaa
