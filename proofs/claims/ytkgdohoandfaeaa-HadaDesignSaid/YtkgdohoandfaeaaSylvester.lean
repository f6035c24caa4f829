/- What hada.Sylvester answers; hadaFact. -/
import Derived.Test.YtkgdohoandfaeaaFilled
import Derived.Test.YtkgdohoandfaeaaOnes
import Derived.Test.YtkgdohoandfaeaaHadaFault
namespace Go.Proofs.Ytkgdohoandfaeaa
open Go.RowKit

/-- A sign. -/
def sgB (b : Bool) : Int := if b then 1 else -1

set_option maxHeartbeats 400000 in
theorem sign_any (b : Bool) (w : World) : Calls Try.prog 29 #[.bool b] w fun e w' => e = .returned (.int .i64 (sgB b)) ∧ w = w' := by
  cases b
  all_goals
    go_enter Try.func29, Try.ntmps29
    go_wp2
    go_ret
    exact ⟨rfl, rfl⟩

theorem nat_ofInt (a : Nat) (ha : a < 9223372036854775808) : (BitVec.ofInt 64 (a : Int)).toNat = a := by
  rw [BitVec.ofInt_natCast, BitVec.toNat_ofNat]; exact Nat.mod_eq_of_lt (by omega)
theorem land_bits (a b : Nat) (ha : a < 9223372036854775808) (hb : b < 9223372036854775808) : bits .and .i64 (a : Int) (b : Int) = ((a &&& b : Nat) : Int) := by
  have hx : a &&& b < 2 ^ 63 := Nat.and_lt_two_pow _ (by omega)
  show IntKind.i64.wrap ((BitVec.ofInt 64 (a : Int) &&& BitVec.ofInt 64 (b : Int)).toNat : Int) = _
  rw [BitVec.toNat_and, nat_ofInt a ha, nat_ofInt b hb, IntKind.wrap_i64]
  omega

/-- Sylvester's cells. -/
def sylCell (i j : Nat) : Int := sgB (onesOf (i &&& j) % 2 == 0)

set_option maxHeartbeats 400000 in
theorem syl1_any (i j : Nat) (w : World) (hi : i < 256) (hj : j < 256) :
    Calls Try.prog 28 #[.int .i64 i, .int .i64 j] w fun e w' => e = .returned (.int .i64 (sylCell i j)) ∧ w = w' := by
  have hb := land_bits i j (by omega) (by omega)
  have hv : i &&& j < 256 := Nat.lt_of_le_of_lt Nat.and_le_left hi
  have HS : Hid (sylCell i j = sgB (onesOf (i &&& j) % 2 == 0)) := rfl
  obtain ⟨v, hv2⟩ : ∃ v, i &&& j = v := ⟨_, rfl⟩
  rw [hv2] at hb hv HS
  have HO := Lib.hid (ones_any v w hv)
  obtain ⟨c, hc⟩ : ∃ c, onesOf v = c := ⟨_, rfl⟩
  rw [hc] at HO HS
  have hd : ((c : Int) % 2 == 0) = (c % 2 == 0) := by
    rcases Nat.mod_two_eq_zero_or_one c with h | h
    · rw [show (c : Int) % 2 = 0 by omega, h]; rfl
    · rw [show (c : Int) % 2 = 1 by omega, h]; rfl
  clear hc hv2
  cases hq : (c % 2 == 0)
  all_goals
    rw [hq] at hd HS
    clear hq
    go_enter Try.func28, Try.ntmps28
    go_wp2_with (first
      | (go_at_call 30; refine HO.out.mono ?_; rintro e w' ⟨rfl, rfl⟩)
      | (go_at_call 29; refine (sign_any _ _).mono ?_; rintro e w' ⟨rfl, rfl⟩))
    go_ret
    exact ⟨by rw [HS.out]; rfl, rfl⟩

theorem cellOn_syl (k : Nat) (w : World) (hk : k ≤ 4) : CellOn 28 #[] (2 ^ k) sylCell w := by
  intro i j hi hj w' _
  have h16 : 2 ^ k ≤ 2 ^ 4 := Nat.pow_le_pow_right (by omega) hk
  exact (syl1_any i j w' (by omega) (by omega)).mono fun e w'' ⟨he, hw⟩ => ⟨he, hw ▸ Drawn.refl _⟩

theorem enter_syl1 : ∀ args w, (callFunc 28 args).run Try.prog w = .ok (.enter 28 args) w := fun _ _ => rfl

set_option maxHeartbeats 400000 in
theorem sylvester_bad (k : Int) (w : World) (hk : k < 0 ∨ 4 < k) :
    Calls Try.prog 19 #[.int .i64 k] w fun e w' => e = .returned (.tuple #[.agg #[.int .i64 0, .slice none 0 0], .int .i64 1]) ∧ Below w.heap.size w w' := by
  rcases hk with hk | hk
  · have b1 : decide (k < 0) = true := decide_eq_true hk
    go_enter Try.func19, Try.ntmps19
    go_wp2
    exact bodyPost_ret (v := .tuple #[.agg #[.int .i64 0, .slice none 0 0], .int .i64 1]) (by simp [results, Try.results19, go_sem]) rfl ⟨rfl, (Below.refl _ _).alloc (Nat.le_refl _) _⟩
  · have b1 : decide (k < 0) = false := decide_eq_false (by omega)
    have b2 : decide (4 < k) = true := decide_eq_true hk
    go_enter Try.func19, Try.ntmps19
    go_wp2
    exact bodyPost_ret (v := .tuple #[.agg #[.int .i64 0, .slice none 0 0], .int .i64 1]) (by simp [results, Try.results19, go_sem]) rfl ⟨rfl, (Below.refl _ _).alloc (Nat.le_refl _) _⟩

set_option maxHeartbeats 1000000 in
theorem sylvester_ok (k : Nat) (w : World) (hk : k ≤ 4) :
    Calls Try.prog 19 #[.int .i64 k] w fun e w' =>
      ∃ ao cap, e = .returned (.tuple #[.agg #[.int .i64 (2 ^ k : Nat), .slice ao (2 ^ k * 2 ^ k) cap], .int .i64 0]) ∧ RowOf 3 w' w.heap.size ao (2 ^ k * 2 ^ k) cap (ints (tab (flat (2 ^ k) sylCell) (2 ^ k * 2 ^ k))) ∧ Below w.heap.size w w' := by
  have h16 : 2 ^ k ≤ 2 ^ 4 := Nat.pow_le_pow_right (by omega) hk
  have hsh : wrap64 (2 ^ k) = ((2 ^ k : Nat) : Int) := by
    rw [show ((2 : Int) ^ k) = ((2 ^ k : Nat) : Int) by simp]
    generalize 2 ^ k = z at *
    exact IntWalk.wrap64_in _ (by omega)
  have hf := filled_any 28 #[] (2 ^ k) sylCell (w.alloc (.cells #[.int .i64 0, .slice none 0 0] 24)) (by omega) (cellOn_syl k _ hk) enter_syl1
  obtain ⟨n, hn⟩ : ∃ n, 2 ^ k = n := ⟨_, rfl⟩
  rw [hn] at hsh hf ⊢
  have HF := Lib.hid hf
  have b1 : decide ((k : Int) < 0) = false := decide_eq_false (by omega)
  have b2 : decide (4 < (k : Int)) = false := decide_eq_false (by omega)
  have HX : Hid (BoxAt (w.alloc (.cells #[.int .i64 0, .slice none 0 0] 24)) w.heap.size (.int .i64 0) (.slice none 0 0)) := BoxAt.new _ _ _ _
  clear hf hn
  go_enter Try.func19, Try.ntmps19
  go_wp2_with (go_at_call 26; refine HF.out.mono ?_; rintro e w1 ⟨ao, cap, rfl, hrow, hb⟩; have k0 := (HX.out.carry (hb.block w.heap.size (by simp))).c0; have k1 := (HX.out.carry (hb.block w.heap.size (by simp))).c1; have k2 := (HX.out.carry (hb.block w.heap.size (by simp))).f0; have k3 := (HX.out.carry (hb.block w.heap.size (by simp))).f1)
  have HPUT := Lib.hid ((BoxAt.mk k0 k1 k2 k3).put (.int .i64 n) (.slice ao (n * n) cap))
  have e0 := HPUT.out.c0
  have e1 := HPUT.out.c1
  refine bodyPost_ret (v := .tuple #[.agg #[.int .i64 n, .slice ao (n * n) cap], .int .i64 0]) (by simp [results, Try.results19, go_sem, e0, e1]) rfl ⟨ao, cap, rfl, ?_, ?_⟩
  · exact ((hrow.beside ⟨w.heap.size, 0, none⟩ (by simp) _).beside ⟨w.heap.size, 1, none⟩ (by simp) _).mono (by simp)
  · exact ((((Below.refl _ _).alloc (Nat.le_refl _) _).trans (hb.mono (by simp))).setCell (p := ⟨w.heap.size, 0, none⟩) (Nat.le_refl _) _).setCell (p := ⟨w.heap.size, 1, none⟩) (Nat.le_refl _) _

end Go.Proofs.Ytkgdohoandfaeaa
