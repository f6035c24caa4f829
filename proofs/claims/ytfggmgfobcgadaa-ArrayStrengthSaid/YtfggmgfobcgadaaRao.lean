/- What array.times, term and Rao answer. Conditions: as each theorem says. -/
import Derived.Test.YtfggmgfobcgadaaBase
namespace Go.Proofs.Ytfggmgfobcgadaa
open Go.RowKit

/-- A product, at most 10^18 + 1. -/
def satMul (a b : Int) : Int := if 0 < a ∧ 1000000000000000000 / a < b then 1000000000000000001 else a * b

set_option maxHeartbeats 400000 in
theorem times_any (a b : Int) (w : World) (ha : 1 ≤ a) (hb : 1 ≤ b) (ha' : a ≤ 1000000000000000001) (hb' : b ≤ 1000) :
    Calls Try.prog 39 #[.int .i64 a, .int .i64 b] w fun e w' => e = .returned (.int .i64 (satMul a b)) ∧ w = w' := by
  by_cases h : 1000000000000000000 / a < b
  · have HT := Lib.hid (show satMul a b = 1000000000000000001 by unfold satMul; rw [if_pos ⟨by omega, h⟩])
    have h0 : decide (0 < a) = true := decide_eq_true (by omega)
    go_enter Try.func39, Try.ntmps39
    go_wp2
    go_ret
    exact ⟨by rw [HT.out]; rfl, rfl⟩
  · have HT := Lib.hid (show satMul a b = a * b by unfold satMul; rw [if_neg (fun hh => h hh.2)])
    have h0 : decide (0 < a) = true := decide_eq_true (by omega)
    have hm : a * b ≤ 1000000000000000000 := by
      have h5 : b ≤ 1000000000000000000 / a := by omega
      have h6 := Int.mul_le_mul_of_nonneg_left h5 (show 0 ≤ a by omega)
      have h7 := Int.mul_ediv_self_le (x := 1000000000000000000) (k := a) (by omega)
      omega
    have hm0 : 0 ≤ a * b := Int.mul_nonneg (by omega) (by omega)
    go_enter Try.func39, Try.ntmps39
    go_wp2
    go_ret
    exact ⟨by rw [HT.out]; simp, rfl⟩

theorem satMul_bound (a b : Int) (ha : 1 ≤ a) (hb : 1 ≤ b) : 1 ≤ satMul a b ∧ satMul a b ≤ 1000000000000000001 := by
  unfold satMul
  split
  · omega
  · rename_i h
    have h5 : b ≤ 1000000000000000000 / a := by
      rcases Int.lt_or_le (1000000000000000000 / a) b with h1 | h1
      · exact absurd ⟨by omega, h1⟩ h
      · exact h1
    have h6 := Int.mul_le_mul_of_nonneg_left h5 (show 0 ≤ a by omega)
    have h7 := Int.mul_ediv_self_le (x := 1000000000000000000) (k := a) (by omega)
    have h8 := Int.mul_le_mul ha hb (by omega) (show 0 ≤ a by omega)
    omega

/-- The ways to choose, by multiplying. -/
def binM (n : Nat) : Nat → Int
  | 0 => 1
  | i + 1 => binM n i * ((n : Int) - i) / (i + 1)
theorem binM_check : ((List.range 31).all fun n => (List.range (n + 1)).all fun i => decide (1 ≤ binM n i ∧ binM n i ≤ 200000000)) = true := by decide +kernel
theorem binM_bound (n i : Nat) (hn : n ≤ 30) (hi : i ≤ n) : 1 ≤ binM n i ∧ binM n i ≤ 200000000 := by
  have h := binM_check
  rw [List.all_eq_true] at h
  have h := h n (List.mem_range.2 (by omega))
  rw [List.all_eq_true] at h
  exact of_decide_eq_true (h i (List.mem_range.2 (by omega)))

def termS (a c : Int) : Nat → Int
  | 0 => c
  | j + 1 => satMul (termS a c j) a
theorem termS_bound (a c : Int) (ha : 1 ≤ a) (hc : 1 ≤ c) (hc' : c ≤ 200000000) : ∀ j, 1 ≤ termS a c j ∧ termS a c j ≤ 1000000000000000001
  | 0 => by unfold termS; omega
  | j + 1 => satMul_bound _ _ (termS_bound a c ha hc hc' j).1 ha

set_option maxHeartbeats 400000 in
theorem term_any (a : Int) (p n i : Nat) (w : World) (ha : 1 ≤ a) (ha' : a ≤ 100) (hp : p ≤ 100) (hn : n ≤ 30) (hi : i ≤ n) :
    Calls Try.prog 23 #[.int .i64 a, .int .i64 p, .int .i64 n, .int .i64 i] w fun e w' => e = .returned (.int .i64 (termS a (binM n i) p)) ∧ w = w' := by
  go_enter Try.func23, Try.ntmps23
  go_wp2
  go_loop [9, 12] (fun o j => ∃ q : Nat, q ≤ i ∧ j = .int .i64 q ∧ o = .int .i64 (binM n q)) (fun _ j => i - (intOf j).toNat)
  case atStart => exact ⟨0, by omega, rfl, rfl⟩
  case round =>
    obtain ⟨q, hq, rfl, rfl⟩ := hrel
    have hb := binM_bound n q hn (by omega)
    by_cases hlt : q < i
    · have HS : Hid (binM n (q + 1) = binM n q * ((n : Int) - q) / ((q : Int) + 1)) := rfl
      obtain ⟨c, hc⟩ : ∃ c, binM n q = c := ⟨_, rfl⟩
      rw [hc] at hb HS ⊢
      clear hc
      obtain ⟨hb1, hb2⟩ := hb
      have hm1 : 0 ≤ c * ((n : Int) - q) := Int.mul_nonneg (by omega) (by omega)
      have hm2 : c * ((n : Int) - q) ≤ 200000000 * 30 := Int.mul_le_mul hb2 (by omega) (by omega) (by omega)
      go_wp2
      go_round
      case rel => exact ⟨q + 1, by omega, by go_num, by rw [HS.out]⟩
      case measure => simp [intOf]; omega
    · obtain rfl : q = i := by omega
      obtain ⟨c, hc⟩ : ∃ c, binM n q = c := ⟨_, rfl⟩
      rw [hc] at hb ⊢
      have HC := Lib.hid hc
      have HB := Lib.hid hb
      clear hc hb
      have hd : decide ((q : Int) < (q : Int)) = false := decide_eq_false (by omega)
      go_wp2
      go_loop [9, 25] (fun o j => ∃ r : Nat, r ≤ p ∧ j = .int .i64 r ∧ o = .int .i64 (termS a c r)) (fun _ j => p - (intOf j).toNat)
      case atStart => exact ⟨0, by omega, rfl, rfl⟩
      case round =>
        obtain ⟨r, hr, rfl, rfl⟩ := hrel
        by_cases hlt2 : r < p
        · have ht := termS_bound a c ha HB.out.1 HB.out.2 r
          have HS : Hid (termS a c (r + 1) = satMul (termS a c r) a) := rfl
          obtain ⟨x, hx⟩ : ∃ x, termS a c r = x := ⟨_, rfl⟩
          rw [hx] at ht HS ⊢
          clear hx
          obtain ⟨ht1, ht2⟩ := ht
          go_wp2_with (go_at_call 39; refine (times_any x a _ ht1 ha ht2 (by omega)).mono ?_; rintro e w' ⟨rfl, rfl⟩)
          go_round
          case rel => exact ⟨r + 1, by omega, by go_num, by rw [HS.out]⟩
          case measure => simp [intOf]; omega
        · obtain rfl : r = p := by omega
          go_wp2
          go_ret
          exact ⟨by rw [HC.out]; rfl, rfl⟩

/-- The sum, at most 10^18 + 1. -/
def raoSum (k : Nat) (a : Int) : Nat → Int
  | 0 => 0
  | i + 1 => if 1000000000000000001 < raoSum k a i + termS a (binM k i) i then 1000000000000000001 else raoSum k a i + termS a (binM k i) i
theorem raoSum_bound (k : Nat) (a : Int) (hk : k ≤ 30) (ha : 1 ≤ a) : ∀ i, i ≤ k + 1 → 0 ≤ raoSum k a i ∧ raoSum k a i ≤ 1000000000000000001
  | 0, _ => by unfold raoSum; omega
  | i + 1, h => by
    have h1 := raoSum_bound k a hk ha i (by omega)
    have h2 := binM_bound k i hk (by omega)
    have h3 := termS_bound a _ ha h2.1 h2.2 i
    rw [raoSum]; split <;> omega

/-- All of it. -/
def raoAll (k : Nat) (a : Int) (t : Nat) : Int := if t % 2 = 1 then raoSum k a (t / 2 + 1) + termS a (binM (k - 1) (t / 2)) (t / 2 + 1) else raoSum k a (t / 2 + 1)
def raoVal (x : Int) : Value := if 1000000000000000000 < x then .tuple #[.int .i64 0, .int .i64 3] else .tuple #[.int .i64 x, .int .i64 0]

set_option maxHeartbeats 1000000 in
theorem rao_good (k t : Nat) (s : Int) (w : World) (hk : 1 ≤ k) (hk' : k ≤ 30) (hs : 2 ≤ s) (hs' : s ≤ 64) (ht : t ≤ k) :
    Calls Try.prog 9 #[.int .i64 k, .int .i64 s, .int .i64 t] w fun e w' => e = .returned (raoVal (raoAll k (s - 1) t)) ∧ w = w' := by
  have b1 : decide ((k : Int) < 1) = false := decide_eq_false (by omega)
  have b2 : decide (30 < (k : Int)) = false := decide_eq_false (by omega)
  have b3 : decide (s < 2) = false := decide_eq_false (by omega)
  have b4 : decide (64 < s) = false := decide_eq_false (by omega)
  have b5 : decide ((t : Int) < 0) = false := decide_eq_false (by omega)
  have b6 : decide (k < t) = false := decide_eq_false (by omega)
  go_enter Try.func9, Try.ntmps9
  go_wp2
  go_loop [9, 38] (fun o j => ∃ q : Nat, q ≤ t / 2 + 1 ∧ j = .int .i64 q ∧ o = .int .i64 (raoSum k (s - 1) q)) (fun _ j => t / 2 + 1 - (intOf j).toNat)
  case atStart => exact ⟨0, by omega, rfl, rfl⟩
  case round =>
    obtain ⟨q, hq, rfl, rfl⟩ := hrel
    have hb := raoSum_bound k (s - 1) hk' (by omega) q (by omega)
    by_cases hlt : q < t / 2 + 1
    · have h2 := binM_bound k q hk' (by omega)
      have h3 := termS_bound (s - 1) _ (by omega) h2.1 h2.2 q
      have hterm := term_any (s - 1) q k q w (by omega) (by omega) (by omega) hk' (by omega)
      have HS : Hid (raoSum k (s - 1) (q + 1) = if 1000000000000000001 < raoSum k (s - 1) q + termS (s - 1) (binM k q) q then 1000000000000000001 else raoSum k (s - 1) q + termS (s - 1) (binM k q) q) := rfl
      obtain ⟨x, hx⟩ : ∃ x, raoSum k (s - 1) q = x := ⟨_, rfl⟩
      obtain ⟨y, hy⟩ : ∃ y, termS (s - 1) (binM k q) q = y := ⟨_, rfl⟩
      rw [hx] at hb HS ⊢
      rw [hy] at h3 HS hterm
      have HT := Lib.hid hterm
      clear hx hy hterm h2
      obtain ⟨hb1, hb2⟩ := hb
      obtain ⟨h31, h32⟩ := h3
      by_cases hm : 1000000000000000001 < x + y
      · have HS2 : Hid (raoSum k (s - 1) (q + 1) = 1000000000000000001) := by rw [HS.out]; exact if_pos hm
        go_wp2_with (go_at_call 23; refine HT.out.mono ?_; rintro e w' ⟨rfl, rfl⟩)
        go_round
        case rel => exact ⟨q + 1, by omega, by go_num, by rw [HS2.out]⟩
        case measure => simp [intOf]; omega
      · have HS2 : Hid (raoSum k (s - 1) (q + 1) = x + y) := by rw [HS.out]; exact if_neg hm
        go_wp2_with (go_at_call 23; refine HT.out.mono ?_; rintro e w' ⟨rfl, rfl⟩)
        go_round
        case rel => exact ⟨q + 1, by omega, by go_num, by rw [HS2.out]⟩
        case measure => simp [intOf]; omega
    · obtain rfl : q = t / 2 + 1 := by omega
      have h2 := binM_bound (k - 1) (t / 2) (by omega)
      obtain ⟨x, hx⟩ : ∃ x, raoSum k (s - 1) (t / 2 + 1) = x := ⟨_, rfl⟩
      rw [hx] at hb ⊢
      obtain ⟨hb1, hb2⟩ := hb
      by_cases hodd : t % 2 = 1
      · have hterm := term_any (s - 1) (t / 2 + 1) (k - 1) (t / 2) w (by omega) (by omega) (by omega) (by omega) (by omega)
        have h2' := h2 (by omega)
        have h3 := termS_bound (s - 1) _ (by omega) h2'.1 h2'.2 (t / 2 + 1)
        obtain ⟨y, hy⟩ : ∃ y, termS (s - 1) (binM (k - 1) (t / 2)) (t / 2 + 1) = y := ⟨_, rfl⟩
        rw [hy] at h3 hterm
        have hall : raoAll k (s - 1) t = x + y := by unfold raoAll; rw [if_pos hodd, hx, hy]
        have HALL := Lib.hid hall
        have HT := Lib.hid hterm
        have ho : ((t : Int) % 2 == 1) = true := by rw [beq_iff_eq]; omega
        have ek : ((k - 1 : Nat) : Int) = (k : Int) - 1 := by omega
        rw [ek] at HT
        have et : ((t / 2 + 1 : Nat) : Int) = (t : Int) / 2 + 1 := by omega
        have et2 : ((t / 2 : Nat) : Int) = (t : Int) / 2 := by omega
        rw [et, et2] at HT
        obtain ⟨h31, h32⟩ := h3
        clear hx hy hterm h2 h2' hall hodd ek et et2
        by_cases hbig : 1000000000000000000 < x + y
        · have HF : Hid (raoVal (x + y) = .tuple #[.int .i64 0, .int .i64 3]) := if_pos hbig
          go_wp2_with (go_at_call 23; refine HT.out.mono ?_; rintro e w' ⟨rfl, rfl⟩)
          go_ret2
          exact ⟨by rw [HALL.out, HF.out]; rfl, rfl⟩
        · have HF : Hid (raoVal (x + y) = .tuple #[.int .i64 (x + y), .int .i64 0]) := if_neg hbig
          go_wp2_with (go_at_call 23; refine HT.out.mono ?_; rintro e w' ⟨rfl, rfl⟩)
          go_ret2
          exact ⟨by rw [HALL.out, HF.out]; rfl, rfl⟩
      · have hall : raoAll k (s - 1) t = x := by unfold raoAll; rw [if_neg hodd, hx]
        have HALL := Lib.hid hall
        have ho : ((t : Int) % 2 == 1) = false := by rw [beq_eq_false_iff_ne]; omega
        clear hx h2 hall hodd
        by_cases hbig : 1000000000000000000 < x
        · have HF : Hid (raoVal x = .tuple #[.int .i64 0, .int .i64 3]) := if_pos hbig
          go_wp2
          go_ret2
          exact ⟨by rw [HALL.out, HF.out]; rfl, rfl⟩
        · have HF : Hid (raoVal x = .tuple #[.int .i64 x, .int .i64 0]) := if_neg hbig
          go_wp2
          go_ret2
          exact ⟨by rw [HALL.out, HF.out]; rfl, rfl⟩

end Go.Proofs.Ytfggmgfobcgadaa
