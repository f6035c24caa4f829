/- What boole.greatest, Far and booleFact answer. Conditions: as each theorem says. -/
import Derived.Test.YtbbjjfgainbmdaaSpectrumOf
import Derived.Test.YtbbjjfgainbmdaaIntsEq
namespace Go.Proofs.Ytbbjjfgainbmdaa
open Go.RowKit
set_option linter.unusedVariables false

/-- The size of a number. -/
def absI (x : Int) : Int := if x < 0 then -x else x
def mostTo (xs : List Int) : Nat → Int
  | 0 => 0
  | i + 1 => if mostTo xs i < absI (nth xs i) then absI (nth xs i) else mostTo xs i
def leastTo (xs : List Int) : Nat → Int
  | 0 => absI (nth xs 0)
  | i + 1 => if absI (nth xs i) < leastTo xs i then absI (nth xs i) else leastTo xs i

theorem absI_bound (x C : Int) (h : -C ≤ x ∧ x ≤ C) : 0 ≤ absI x ∧ absI x ≤ C := by unfold absI; split <;> omega
theorem mostTo_bound (xs : List Int) (C : Int) (hC : 0 ≤ C) (hb : ∀ i, -C ≤ nth xs i ∧ nth xs i ≤ C) : ∀ i, 0 ≤ mostTo xs i ∧ mostTo xs i ≤ C
  | 0 => by unfold mostTo; omega
  | i + 1 => by
    have h1 := mostTo_bound xs C hC hb i
    have h2 := absI_bound _ C (hb i)
    rw [mostTo]; split <;> omega
theorem leastTo_bound (xs : List Int) (C : Int) (hb : ∀ i, -C ≤ nth xs i ∧ nth xs i ≤ C) : ∀ i, 0 ≤ leastTo xs i ∧ leastTo xs i ≤ C
  | 0 => by unfold leastTo; exact absI_bound _ C (hb 0)
  | i + 1 => by
    have h1 := leastTo_bound xs C hb i
    have h2 := absI_bound _ C (hb i)
    rw [leastTo]; split <;> omega

set_option maxHeartbeats 1000000 in
theorem greatest_any (b off n cap : Nat) (xs : List Int) (w : World) (hn : xs.length = n) (h0 : 0 < n) (hn8 : n ≤ 256) (hb : ∀ i, -65536 ≤ nth xs i ∧ nth xs i ≤ 65536) (hlt : b < w.heap.size) (hc : ∀ j u, (ints xs)[j]? = some u → w.cell? ⟨b, off + j, none⟩ = some u) :
    Calls Try.prog 35 #[.slice (some ⟨b, off, none⟩) n cap] w fun e w' => e = .returned (.tuple #[.int .i64 (mostTo xs n), .int .i64 (leastTo xs n)]) ∧ Drawn w w' := by
  have HN := Lib.hid hn
  have HC := Lib.hid hc
  have HB := Lib.hid hb
  have hc0 : w.cell? ⟨b, off, none⟩ = some (.int .i64 (nth xs 0)) := by have := hc 0 _ (ints_get xs 0 (by omega)); rwa [Nat.add_zero] at this
  have hb0 := hb 0
  have hl0 : leastTo xs 0 = absI (nth xs 0) := rfl
  obtain ⟨x0, hx0⟩ : ∃ x0, nth xs 0 = x0 := ⟨_, rfl⟩
  rw [hx0] at hc0 hb0 hl0
  have HL0 := Lib.hid hl0
  obtain ⟨hb01, hb02⟩ := hb0
  clear hn hc hb hx0 hl0
  by_cases hs : x0 < -x0
  all_goals
    have HS := Lib.hid hs
    go_enter Try.func35, Try.ntmps35
    go_wp2_with fail
    go_quiet (fail)
    go_wp2_with fail
    obtain ⟨w1, hw1⟩ : ∃ w1, w1 = w.drewN nq := ⟨_, rfl⟩
    have HD : Hid (Drawn w w1) := ⟨nq, hw1⟩
    rw [← hw1]
    clear hw1
    go_loop [2, 3, 16] (fun m l j => ∃ q : Nat, q ≤ n ∧ j = .int .i64 q ∧ m = .int .i64 (mostTo xs q) ∧ l = .int .i64 (leastTo xs q)) (fun _ _ j => n - (intOf j).toNat)
    case atStart => exact ⟨0, by omega, rfl, rfl, by rw [HL0.out]; unfold absI; first | (rw [if_pos (by have := HS.out; omega)]; done) | (rw [if_neg (by have := HS.out; omega)]; done)⟩
    case round =>
      obtain ⟨q, hq, rfl, rfl, rfl⟩ := hrel
      have hmb := mostTo_bound xs 65536 (by omega) HB.out q
      have hlb := leastTo_bound xs 65536 HB.out q
      by_cases hqn : q < n
      · have hcq : w1.cell? ⟨b, off + q, none⟩ = some (.int .i64 (nth xs q)) := by rw [HD.out.cell]; exact HC.out q _ (ints_get xs q (by rw [HN.out]; exact hqn))
        have hbq := HB.out q
        have HM : Hid (mostTo xs (q + 1) = if mostTo xs q < absI (nth xs q) then absI (nth xs q) else mostTo xs q) := rfl
        have HL : Hid (leastTo xs (q + 1) = if absI (nth xs q) < leastTo xs q then absI (nth xs q) else leastTo xs q) := rfl
        obtain ⟨x, hx⟩ : ∃ x, nth xs q = x := ⟨_, rfl⟩
        obtain ⟨m, hm⟩ : ∃ m, mostTo xs q = m := ⟨_, rfl⟩
        obtain ⟨l, hl⟩ : ∃ l, leastTo xs q = l := ⟨_, rfl⟩
        rw [hx] at hcq hbq HM HL
        rw [hm] at hmb HM ⊢
        rw [hl] at hlb HL ⊢
        unfold absI at HM HL
        obtain ⟨hm1, hm2⟩ := hmb
        obtain ⟨hl1, hl2⟩ := hlb
        obtain ⟨hb1, hb2⟩ := hbq
        clear hx hm hl hs
        rcases (show (x < 0 ∧ m < -x ∧ -x < l) ∨ (x < 0 ∧ m < -x ∧ l ≤ -x) ∨ (x < 0 ∧ -x ≤ m ∧ -x < l) ∨ (x < 0 ∧ -x ≤ m ∧ l ≤ -x) ∨ (0 ≤ x ∧ m < x ∧ x < l) ∨ (0 ≤ x ∧ m < x ∧ l ≤ x) ∨ (0 ≤ x ∧ x ≤ m ∧ x < l) ∨ (0 ≤ x ∧ x ≤ m ∧ l ≤ x) by omega) with ⟨h1, h2, h3⟩ | ⟨h1, h2, h3⟩ | ⟨h1, h2, h3⟩ | ⟨h1, h2, h3⟩ | ⟨h1, h2, h3⟩ | ⟨h1, h2, h3⟩ | ⟨h1, h2, h3⟩ | ⟨h1, h2, h3⟩
        all_goals
          go_wp2
          go_round
          case rel => exact ⟨q + 1, by omega, by go_num, by rw [HM.out]; congr 1; (repeat' split) <;> omega, by rw [HL.out]; congr 1; (repeat' split) <;> omega⟩
          case measure => simp [intOf]; omega
      · obtain rfl : q = n := by omega
        go_wp2
        go_ret2
        exact ⟨rfl, HD.out⟩

end Go.Proofs.Ytbbjjfgainbmdaa
