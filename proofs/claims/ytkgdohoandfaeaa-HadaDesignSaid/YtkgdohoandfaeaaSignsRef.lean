/- What parterreref3.SignsFault answers. Conditions: as each theorem says. -/
import Derived.Test.YtkgdohoandfaeaaSigns
namespace Go.Proofs.Ytkgdohoandfaeaa
open Go.RowKit

set_option maxHeartbeats 400000 in
theorem fault_range (m : Int) (ao : Option Addr) (len cap : Nat) (w : World) (hm : m < 1 ∨ 24 < m) :
    Calls Try.prog 5 #[.agg #[.int .i64 m, .slice ao len cap]] w fun e w' => e = .returned (.int .i64 1) ∧ Below w.heap.size w w' := by
  rcases hm with hm | hm
  · have b1 : decide (m < 1) = true := decide_eq_true hm
    go_enter Try.func5, Try.ntmps5
    go_wp2
    go_ret
    exact ⟨rfl, (Below.refl _ _).alloc (Nat.le_refl _) _⟩
  · have b1 : decide (m < 1) = false := decide_eq_false (by omega)
    have b2 : decide (24 < m) = true := decide_eq_true hm
    go_enter Try.func5, Try.ntmps5
    go_wp2
    go_ret
    exact ⟨rfl, (Below.refl _ _).alloc (Nat.le_refl _) _⟩

set_option maxHeartbeats 400000 in
theorem fault_shape (n : Nat) (ao : Option Addr) (len cap : Nat) (w : World) (h1 : 1 ≤ n) (h24 : n ≤ 24) (hl : len ≠ n * n) :
    Calls Try.prog 5 #[.agg #[.int .i64 n, .slice ao len cap]] w fun e w' => e = .returned (.int .i64 2) ∧ Below w.heap.size w w' := by
  have b1 : decide ((n : Int) < 1) = false := decide_eq_false (by omega)
  have b2 : decide (24 < (n : Int)) = false := decide_eq_false (by omega)
  have hm1 : 0 ≤ (n : Int) * n := Int.mul_nonneg (by omega) (by omega)
  have hm2 : (n : Int) * n ≤ 24 * 24 := Int.mul_le_mul (by omega) (by omega) (by omega) (by omega)
  have b3 : ((len : Int) != (n : Int) * n) = true := by rw [bne_iff_ne, ← Int.natCast_mul]; omega
  clear hl
  go_enter Try.func5, Try.ntmps5
  go_wp2
  go_ret
  exact ⟨rfl, (Below.refl _ _).alloc (Nat.le_refl _) _⟩

set_option maxHeartbeats 400000 in
theorem fault_sign (n : Nat) (ao : Option Addr) (cap : Nat) (xs : List Int) (w : World) (h1 : 1 ≤ n) (h24 : n ≤ 24) (hl : xs.length = n * n) (hs : xs.any notSign = true) (hr : Reads w ao (ints xs)) :
    Calls Try.prog 5 #[.agg #[.int .i64 n, .slice ao (n * n : Nat) cap]] w fun e w' => e = .returned (.int .i64 1) ∧ Below w.heap.size w w' := by
  have b1 : decide ((n : Int) < 1) = false := decide_eq_false (by omega)
  have b2 : decide (24 < (n : Int)) = false := decide_eq_false (by omega)
  have hm1 : 0 ≤ (n : Int) * n := Int.mul_nonneg (by omega) (by omega)
  have hm2 : (n : Int) * n ≤ 24 * 24 := Int.mul_le_mul (by omega) (by omega) (by omega) (by omega)
  have hq := sq_bound h24
  have HLEN : ∃ len : Nat, Hid (len = n * n) := ⟨_, rfl⟩
  obtain ⟨len, HLEN⟩ := HLEN
  rw [← HLEN.out] at hl hq ⊢
  have b3 : ((len : Int) != (n : Int) * n) = false := by rw [HLEN.out, Int.natCast_mul]; simp
  have HS := Lib.hid hs
  have HR := Lib.hid hr
  have HL := Lib.hid hl
  clear hl hs hr
  go_enter Try.func5, Try.ntmps5
  go_wp2
  have HB : Hid (Below w.heap.size w (w.alloc (.cells #[.int .i64 n, .slice ao len cap] 24))) := (Below.refl _ _).alloc (Nat.le_refl _) _
  have HX0 : Hid ((w.alloc (.cells #[.int .i64 n, .slice ao len cap] 24)).cell? ⟨w.heap.size, 1, none⟩ = some (.slice ao len cap)) := by
    show World.cell? _ _ = _
    simp [World.cell?_alloc_at]
  obtain ⟨w0, hw0⟩ : ∃ w0, w0 = w.alloc (.cells #[.int .i64 n, .slice ao len cap] 24) := ⟨_, rfl⟩
  rw [← hw0] at HB HX0 ⊢
  have c3 := HX0.out
  clear hw0
  go_loop [4] (fun i => ∃ j : Nat, j ≤ len ∧ i = .int .i64 j ∧ ∀ i, i < j → notSign (nth xs i) = false) (fun i => len - (intOf i).toNat)
  case atStart => exact ⟨0, by omega, rfl, fun i hi => by omega⟩
  case round =>
    obtain ⟨j, hj, rfl, hall⟩ := hrel
    have HA := Lib.hid hall
    clear hall
    by_cases hlt : j < len
    · obtain ⟨b, off, rfl, hbl, hc⟩ := Reads.int HR.out (by rw [HL.out]; omega)
      have hck : w0.cell? ⟨b, off + j, none⟩ = some (.int .i64 (nth xs j)) := by rw [HB.out.cell (by exact hbl)]; exact hc j (by rw [HL.out]; omega)
      clear hc
      obtain ⟨x, hx⟩ : ∃ x, nth xs j = x := ⟨_, rfl⟩
      have HXJ := Lib.hid hx
      rw [hx] at hck
      clear hx
      by_cases hb0 : x = 1 ∨ x = -1
      · have HB0 := Lib.hid hb0
        rcases hb0 with rfl | rfl
        all_goals
          go_wp2
          go_round
          case rel => exact ⟨j + 1, by omega, by go_num, fun i hi => by
            rcases Nat.lt_succ_iff_lt_or_eq.1 hi with h | rfl
            · exact HA.out i h
            · rw [HXJ.out]; exact notSign_false HB0.out⟩
          case measure => simp [intOf]; omega
      · have b4 : (x != 1) = true := by rw [bne_iff_ne]; omega
        have b5 : (x != -1) = true := by rw [bne_iff_ne]; omega
        clear hb0
        go_wp2
        go_ret
        exact ⟨rfl, HB.out⟩
    · exfalso
      have hx := HS.out
      rw [List.any_eq_true] at hx
      obtain ⟨x, hm, hp⟩ := hx
      obtain ⟨i, hi, rfl⟩ := mem_nth xs x hm
      rw [HA.out i (by rw [HL.out] at hi; omega)] at hp
      cases hp

set_option maxHeartbeats 1000000 in
theorem fault_dots (n : Nat) (ao : Option Addr) (cap : Nat) (xs : List Int) (r : Int) (w : World) (hm : IsMat n xs) (hr : Reads w ao (ints xs))
    (hz : (∀ i k, i < n → k < i → dotTo xs n i k n = 0) → r = 0) (hb : ∀ i k, i < n → k < i → dotTo xs n i k n ≠ 0 → r = 4) :
    Calls Try.prog 5 #[.agg #[.int .i64 n, .slice ao (n * n : Nat) cap]] w fun e w' => e = .returned (.int .i64 r) ∧ Below w.heap.size w w' := by
  have h1 := hm.one
  have h24 := hm.big
  have b1 : decide ((n : Int) < 1) = false := decide_eq_false (by omega)
  have b2 : decide (24 < (n : Int)) = false := decide_eq_false (by omega)
  have hm1 : 0 ≤ (n : Int) * n := Int.mul_nonneg (by omega) (by omega)
  have hm2 : (n : Int) * n ≤ 24 * 24 := Int.mul_le_mul (by omega) (by omega) (by omega) (by omega)
  have hq := sq_bound h24
  have HL : Hid (xs.length = n * n) := hm.len
  have HLEN : ∃ len : Nat, Hid (len = n * n) := ⟨_, rfl⟩
  obtain ⟨len, HLEN⟩ := HLEN
  rw [← HLEN.out] at hq HL ⊢
  have b3 : ((len : Int) != (n : Int) * n) = false := by rw [HLEN.out, Int.natCast_mul]; simp
  have hlen0 : 0 < len := by rw [HLEN.out]; exact Nat.mul_pos h1 h1
  obtain ⟨b, off, rfl, hbl, hc⟩ := Reads.int hr (by rw [HL.out]; exact hlen0)
  have HM := Lib.hid hm
  have HZ := Lib.hid hz
  have HBD := Lib.hid hb
  have HSG : Hid (∀ j, j < len → nth xs j = 1 ∨ nth xs j = -1) := fun j hj => nth_sign hm j (by rw [← HLEN.out]; exact hj)
  rw [HL.out] at hc
  have HC := Lib.hid hc
  clear hm hr hz hb hc
  go_enter Try.func5, Try.ntmps5
  go_wp2
  have HB : Hid (Below w.heap.size w (w.alloc (.cells #[.int .i64 n, .slice (some ⟨b, off, none⟩) len cap] 24))) := (Below.refl _ _).alloc (Nat.le_refl _) _
  have HX0 : Hid ((w.alloc (.cells #[.int .i64 n, .slice (some ⟨b, off, none⟩) len cap] 24)).cell? ⟨w.heap.size, 1, none⟩ = some (.slice (some ⟨b, off, none⟩) len cap)) := by
    show World.cell? _ _ = _
    simp [World.cell?_alloc_at]
  obtain ⟨w0, hw0⟩ : ∃ w0, w0 = w.alloc (.cells #[.int .i64 n, .slice (some ⟨b, off, none⟩) len cap] 24) := ⟨_, rfl⟩
  rw [← hw0] at HB HX0 ⊢
  clear hw0
  have HC0 : Hid (∀ j, j < len → w0.cell? ⟨b, off + j, none⟩ = some (.int .i64 (nth xs j))) := fun j hj => by rw [HB.out.cell (by exact hbl)]; exact HC.out j hj
  clear HC
  have c3' := HX0.out
  go_loop [4] (fun i => ∃ j : Nat, j ≤ len ∧ i = .int .i64 j) (fun i => len - (intOf i).toNat)
  case atStart => exact ⟨0, by omega, rfl⟩
  case round =>
    obtain ⟨j, hj, rfl⟩ := hrel
    by_cases hlt : j < len
    · have hck := HC0.out j hlt
      have hsg := HSG.out j hlt
      obtain ⟨x, hx⟩ : ∃ x, nth xs j = x := ⟨_, rfl⟩
      rw [hx] at hck hsg
      clear hx
      rcases hsg with rfl | rfl
      all_goals
        go_wp2
        go_round
        case rel => exact ⟨j + 1, by omega, by go_num⟩
        case measure => simp [intOf]; omega
    · obtain rfl : j = len := by omega
      go_wp2
      clear c3'
      go_loopw [5] (fun a wr => ∃ i : Nat, i ≤ n ∧ a = .int .i64 i ∧ Drawn w0 wr ∧ ∀ p q, p < i → q < p → dotTo xs n p q n = 0) (fun i _ => n - (intOf i).toNat)
      case atStart => exact ⟨0, by omega, rfl, Drawn.refl _, fun p q hp => by omega⟩
      case round =>
        obtain ⟨i, hi, rfl, hd, hall⟩ := hrel
        have HD := Lib.hid hd
        have HA := Lib.hid hall
        clear hd hall
        by_cases hin : i < n
        · go_wp2
          go_loopw [6] (fun a wr => ∃ k : Nat, k ≤ i ∧ a = .int .i64 k ∧ Drawn w0 wr ∧ ∀ q, q < k → dotTo xs n i q n = 0) (fun i' _ => i - (intOf i').toNat)
          case atStart => exact ⟨0, by omega, rfl, HD.out, fun q hq => by omega⟩
          case round =>
            obtain ⟨k, hk, rfl, hd2, hall2⟩ := hrel
            have HD2 := Lib.hid hd2
            have HA2 := Lib.hid hall2
            clear hd2 hall2
            by_cases hki : k < i
            · have HBN : Hid (∀ j, j ≤ n → -(j : Int) ≤ dotTo xs n i k j ∧ dotTo xs n i k j ≤ j) := dotTo_bound HM.out i k hin (by omega)
              go_wp2
              go_loopw [7, 8] (fun s a wr => ∃ q : Nat, q ≤ n ∧ a = .int .i64 q ∧ s = .int .i64 (dotTo xs n i k q) ∧ Drawn w0 wr) (fun _ i' _ => n - (intOf i').toNat)
              case atStart => exact ⟨0, by omega, rfl, rfl, HD2.out⟩
              case round =>
                obtain ⟨q, hq', rfl, rfl, hd3⟩ := hrel
                have HD3 := Lib.hid hd3
                clear hd3
                have hbn := HBN.out q hq'
                by_cases hqn : q < n
                · have p1 := place_lt hin hqn
                  have p2 := place_lt (show k < n by omega) hqn
                  rw [← HLEN.out] at p1 p2
                  have s1 := HSG.out _ p1
                  have s2 := HSG.out _ p2
                  have c1 := HC0.out _ p1
                  have c2 := HC0.out _ p2
                  rw [← HD3.out.cell] at c1 c2
                  have c3 := HX0.out
                  rw [← HD3.out.cell] at c3
                  have HS : Hid (dotTo xs n i k (q + 1) = dotTo xs n i k q + nth xs (i * n + q) * nth xs (k * n + q)) := rfl
                  obtain ⟨x, hx⟩ : ∃ x, nth xs (i * n + q) = x := ⟨_, rfl⟩
                  obtain ⟨y, hy⟩ : ∃ y, nth xs (k * n + q) = y := ⟨_, rfl⟩
                  obtain ⟨s, hs⟩ : ∃ s, dotTo xs n i k q = s := ⟨_, rfl⟩
                  rw [hx] at s1 c1 HS
                  rw [hy] at s2 c2 HS
                  rw [hs] at hbn HS ⊢
                  have hxy : -1 ≤ x * y ∧ x * y ≤ 1 := by rcases s1 with rfl | rfl <;> rcases s2 with rfl | rfl <;> decide
                  obtain ⟨hxy1, hxy2⟩ := hxy
                  obtain ⟨hbn1, hbn2⟩ := hbn
                  obtain ⟨u, hu⟩ : ∃ u, i * n = u := ⟨_, rfl⟩
                  obtain ⟨v, hv⟩ : ∃ v, k * n = v := ⟨_, rfl⟩
                  have hu' : (i : Int) * (n : Int) = u := by rw [← hu, Int.natCast_mul]
                  have hv' : (k : Int) * (n : Int) = v := by rw [← hv, Int.natCast_mul]
                  rw [hu] at p1 c1
                  rw [hv] at p2 c2
                  clear hx hy hs s1 s2 hu hv
                  go_wp2_with fail
                  go_quiet (fail)
                  go_wp2
                  go_roundw
                  case rel => exact ⟨q + 1, by omega, by go_num, by rw [HS.out], HD3.out.trans (Drawn.drewN _ _)⟩
                  case measure => simp [intOf]; omega
                · obtain rfl : q = n := by omega
                  by_cases hzero : dotTo xs q i k q = 0
                  · have b4 : (dotTo xs q i k q != 0) = false := by rw [hzero]; rfl
                    have HZZ := Lib.hid hzero
                    clear hzero
                    obtain ⟨s, hs⟩ : ∃ s, dotTo xs q i k q = s := ⟨_, rfl⟩
                    rw [hs] at b4 hbn ⊢
                    clear hs
                    go_wp2
                    go_roundw
                    case rel => exact ⟨k + 1, by omega, by go_num, HD3.out, fun p hp => by
                      rcases Nat.lt_succ_iff_lt_or_eq.1 hp with h | rfl
                      · exact HA2.out p h
                      · exact HZZ.out⟩
                    case measure => simp [intOf]; omega
                  · have b4 : (dotTo xs q i k q != 0) = true := by rw [bne_iff_ne]; exact hzero
                    have HR4 := Lib.hid (HBD.out i k hin hki hzero)
                    clear hzero
                    obtain ⟨s, hs⟩ : ∃ s, dotTo xs q i k q = s := ⟨_, rfl⟩
                    rw [hs] at b4 hbn ⊢
                    clear hs
                    go_wp2
                    go_ret
                    exact ⟨by rw [HR4.out]; rfl, HB.out.trans (HD3.out.below _)⟩
            · obtain rfl : k = i := by omega
              go_wp2
              go_roundw
              case rel => exact ⟨k + 1, by omega, by go_num, HD2.out, fun p q hp hq => by
                rcases Nat.lt_succ_iff_lt_or_eq.1 hp with h | rfl
                · exact HA.out p q h hq
                · exact HA2.out q hq⟩
              case measure => simp [intOf]; omega
        · obtain rfl : i = n := by omega
          have HR0 := Lib.hid (HZ.out HA.out)
          go_wp2
          go_ret
          exact ⟨by rw [HR0.out]; rfl, HB.out.trans (HD.out.below _)⟩

end Go.Proofs.Ytkgdohoandfaeaa
