/- What parterreref3.GraphFault answers at any square. (Printed by gen_graphfault.py.) -/
import Derived.Test.YtllfccfpoigigaaGraphCheck
namespace Go.Proofs.Ytllfccfpoigigaa
open Go.RowKit

theorem IsSym.all {n : Nat} {xs : List Int} (h : IsSym n xs) (i j : Nat) (hi : i < n) (hj : j < n) : nth xs (i * n + j) = nth xs (j * n + i) ∧ (i = j → nth xs (i * n + j) = 0) := by
  rcases Nat.le_total j i with hij | hij
  · exact h i j hi hij
  · have := h j i hj hij
    exact ⟨this.1.symm, fun e => by subst e; exact this.2 rfl⟩

set_option maxHeartbeats 400000 in
theorem fault_range (m : Int) (ao : Option Addr) (len cap : Nat) (w : World) (hm : m < 1 ∨ 24 < m) :
    Calls Try.prog 14 #[.agg #[.int .i64 m, .slice ao len cap]] w fun e w' => e = .returned (.int .i64 1) ∧ Ext w w' := by
  rcases hm with hm | hm
  · have b1 : decide (m < 1) = true := decide_eq_true hm
    go_enter Try.func14, Try.ntmps14
    go_wp2
    go_ret
    exact ⟨rfl, (Ext.refl _).alloc _⟩
  · have b1 : decide (m < 1) = false := decide_eq_false (by omega)
    have b2 : decide (24 < m) = true := decide_eq_true hm
    go_enter Try.func14, Try.ntmps14
    go_wp2
    go_ret
    exact ⟨rfl, (Ext.refl _).alloc _⟩

set_option maxHeartbeats 400000 in
theorem fault_shape (n : Nat) (ao : Option Addr) (len cap : Nat) (w : World) (h1 : 1 ≤ n) (h24 : n ≤ 24) (hl : len ≠ n * n) :
    Calls Try.prog 14 #[.agg #[.int .i64 n, .slice ao len cap]] w fun e w' => e = .returned (.int .i64 2) ∧ Ext w w' := by
  have b1 : decide ((n : Int) < 1) = false := decide_eq_false (by omega)
  have b2 : decide (24 < (n : Int)) = false := decide_eq_false (by omega)
  have hm1 : 0 ≤ (n : Int) * n := Int.mul_nonneg (by omega) (by omega)
  have hm2 : (n : Int) * n ≤ 24 * 24 := Int.mul_le_mul (by omega) (by omega) (by omega) (by omega)
  have b3 : ((len : Int) != (n : Int) * n) = true := by rw [bne_iff_ne, ← Int.natCast_mul]; omega
  clear hl
  go_enter Try.func14, Try.ntmps14
  go_wp2
  go_ret
  exact ⟨rfl, (Ext.refl _).alloc _⟩

set_option maxHeartbeats 1000000 in
theorem fault_bits (n : Nat) (ao : Option Addr) (cap : Nat) (xs : List Int) (w : World) (h1 : 1 ≤ n) (h24 : n ≤ 24) (hl : xs.length = n * n) (hs : xs.any notBit = true) (hr : Reads w ao (ints xs)) :
    Calls Try.prog 14 #[.agg #[.int .i64 n, .slice ao (n * n : Nat) cap]] w fun e w' => e = .returned (.int .i64 1) ∧ Ext w w' := by
  have b1 : decide ((n : Int) < 1) = false := decide_eq_false (by omega)
  have b2 : decide (24 < (n : Int)) = false := decide_eq_false (by omega)
  have hm1 : 0 ≤ (n : Int) * n := Int.mul_nonneg (by omega) (by omega)
  have hm2 : (n : Int) * n ≤ 24 * 24 := Int.mul_le_mul (by omega) (by omega) (by omega) (by omega)
  have hq := sq_bound h24
  have HLEN : ∃ len : Nat, Hid (len = n * n) := ⟨_, rfl⟩
  obtain ⟨len, HLEN⟩ := HLEN
  rw [← HLEN.out] at hl hq ⊢
  have b3 : ((len : Int) != (n : Int) * n) = false := by rw [HLEN.out, Int.natCast_mul]; simp
  have HS := Lib.hid hs
  have HR := Lib.hid hr
  have HL := Lib.hid hl
  clear hl hs hr
  go_enter Try.func14, Try.ntmps14
  go_wp2
  have HB : Hid (Ext w (w.alloc (.cells #[.int .i64 n, .slice ao len cap] 30))) := ext_box w _ _
  have HX : Hid (Blk (w.alloc (.cells #[.int .i64 n, .slice ao len cap] 30)) w.heap.size #[.int .i64 n, .slice ao len cap] 30) := Blk.new _ _ _
  obtain ⟨w0, hw0⟩ : ∃ w0, w0 = w.alloc (.cells #[.int .i64 n, .slice ao len cap] 30) := ⟨_, rfl⟩
  rw [← hw0] at HB HX ⊢
  clear hw0
  go_loopw [4] (fun i wr => ∃ j : Nat, j ≤ len ∧ i = .int .i64 j ∧ Drawn w0 wr ∧ ∀ i, i < j → notBit (nth xs i) = false) (fun i _ => len - (intOf i).toNat)
  case atStart => exact ⟨0, by omega, rfl, Drawn.refl _, fun i hi => by omega⟩
  case round =>
    obtain ⟨j, hj, rfl, hd, hall⟩ := hrel
    have HA := Lib.hid hall
    have HD := Lib.hid hd
    clear hall hd
    obtain ⟨c3a, c3b⟩ := (HX.out.drawn HD.out).two
    by_cases hlt : j < len
    · obtain ⟨b, off, rfl, hbl, hc⟩ := Reads.int HR.out (by rw [HL.out]; omega)
      have hck : wr.cell? ⟨b, off + j, none⟩ = some (.int .i64 (nth xs j)) := by rw [(HB.out.drawn HD.out).cell (by exact hbl)]; exact hc j (by rw [HL.out]; omega)
      clear hc
      obtain ⟨x, hx⟩ : ∃ x, nth xs j = x := ⟨_, rfl⟩
      have HXJ := Lib.hid hx
      rw [hx] at hck
      clear hx
      by_cases hb0 : x = 0 ∨ x = 1
      · have HB0 := Lib.hid hb0
        rcases hb0 with rfl | rfl
        all_goals
          go_wp2
          go_roundw
          case rel => exact ⟨j + 1, by omega, by go_num, by first | exact HD.out | exact HD.out.trans (Drawn.drewN _ _), fun i hi => by
            rcases Nat.lt_succ_iff_lt_or_eq.1 hi with h | rfl
            · exact HA.out i h
            · rw [HXJ.out]; exact notBit_false HB0.out⟩
          case measure => simp [intOf] <;> omega
      · have b4 : (x != 0) = true := by rw [bne_iff_ne]; omega
        have b5 : (x != 1) = true := by rw [bne_iff_ne]; omega
        clear hb0
        go_wp2
        go_ret
        exact ⟨rfl, by first | exact HB.out.drawn HD.out | exact HB.out.drawn (HD.out.trans (Drawn.drewN _ _))⟩
    · exfalso
      have hx := HS.out
      rw [List.any_eq_true] at hx
      obtain ⟨x, hm, hp⟩ := hx
      obtain ⟨i, hi, rfl⟩ := mem_nth xs x hm
      rw [HA.out i (by rw [HL.out] at hi; omega)] at hp
      cases hp

set_option maxHeartbeats 4000000 in
theorem fault_sym (n : Nat) (ao : Option Addr) (cap : Nat) (xs : List Int) (r : Int) (w : World) (hm : IsTab n xs) (hr : Reads w ao (ints xs))
    (hz : IsSym n xs → r = 0) (hb : ¬ IsSym n xs → r = 4) :
    Calls Try.prog 14 #[.agg #[.int .i64 n, .slice ao (n * n : Nat) cap]] w fun e w' => e = .returned (.int .i64 r) ∧ Ext w w' := by
  have h1 := hm.one
  have h24 := hm.big
  have b1 : decide ((n : Int) < 1) = false := decide_eq_false (by omega)
  have b2 : decide (24 < (n : Int)) = false := decide_eq_false (by omega)
  have hm1 : 0 ≤ (n : Int) * n := Int.mul_nonneg (by omega) (by omega)
  have hm2 : (n : Int) * n ≤ 24 * 24 := Int.mul_le_mul (by omega) (by omega) (by omega) (by omega)
  have hq := sq_bound h24
  obtain ⟨b, off, rfl, ht⟩ := tabAt_of hm hr
  have HR := Lib.hid hr
  have HLEN : ∃ len : Nat, Hid (len = n * n) := ⟨_, rfl⟩
  obtain ⟨len, HLEN⟩ := HLEN
  rw [← HLEN.out] at ht hq ⊢
  have b3 : ((len : Int) != (n : Int) * n) = false := by rw [HLEN.out, Int.natCast_mul]; simp
  have HT := Lib.hid ht
  have HZ := Lib.hid hz
  have HBD := Lib.hid hb
  clear hm hr hz hb ht HR
  go_enter Try.func14, Try.ntmps14
  go_wp2
  have HB0 : Hid (Ext w (w.alloc (.cells #[.int .i64 n, .slice (some ⟨b, off, none⟩) len cap] 30))) := ext_box w _ _
  have HX0 : Hid (Blk (w.alloc (.cells #[.int .i64 n, .slice (some ⟨b, off, none⟩) len cap] 30)) w.heap.size #[.int .i64 n, .slice (some ⟨b, off, none⟩) len cap] 30) := Blk.new _ _ _
  obtain ⟨w0, hw0⟩ : ∃ w0, w0 = w.alloc (.cells #[.int .i64 n, .slice (some ⟨b, off, none⟩) len cap] 30) := ⟨_, rfl⟩
  rw [← hw0] at HB0 HX0 ⊢
  clear hw0
  go_loopw [4] (fun i wr => ∃ j : Nat, j ≤ len ∧ i = .int .i64 j ∧ Drawn w0 wr) (fun i _ => len - (intOf i).toNat)
  case atStart => exact ⟨0, by omega, rfl, Drawn.refl _⟩
  obtain ⟨j, hj, rfl, hd⟩ := hrel
  have HD := Lib.hid hd
  clear hd
  obtain ⟨c3a, c3b⟩ := (HX0.out.drawn HD.out).two
  by_cases hlt : j < len
  · have hck := HT.out.cells j hlt
    rw [← (HB0.out.drawn HD.out).cell HT.out.lt] at hck
    have s1 := nth_bit HT.out.tab j (by rw [← HLEN.out]; exact hlt)
    obtain ⟨x, hx⟩ : ∃ x, nth xs j = x := ⟨_, rfl⟩
    rw [hx] at hck s1
    clear hx
    rcases s1 with rfl | rfl
    all_goals
      go_wp2
      go_roundw
      case rel => exact ⟨j + 1, by omega, by go_num, by first | exact HD.out | exact HD.out.trans (Drawn.drewN _ _)⟩
      case measure => simp [intOf] <;> omega
  obtain rfl : len = j := by omega
  go_wp2
  have HB : Hid (Ext w wr) := HB0.out.drawn HD.out
  have HX : Hid (Blk wr w.heap.size #[.int .i64 n, .slice (some ⟨b, off, none⟩) len cap] 30) := HX0.out.drawn HD.out
  clear HD HB0 HX0 c3a c3b
  obtain ⟨w1, rfl⟩ : ∃ w1 : World, w1 = wr := ⟨_, rfl⟩
  go_loopw [5] (fun a wr => ∃ i : Nat, i ≤ n ∧ a = .int .i64 i ∧ Drawn w1 wr ∧ ∀ p q, p < i → q < n → nth xs (p * n + q) = nth xs (q * n + p) ∧ (p = q → nth xs (p * n + q) = 0)) (fun i _ => n - (intOf i).toNat)
  case atStart => exact ⟨0, by omega, rfl, Drawn.refl _, fun p q hp => by omega⟩
  case round =>
    obtain ⟨i, hi, rfl, hd, hall⟩ := hrel
    have HD := Lib.hid hd
    have HA := Lib.hid hall
    clear hd hall
    by_cases hin : i < n
    · go_wp2
      go_loopw [6] (fun a wr => ∃ k : Nat, k ≤ n ∧ a = .int .i64 k ∧ Drawn w1 wr ∧ ∀ q, q < k → nth xs (i * n + q) = nth xs (q * n + i) ∧ (i = q → nth xs (i * n + q) = 0)) (fun i' _ => n - (intOf i').toNat)
      case atStart => exact ⟨0, by omega, rfl, HD.out, fun q hq => by omega⟩
      case round =>
        obtain ⟨k, hk, rfl, hd2, hall2⟩ := hrel
        have HD2 := Lib.hid hd2
        have HA2 := Lib.hid hall2
        clear hd2 hall2
        by_cases hki : k < n
        · have p1 := place_lt hin (show k < n by omega)
          have p2 := place_lt (show k < n by omega) hin
          have s1 := nth_bit HT.out.tab _ p1
          have s2 := nth_bit HT.out.tab _ p2
          rw [← HLEN.out] at p1 p2
          have c1 := HT.out.cells _ p1
          have c2 := HT.out.cells _ p2
          rw [← (HB.out.drawn HD2.out).cell HT.out.lt] at c1 c2
          obtain ⟨c3a, c3b⟩ := (HX.out.drawn HD2.out).two
          have HNO : Hid (¬ (nth xs (i * n + k) = nth xs (k * n + i) ∧ (i = k → nth xs (i * n + k) = 0)) → r = 4) := fun h => HBD.out (fun hs => h (hs.all i k hin (by omega)))
          have HYES : Hid ((nth xs (i * n + k) = nth xs (k * n + i) ∧ (i = k → nth xs (i * n + k) = 0)) → ∀ q, q < k + 1 → nth xs (i * n + q) = nth xs (q * n + i) ∧ (i = q → nth xs (i * n + q) = 0)) := fun h q hq => by
            rcases Nat.lt_succ_iff_lt_or_eq.1 hq with h' | rfl
            · exact HA2.out q h'
            · exact h
          obtain ⟨u, hu⟩ : ∃ u, i * n = u := ⟨_, rfl⟩
          obtain ⟨v, hv⟩ : ∃ v, k * n = v := ⟨_, rfl⟩
          have hu' : (i : Int) * (n : Int) = u := by rw [← hu, Int.natCast_mul]
          have hv' : (k : Int) * (n : Int) = v := by rw [← hv, Int.natCast_mul]
          have HE : Hid (nth xs (i * n + k) = nth xs (u + k) ∧ nth xs (k * n + i) = nth xs (v + i)) := ⟨by rw [hu], by rw [hv]⟩
          rw [hu] at p1 c1 s1
          rw [hv] at p2 c2 s2
          have hub : u + n ≤ len := by
            have h1 : (i + 1) * n ≤ n * n := Nat.mul_le_mul_right n hin
            have h2 := HLEN.out
            rw [Nat.succ_mul] at h1; omega
          have hvb : v + n ≤ len := by
            have h1 : (k + 1) * n ≤ n * n := Nat.mul_le_mul_right n (by omega)
            have h2 := HLEN.out
            rw [Nat.succ_mul] at h1; omega
          by_cases hik : i = k
          · subst hik
            have huv : u = v := by rw [← hu, ← hv]
            subst huv
            have bi : ((i : Int) == (i : Int)) = true := by rw [beq_iff_eq]
            obtain ⟨x, hx⟩ : ∃ x, nth xs (u + i) = x := ⟨_, rfl⟩
            rw [hx] at s1 c1 c2 HE
            have HXE := HE
            rcases s1 with rfl | rfl
            · have HOK := Lib.hid (HYES.out ⟨rfl, fun _ => HE.out.1⟩)
              clear hx s2 hu hv HE HXE
              go_wp2_with fail
              go_quiet (fail)
              go_wp2
              go_roundw
              case rel => exact ⟨i + 1, by omega, by go_num, HD2.out.trans (Drawn.drewN _ _), HOK.out⟩
              case measure => simp [intOf] <;> omega
            · have HBAD := Lib.hid (HNO.out (fun h => by have := h.2 rfl; rw [HE.out.1] at this; cases this))
              clear hx s2 hu hv HE HXE
              go_wp2_with fail
              go_quiet (fail)
              go_wp2
              go_ret
              exact ⟨by rw [HBAD.out]; rfl, HB.out.drawn (HD2.out.trans (Drawn.drewN _ _))⟩
          · have bi : ((i : Int) == (k : Int)) = false := by rw [beq_eq_false_iff_ne]; omega
            obtain ⟨x, hx⟩ : ∃ x, nth xs (u + k) = x := ⟨_, rfl⟩
            obtain ⟨y, hy⟩ : ∃ y, nth xs (v + i) = y := ⟨_, rfl⟩
            rw [hx] at c1 HE
            rw [hy] at c2 HE
            by_cases hxy : x = y
            · have bx : (x != y) = false := by rw [hxy]; simp
              have HOK := Lib.hid (HYES.out ⟨by rw [HE.out.1, HE.out.2, hxy], fun h => absurd h hik⟩)
              clear hx hy s1 s2 hu hv HE hxy hik
              go_wp2_with fail
              go_quiet (fail)
              go_wp2
              go_roundw
              case rel => exact ⟨k + 1, by omega, by go_num, HD2.out.trans (Drawn.drewN _ _), HOK.out⟩
              case measure => simp [intOf] <;> omega
            · have bx : (x != y) = true := by rw [bne_iff_ne]; exact hxy
              have HBAD := Lib.hid (HNO.out (fun h => hxy (by have := h.1; rwa [HE.out.1, HE.out.2] at this)))
              clear hx hy s1 s2 hu hv HE hxy hik
              go_wp2_with fail
              go_quiet (fail)
              go_wp2
              go_ret
              exact ⟨by rw [HBAD.out]; rfl, HB.out.drawn (HD2.out.trans (Drawn.drewN _ _))⟩
        · obtain rfl : k = n := by omega
          go_wp2
          go_roundw
          case rel => exact ⟨i + 1, by omega, by go_num, HD2.out, fun p q hp hq => by
            rcases Nat.lt_succ_iff_lt_or_eq.1 hp with h | rfl
            · exact HA.out p q h hq
            · exact HA2.out q hq⟩
          case measure => simp [intOf] <;> omega
    · obtain rfl : i = n := by omega
      have HR0 := Lib.hid (HZ.out (fun p q hp hq => HA.out p q hp (by omega)))
      go_wp2
      go_ret
      exact ⟨by rw [HR0.out]; rfl, HB.out.drawn HD.out⟩

theorem fault_any (m : Int) (ao : Option Addr) (len cap : Nat) (xs : List Int) (w : World) (hl : xs.length = len) (hr : Reads w ao (ints xs)) :
    Calls Try.prog 14 #[.agg #[.int .i64 m, .slice ao len cap]] w fun e w' => e = .returned (.int .i64 (graphFaultOf m xs)) ∧ Ext w w' := by
  unfold graphFaultOf
  split
  · rename_i h; exact fault_range m ao len cap w h
  · rename_i h
    obtain ⟨n, rfl⟩ : ∃ n : Nat, m = n := ⟨m.toNat, by omega⟩
    rw [Int.toNat_natCast]
    split
    · rename_i h2; exact fault_shape n ao len cap w (by omega) (by omega) (by omega)
    · rename_i h2
      obtain rfl : len = n * n := by omega
      split
      · rename_i h3; exact fault_bits n ao cap xs w (by omega) (by omega) hl h3 hr
      · rename_i h3
        refine fault_sym n ao cap xs _ w (isTab_of (by omega) (by omega) hl h3) hr (fun hz => ?_) (fun hne => ?_)
        · exact if_pos (c := IsSym n xs) hz
        · exact if_neg (c := IsSym n xs) hne

end Go.Proofs.Ytllfccfpoigigaa
