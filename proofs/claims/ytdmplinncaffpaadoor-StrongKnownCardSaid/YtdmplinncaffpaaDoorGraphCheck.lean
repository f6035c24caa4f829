/- What strong.Check answers at any square. -/
import Derived.Test.YtdmplinncaffpaaDoorGraph
namespace Go.Proofs.YtdmplinncaffpaaDoor
open Go.RowKit

theorem notBit_pred (xs : List Int) (w : World) : PredOn 45 #[] xs notBit w := by
  intro x _ w' _
  by_cases h : x = 0
  · subst h
    go_enter Tryd.func45, Tryd.ntmps45
    go_wp2
    go_ret
    exact ⟨rfl, Drawn.refl _⟩
  · have b1 : (x != 0) = true := by rw [bne_iff_ne]; exact h
    have HB : Hid (notBit x = (x != 1)) := by show _ = _; unfold notBit; rw [b1]; rfl
    obtain ⟨c, hc⟩ : ∃ c, (x != 1) = c := ⟨_, rfl⟩
    rw [hc] at HB
    rw [HB.out]
    clear h
    cases c
    all_goals
      go_enter Tryd.func45, Tryd.ntmps45
      go_wp2
      go_ret
      exact ⟨rfl, Drawn.refl _⟩

/-- Alike from both sides, and nobody is joined to itself. -/
def IsSym (n : Nat) (xs : List Int) : Prop := ∀ i j, i < n → j ≤ i → nth xs (i * n + j) = nth xs (j * n + i) ∧ (i = j → nth xs (i * n + j) = 0)

open Classical in
/-- What is wrong. -/
noncomputable def graphFaultOf (m : Int) (xs : List Int) : Int :=
  if m < 1 ∨ 24 < m then 1 else if xs.length ≠ m.toNat * m.toNat then 2 else if xs.any notBit = true then 1 else if IsSym m.toNat xs then 0 else 4

theorem isTab_of {n : Nat} {xs : List Int} (h1 : 1 ≤ n) (h2 : n ≤ 24) (hl : xs.length = n * n) (hs : ¬ xs.any notBit = true) : IsTab n xs :=
  ⟨h1, h2, hl, fun x hx => by
    by_cases h : x = 0 ∨ x = 1
    · exact h
    · exact absurd (List.any_eq_true.2 ⟨x, hx, notBit_true (fun e => h (.inl e)) (fun e => h (.inr e))⟩) hs⟩

theorem graphFaultOf_zero {m : Int} {xs : List Int} (h : graphFaultOf m xs = 0) : ∃ n : Nat, m = n ∧ IsTab n xs ∧ IsSym n xs := by
  unfold graphFaultOf at h
  split at h
  · omega
  · rename_i h1
    split at h
    · omega
    · rename_i h2
      split at h
      · omega
      · rename_i h3
        split at h
        · rename_i h4
          exact ⟨m.toNat, by omega, isTab_of (by omega) (by omega) (by omega) h3, h4⟩
        · omega

theorem any_notBit {n : Nat} {xs : List Int} (h : IsTab n xs) : xs.any notBit = false := by
  rw [List.any_eq_false]
  intro x hx
  rw [notBit_false (h.bit x hx)]; simp

theorem graphFaultOf_tab {n : Nat} {xs : List Int} (h : IsTab n xs) (ho : IsSym n xs) : graphFaultOf n xs = 0 := by
  unfold graphFaultOf
  have h1 := h.one
  have h2 := h.big
  rw [if_neg (by omega), if_neg (by have := h.len; simpa using this), if_neg (by rw [any_notBit h]; simp), if_pos (by simpa using ho)]

set_option maxHeartbeats 400000 in
theorem check_range (m : Int) (ao : Option Addr) (len cap : Nat) (w : World) (hm : m < 1 ∨ 24 < m) :
    Calls Tryd.prog 30 #[.agg #[.int .i64 m, .slice ao len cap]] w fun e w' => e = .returned (.int .i64 1) ∧ Ext w w' := by
  rcases hm with hm | hm
  · have b1 : decide (m < 1) = true := decide_eq_true hm
    go_enter Tryd.func30, Tryd.ntmps30
    go_wp2
    go_ret
    exact ⟨rfl, (Ext.refl _).alloc _⟩
  · have b1 : decide (m < 1) = false := decide_eq_false (by omega)
    have b2 : decide (24 < m) = true := decide_eq_true hm
    go_enter Tryd.func30, Tryd.ntmps30
    go_wp2
    go_ret
    exact ⟨rfl, (Ext.refl _).alloc _⟩

set_option maxHeartbeats 400000 in
theorem check_shape (n : Nat) (ao : Option Addr) (len cap : Nat) (w : World) (h1 : 1 ≤ n) (h24 : n ≤ 24) (hl : len ≠ n * n) :
    Calls Tryd.prog 30 #[.agg #[.int .i64 n, .slice ao len cap]] w fun e w' => e = .returned (.int .i64 2) ∧ Ext w w' := by
  have b1 : decide ((n : Int) < 1) = false := decide_eq_false (by omega)
  have b2 : decide (24 < (n : Int)) = false := decide_eq_false (by omega)
  have hm1 : 0 ≤ (n : Int) * n := Int.mul_nonneg (by omega) (by omega)
  have hm2 : (n : Int) * n ≤ 24 * 24 := Int.mul_le_mul (by omega) (by omega) (by omega) (by omega)
  have b3 : ((len : Int) != (n : Int) * n) = true := by rw [bne_iff_ne, ← Int.natCast_mul]; omega
  clear hl
  go_enter Tryd.func30, Tryd.ntmps30
  go_wp2
  go_ret
  exact ⟨rfl, (Ext.refl _).alloc _⟩

set_option maxHeartbeats 1000000 in
theorem check_bits (n : Nat) (ao : Option Addr) (cap : Nat) (xs : List Int) (w : World) (h1 : 1 ≤ n) (h24 : n ≤ 24) (hl : xs.length = n * n) (hs : xs.any notBit = true) (hr : Reads w ao (ints xs)) :
    Calls Tryd.prog 30 #[.agg #[.int .i64 n, .slice ao (n * n : Nat) cap]] w fun e w' => e = .returned (.int .i64 1) ∧ Ext w w' := by
  have b1 : decide ((n : Int) < 1) = false := decide_eq_false (by omega)
  have b2 : decide (24 < (n : Int)) = false := decide_eq_false (by omega)
  have hm1 : 0 ≤ (n : Int) * n := Int.mul_nonneg (by omega) (by omega)
  have hm2 : (n : Int) * n ≤ 24 * 24 := Int.mul_le_mul (by omega) (by omega) (by omega) (by omega)
  have hq := sq_bound h24
  have HLEN : ∃ len : Nat, Hid (len = n * n) := ⟨_, rfl⟩
  obtain ⟨len, HLEN⟩ := HLEN
  rw [← HLEN.out] at hl hq ⊢
  have b3 : ((len : Int) != (n : Int) * n) = false := by rw [HLEN.out, Int.natCast_mul]; simp
  have HC := Lib.hid (containsFunc_any 45 #[] ao len cap xs notBit (w.alloc (.cells #[.int .i64 n, .slice ao len cap] 26)) hl (by unfold maxLen; omega) ((ext_box w _ _).reads hr) (notBit_pred _ _) (fun _ _ => rfl))
  rw [hs] at HC
  clear hl hs hr
  go_enter Tryd.func30, Tryd.ntmps30
  go_wp2_with (go_at_call 18; refine HC.out.mono ?_; rintro e w1 ⟨rfl, hd⟩; have HD := Lib.hid hd; clear hd)
  go_ret
  exact ⟨rfl, (ext_box w _ _).drawn HD.out⟩

set_option maxHeartbeats 4000000 in
theorem check_sym (n : Nat) (ao : Option Addr) (cap : Nat) (xs : List Int) (r : Int) (w : World) (hm : IsTab n xs) (hr : Reads w ao (ints xs))
    (hz : IsSym n xs → r = 0) (hb : ¬ IsSym n xs → r = 4) :
    Calls Tryd.prog 30 #[.agg #[.int .i64 n, .slice ao (n * n : Nat) cap]] w fun e w' => e = .returned (.int .i64 r) ∧ Ext w w' := by
  have h1 := hm.one
  have h24 := hm.big
  have b1 : decide ((n : Int) < 1) = false := decide_eq_false (by omega)
  have b2 : decide (24 < (n : Int)) = false := decide_eq_false (by omega)
  have hm1 : 0 ≤ (n : Int) * n := Int.mul_nonneg (by omega) (by omega)
  have hm2 : (n : Int) * n ≤ 24 * 24 := Int.mul_le_mul (by omega) (by omega) (by omega) (by omega)
  have hq := sq_bound h24
  obtain ⟨b, off, rfl, ht⟩ := tabAt_of hm hr
  have HR := Lib.hid hr
  have HLEN : ∃ len : Nat, Hid (len = n * n) := ⟨_, rfl⟩
  obtain ⟨len, HLEN⟩ := HLEN
  rw [← HLEN.out] at ht hq ⊢
  have hl : xs.length = len := by rw [HLEN.out]; exact hm.len
  have b3 : ((len : Int) != (n : Int) * n) = false := by rw [HLEN.out, Int.natCast_mul]; simp
  have HC := Lib.hid (containsFunc_any 45 #[] (some ⟨b, off, none⟩) len cap xs notBit (w.alloc (.cells #[.int .i64 n, .slice (some ⟨b, off, none⟩) len cap] 26)) hl (by unfold maxLen; omega) ((ext_box w _ _).reads hr) (notBit_pred _ _) (fun _ _ => rfl))
  rw [any_notBit hm] at HC
  have HT := Lib.hid ht
  have HZ := Lib.hid hz
  have HBD := Lib.hid hb
  clear hm hr hz hb ht hl HR
  go_enter Tryd.func30, Tryd.ntmps30
  go_wp2_with (go_at_call 18; refine HC.out.mono ?_; rintro e w1 ⟨rfl, hd⟩; have HD := Lib.hid hd; clear hd)
  have HB : Hid (Ext w w1) := (ext_box w _ _).drawn HD.out
  have HX : Hid (Blk w1 w.heap.size #[.int .i64 n, .slice (some ⟨b, off, none⟩) len cap] 26) := (Blk.new _ _ _).drawn HD.out
  clear HD HC
  go_loopw [28] (fun a wr => ∃ i : Nat, i ≤ n ∧ a = .int .i64 i ∧ Drawn w1 wr ∧ ∀ p q, p < i → q ≤ p → nth xs (p * n + q) = nth xs (q * n + p) ∧ (p = q → nth xs (p * n + q) = 0)) (fun i _ => n - (intOf i).toNat)
  case atStart => exact ⟨0, by omega, rfl, Drawn.refl _, fun p q hp => by omega⟩
  case round =>
    obtain ⟨i, hi, rfl, hd, hall⟩ := hrel
    have HD := Lib.hid hd
    have HA := Lib.hid hall
    clear hd hall
    by_cases hin : i < n
    · go_wp2
      go_loopw [33] (fun a wr => ∃ k : Nat, k ≤ i + 1 ∧ a = .int .i64 k ∧ Drawn w1 wr ∧ ∀ q, q < k → nth xs (i * n + q) = nth xs (q * n + i) ∧ (i = q → nth xs (i * n + q) = 0)) (fun i' _ => i + 1 - (intOf i').toNat)
      case atStart => exact ⟨0, by omega, rfl, HD.out, fun q hq => by omega⟩
      case round =>
        obtain ⟨k, hk, rfl, hd2, hall2⟩ := hrel
        have HD2 := Lib.hid hd2
        have HA2 := Lib.hid hall2
        clear hd2 hall2
        by_cases hki : k < i + 1
        · have p1 := place_lt hin (show k < n by omega)
          have p2 := place_lt (show k < n by omega) hin
          have s1 := nth_bit HT.out.tab _ p1
          have s2 := nth_bit HT.out.tab _ p2
          rw [← HLEN.out] at p1 p2
          have c1 := HT.out.cells _ p1
          have c2 := HT.out.cells _ p2
          rw [← (HB.out.drawn HD2.out).cell HT.out.lt] at c1 c2
          obtain ⟨c3a, c3b⟩ := (HX.out.drawn HD2.out).two
          have HNO : Hid (¬ (nth xs (i * n + k) = nth xs (k * n + i) ∧ (i = k → nth xs (i * n + k) = 0)) → r = 4) := fun h => HBD.out (fun hs => h (hs i k hin (by omega)))
          have HYES : Hid ((nth xs (i * n + k) = nth xs (k * n + i) ∧ (i = k → nth xs (i * n + k) = 0)) → ∀ q, q < k + 1 → nth xs (i * n + q) = nth xs (q * n + i) ∧ (i = q → nth xs (i * n + q) = 0)) := fun h q hq => by
            rcases Nat.lt_succ_iff_lt_or_eq.1 hq with h' | rfl
            · exact HA2.out q h'
            · exact h
          obtain ⟨u, hu⟩ : ∃ u, i * n = u := ⟨_, rfl⟩
          obtain ⟨v, hv⟩ : ∃ v, k * n = v := ⟨_, rfl⟩
          have hu' : (i : Int) * (n : Int) = u := by rw [← hu, Int.natCast_mul]
          have hv' : (k : Int) * (n : Int) = v := by rw [← hv, Int.natCast_mul]
          have HE : Hid (nth xs (i * n + k) = nth xs (u + k) ∧ nth xs (k * n + i) = nth xs (v + i)) := ⟨by rw [hu], by rw [hv]⟩
          rw [hu] at p1 c1 s1
          rw [hv] at p2 c2 s2
          have hub : u + n ≤ len := by
            have h1 : (i + 1) * n ≤ n * n := Nat.mul_le_mul_right n hin
            have h2 := HLEN.out
            rw [Nat.succ_mul] at h1; omega
          have hvb : v + n ≤ len := by
            have h1 : (k + 1) * n ≤ n * n := Nat.mul_le_mul_right n (by omega)
            have h2 := HLEN.out
            rw [Nat.succ_mul] at h1; omega
          by_cases hik : i = k
          · subst hik
            have huv : u = v := by rw [← hu, ← hv]
            subst huv
            have bi : ((i : Int) == (i : Int)) = true := by rw [beq_iff_eq]
            obtain ⟨x, hx⟩ : ∃ x, nth xs (u + i) = x := ⟨_, rfl⟩
            rw [hx] at s1 c1 c2 HE
            have HXE := HE
            rcases s1 with rfl | rfl
            · have HOK := Lib.hid (HYES.out ⟨rfl, fun _ => HE.out.1⟩)
              clear hx s2 hu hv HE HXE
              go_wp2_with fail
              go_quiet (fail)
              go_wp2
              go_roundw
              case rel => exact ⟨i + 1, by omega, by go_num, HD2.out.trans (Drawn.drewN _ _), HOK.out⟩
              case measure => simp [intOf] <;> omega
            · have HBAD := Lib.hid (HNO.out (fun h => by have := h.2 rfl; rw [HE.out.1] at this; cases this))
              clear hx s2 hu hv HE HXE
              go_wp2_with fail
              go_quiet (fail)
              go_wp2
              go_ret
              exact ⟨by rw [HBAD.out]; rfl, HB.out.drawn (HD2.out.trans (Drawn.drewN _ _))⟩
          · have bi : ((i : Int) == (k : Int)) = false := by rw [beq_eq_false_iff_ne]; omega
            obtain ⟨x, hx⟩ : ∃ x, nth xs (u + k) = x := ⟨_, rfl⟩
            obtain ⟨y, hy⟩ : ∃ y, nth xs (v + i) = y := ⟨_, rfl⟩
            rw [hx] at c1 HE
            rw [hy] at c2 HE
            by_cases hxy : x = y
            · have bx : (x != y) = false := by rw [hxy]; simp
              have HOK := Lib.hid (HYES.out ⟨by rw [HE.out.1, HE.out.2, hxy], fun h => absurd h hik⟩)
              clear hx hy s1 s2 hu hv HE hxy hik
              go_wp2_with fail
              go_quiet (fail)
              go_wp2
              go_roundw
              case rel => exact ⟨k + 1, by omega, by go_num, HD2.out.trans (Drawn.drewN _ _), HOK.out⟩
              case measure => simp [intOf] <;> omega
            · have bx : (x != y) = true := by rw [bne_iff_ne]; exact hxy
              have HBAD := Lib.hid (HNO.out (fun h => hxy (by have := h.1; rwa [HE.out.1, HE.out.2] at this)))
              clear hx hy s1 s2 hu hv HE hxy hik
              go_wp2_with fail
              go_quiet (fail)
              go_wp2
              go_ret
              exact ⟨by rw [HBAD.out]; rfl, HB.out.drawn (HD2.out.trans (Drawn.drewN _ _))⟩
        · obtain rfl : k = i + 1 := by omega
          go_wp2
          go_roundw
          case rel => exact ⟨i + 1, by omega, by go_num, HD2.out, fun p q hp hq => by
            rcases Nat.lt_succ_iff_lt_or_eq.1 hp with h | rfl
            · exact HA.out p q h hq
            · exact HA2.out q (by omega)⟩
          case measure => simp [intOf] <;> omega
    · obtain rfl : i = n := by omega
      have HR0 := Lib.hid (HZ.out HA.out)
      go_wp2
      go_ret
      exact ⟨by rw [HR0.out]; rfl, HB.out.drawn HD.out⟩

theorem check_any (m : Int) (ao : Option Addr) (len cap : Nat) (xs : List Int) (w : World) (hl : xs.length = len) (hr : Reads w ao (ints xs)) :
    Calls Tryd.prog 30 #[.agg #[.int .i64 m, .slice ao len cap]] w fun e w' => e = .returned (.int .i64 (graphFaultOf m xs)) ∧ Ext w w' := by
  unfold graphFaultOf
  split
  · rename_i h; exact check_range m ao len cap w h
  · rename_i h
    obtain ⟨n, rfl⟩ : ∃ n : Nat, m = n := ⟨m.toNat, by omega⟩
    rw [Int.toNat_natCast]
    split
    · rename_i h2; exact check_shape n ao len cap w (by omega) (by omega) (by omega)
    · rename_i h2
      obtain rfl : len = n * n := by omega
      split
      · rename_i h3; exact check_bits n ao cap xs w (by omega) (by omega) hl h3 hr
      · rename_i h3
        refine check_sym n ao cap xs _ w (isTab_of (by omega) (by omega) hl h3) hr (fun hz => ?_) (fun hne => ?_)
        · exact if_pos (c := IsSym n xs) hz
        · exact if_neg (c := IsSym n xs) hne

end Go.Proofs.YtdmplinncaffpaaDoor
