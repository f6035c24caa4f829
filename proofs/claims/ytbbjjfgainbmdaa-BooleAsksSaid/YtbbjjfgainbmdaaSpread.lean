/- What boole.spread at ints does with the closure that makes sums and differences. Conditions: a row of the call's own, of 2 to the power of k numbers, k up to 8, not too great. -/
import Derived.Test.YtbbjjfgainbmdaaButter
import Derived.Deep.RegionWith
namespace Go.Proofs.Ytbbjjfgainbmdaa
open Go.RowKit

theorem ofInt_nat (a : Nat) (ha : a < 9223372036854775808) : (BitVec.ofInt 64 (a : Int)).toNat = a := by
  rw [BitVec.ofInt_natCast, BitVec.toNat_ofNat]; exact Nat.mod_eq_of_lt (by omega)
theorem bits_and_nat (a b : Nat) (ha : a < 9223372036854775808) (hb : b < 9223372036854775808) : bits .and .i64 (a : Int) (b : Int) = ((a &&& b : Nat) : Int) := by
  have hx : a &&& b < 2 ^ 63 := Nat.and_lt_two_pow _ (by omega)
  show IntKind.i64.wrap ((BitVec.ofInt 64 (a : Int) &&& BitVec.ofInt 64 (b : Int)).toNat : Int) = _
  rw [BitVec.toNat_and, ofInt_nat a ha, ofInt_nat b hb, IntKind.wrap_i64]
  omega
theorem bits_or_nat (a b : Nat) (ha : a < 9223372036854775808) (hb : b < 9223372036854775808) : bits .or .i64 (a : Int) (b : Int) = ((a ||| b : Nat) : Int) := by
  have hx : a ||| b < 2 ^ 63 := Nat.or_lt_two_pow (by omega) (by omega)
  show IntKind.i64.wrap ((BitVec.ofInt 64 (a : Int) ||| BitVec.ofInt 64 (b : Int)).toNat : Int) = _
  rw [BitVec.toNat_or, ofInt_nat a ha, ofInt_nat b hb, IntKind.wrap_i64]
  omega

set_option maxHeartbeats 400000 in
theorem sums1_any (a b : Int) (w : World) (ha : -1000000 ≤ a) (ha' : a ≤ 1000000) (hb : -1000000 ≤ b) (hb' : b ≤ 1000000) :
    Calls Try.prog 42 #[.int .i64 a, .int .i64 b] w fun e w' => e = .returned (.tuple #[.int .i64 (a + b), .int .i64 (a - b)]) ∧ w = w' := by
  go_enter Try.func42, Try.ntmps42
  go_wp2
  go_ret2
  exact ⟨rfl, rfl⟩

theorem land_or_check : ((List.range 8).all fun t => (List.range 256).all fun i => decide ((i &&& 2 ^ t = 0) = (bit t i = 0)) && decide (bit t i = 0 → i ||| 2 ^ t = i + 2 ^ t)) = true := by decide +kernel
theorem land_bit (t i : Nat) (ht : t < 8) (hi : i < 256) : (i &&& 2 ^ t = 0) = (bit t i = 0) ∧ (bit t i = 0 → i ||| 2 ^ t = i + 2 ^ t) := by
  have h := land_or_check
  rw [List.all_eq_true] at h
  have h := h t (List.mem_range.2 ht)
  rw [List.all_eq_true] at h
  have h := h i (List.mem_range.2 hi)
  rw [Bool.and_eq_true, decide_eq_true_eq, decide_eq_true_eq] at h
  exact h

theorem sg_cases (b c : Nat) : sg b c = 1 ∨ sg b c = -1 := by unfold sg; split <;> simp

theorem mix_bound (g : Nat → Int) (C : Int) (hg : ∀ i, -C ≤ g i ∧ g i ≤ C) : ∀ (t i : Nat), -(2 ^ t * C) ≤ mix sg g t i ∧ mix sg g t i ≤ 2 ^ t * C
  | 0, i => by have := hg i; simp [mix]; omega
  | t + 1, i => by
    have h1 := mix_bound g C hg t (i - 2 ^ t * bit t i)
    have h2 := mix_bound g C hg t (i - 2 ^ t * bit t i + 2 ^ t)
    rw [mix, Int.pow_succ, show (2 : Int) ^ t * 2 * C = 2 * (2 ^ t * C) by rw [Int.mul_comm (2 ^ t) 2, Int.mul_assoc]]
    rcases sg_cases (bit t i) 0 with h | h <;> rcases sg_cases (bit t i) 1 with h' | h' <;> rw [h, h'] <;> omega

/-- The place whose bit t is cleared. -/
def basePl (t p : Nat) : Nat := p - 2 ^ t * bit t p

theorem bit_cases (t p : Nat) : bit t p = 0 ∨ bit t p = 1 := by have := bit_lt t p; omega
theorem bit_one_le (t p : Nat) (h : bit t p = 1) : 2 ^ t ≤ p := by
  rcases Nat.lt_or_ge p (2 ^ t) with hlt | hge
  · unfold bit at h; rw [Nat.div_eq_of_lt hlt] at h; omega
  · exact hge
theorem bit_add (t p : Nat) (h : bit t p = 0) : bit t (p + 2 ^ t) = 1 := by
  unfold bit at *; rw [Nat.add_div_right _ (two_pow_pos t)]; omega
theorem bit_sub (t p : Nat) (h : bit t p = 1) : bit t (p - 2 ^ t) = 0 := by
  have h1 := bit_one_le t p h
  obtain ⟨q, rfl⟩ : ∃ q, p = q + 2 ^ t := ⟨p - 2 ^ t, by omega⟩
  rw [Nat.add_sub_cancel]
  unfold bit at *; rw [Nat.add_div_right _ (two_pow_pos t)] at h; omega

/-- What stands at place p when the i first places have been gone through. -/
def mid (g : Nat → Int) (t i p : Nat) : Int := if basePl t p < i then mix sg g (t + 1) p else mix sg g t p

theorem mid_skip (g : Nat → Int) (t i p : Nat) (h : bit t i = 1) : mid g t (i + 1) p = mid g t i p := by
  have hne : basePl t p ≠ i := by
    intro he
    rcases bit_cases t p with h0 | h1
    · unfold basePl at he; rw [h0] at he; simp at he; subst he; omega
    · unfold basePl at he; rw [h1, Nat.mul_one] at he; have := bit_sub t p h1; rw [he] at this; omega
  unfold mid
  by_cases hb : basePl t p < i
  · rw [if_pos hb, if_pos (by omega)]
  · rw [if_neg hb, if_neg (by omega)]

theorem mid_self (g : Nat → Int) (t i : Nat) (h : bit t i = 0) : mid g t i i = mix sg g t i := by
  unfold mid basePl; rw [h]; simp
theorem mid_other (g : Nat → Int) (t i : Nat) (h : bit t i = 0) : mid g t i (i + 2 ^ t) = mix sg g t (i + 2 ^ t) := by
  unfold mid basePl; rw [bit_add t i h]; simp
theorem mid_self' (g : Nat → Int) (t i : Nat) (h : bit t i = 0) : mid g t (i + 1) i = mix sg g t i + mix sg g t (i + 2 ^ t) := by
  unfold mid basePl; rw [if_pos (by omega), mix, h]; simp [sg]
theorem mid_other' (g : Nat → Int) (t i : Nat) (h : bit t i = 0) : mid g t (i + 1) (i + 2 ^ t) = mix sg g t i - mix sg g t (i + 2 ^ t) := by
  have hb := bit_add t i h
  unfold mid basePl; rw [hb, if_pos (by omega), mix, hb]; simp [sg]; omega
theorem mid_far (g : Nat → Int) (t i p : Nat) (h1 : p ≠ i) (h2 : p ≠ i + 2 ^ t) : mid g t (i + 1) p = mid g t i p := by
  have hne : basePl t p ≠ i := by
    intro he
    rcases bit_cases t p with hb | hb
    · unfold basePl at he; rw [hb] at he; simp at he; omega
    · have := bit_one_le t p hb; unfold basePl at he; rw [hb, Nat.mul_one] at he; omega
  unfold mid
  by_cases hb : basePl t p < i
  · rw [if_pos hb, if_pos (by omega)]
  · rw [if_neg hb, if_neg (by omega)]
theorem mid_start (g : Nat → Int) (t p : Nat) : mid g t 0 p = mix sg g t p := by unfold mid; rw [if_neg (by omega)]
theorem mid_end (g : Nat → Int) (t n p : Nat) (h : p < n) : mid g t n p = mix sg g (t + 1) p := by
  unfold mid; rw [if_pos (by unfold basePl; omega)]

theorem tab_congr {f g : Nat → Int} : ∀ {n : Nat}, (∀ i, i < n → f i = g i) → tab f n = tab g n
  | 0, _ => rfl
  | n + 1, h => by rw [tab, tab, tab_congr (fun i hi => h i (by omega)), h n (by omega)]

theorem nth_set_same (xs : List Int) (i : Nat) (v : Int) (h : i < xs.length) : nth (xs.set i v) i = v := by
  rw [nth_eq _ _ (by simpa using h)]; simp
theorem nth_set_ne (xs : List Int) (i j : Nat) (v : Int) (h : i ≠ j) : nth (xs.set i v) j = nth xs j := by
  unfold nth; simp [h]

/-- The row behind one exchange. -/
theorem tab_exchange (g : Nat → Int) (t i n : Nat) (h : bit t i = 0) (hj : i + 2 ^ t < n) :
    ((tab (mid g t i) n).set i (mix sg g t i + mix sg g t (i + 2 ^ t))).set (i + 2 ^ t) (mix sg g t i - mix sg g t (i + 2 ^ t)) = tab (mid g t (i + 1)) n := by
  have hP := two_pow_pos t
  apply nth_ext
  · simp [tab_length]
  · intro p hp
    simp [tab_length] at hp
    rw [nth_tab _ _ _ hp]
    by_cases h2 : p = i + 2 ^ t
    · subst h2
      rw [nth_set_same _ _ _ (by simp [tab_length]; omega), mid_other' g t i h]
    · rw [nth_set_ne _ _ _ _ (by omega)]
      by_cases h1 : p = i
      · subst h1
        rw [nth_set_same _ _ _ (by simp [tab_length]; omega), mid_self' g t p h]
      · rw [nth_set_ne _ _ _ _ (by omega), nth_tab _ _ _ hp, mid_far g t i p h1 h2]

theorem pair_lt (k t i : Nat) (ht : t < k) (hi : i < 2 ^ k) (hb : bit t i = 0) : i + 2 ^ t < 2 ^ k := by
  obtain ⟨d, rfl⟩ : ∃ d, k = t + (d + 1) := ⟨k - t - 1, by omega⟩
  have hP := two_pow_pos t
  rw [Nat.pow_add] at hi ⊢
  have hq : i / 2 ^ t < 2 ^ (d + 1) := by rw [Nat.div_lt_iff_lt_mul hP, Nat.mul_comm]; exact hi
  unfold bit at hb
  have hq2 : i / 2 ^ t + 1 < 2 ^ (d + 1) := by rw [Nat.pow_succ] at hq ⊢; omega
  have h1 : i = 2 ^ t * (i / 2 ^ t) + i % 2 ^ t := (Nat.div_add_mod _ _).symm
  have h2 := Nat.mod_lt i hP
  have h3 : 2 ^ t * (i / 2 ^ t + 1 + 1) ≤ 2 ^ t * 2 ^ (d + 1) := Nat.mul_le_mul_left _ (by omega)
  rw [Nat.mul_add, Nat.mul_add] at h3
  omega

set_option maxHeartbeats 1000000 in
set_option maxRecDepth 1000000 in
theorem spread_sums (g k n cap B : Nat) (xs : List Int) (w : World) (hk : k ≤ 8) (hn : n = 2 ^ k) (hx : xs.length = n) (hb : ∀ i, -256 ≤ nth xs i ∧ nth xs i ≤ 256)
    (hr : RowOf 3 w B (some ⟨g, 0, none⟩) n cap (ints xs)) :
    Calls Try.prog 41 #[.slice (some ⟨g, 0, none⟩) n cap, .func (.func 42) #[] #[]] w fun e w' =>
      e = .returned (.tuple #[]) ∧ RowOf 3 w' B (some ⟨g, 0, none⟩) n cap (ints (tab (mix sg (nth xs) k) n)) ∧ Below B w w' := by
  have hn8 : n ≤ 256 := by rw [hn]; exact Nat.pow_le_pow_right (n := 2) (by omega) hk
  have HN := Lib.hid hn
  have hxt : xs = tab (mix sg (nth xs) 0) n := by
    apply nth_ext
    · rw [tab_length, hx]
    · intro j hj; rw [nth_tab _ _ _ (by omega)]; rfl
  have HR := Lib.hid hr
  rw [hxt] at HR
  have HMB : Hid (∀ t i, t ≤ 8 → -1000000 ≤ mix sg (nth xs) t i ∧ mix sg (nth xs) t i ≤ 1000000) := fun t i ht => by
    have h1 := mix_bound (nth xs) 256 hb t i
    have h2 : (2 : Int) ^ t ≤ 256 := by
      have h3 : 2 ^ t ≤ 2 ^ 8 := Nat.pow_le_pow_right (n := 2) (by omega) ht
      have : ((2 ^ t : Nat) : Int) ≤ ((2 ^ 8 : Nat) : Int) := Int.ofNat_le.2 h3
      simpa using this
    omega
  clear hr hn hxt hb hx
  generalize nth xs = gx at *
  go_enter Try.func41, Try.ntmps41
  go_wp2
  go_loopw [4] (fun a wr => ∃ t s : Nat, t ≤ k ∧ s = 2 ^ t ∧ a = .int .i64 s ∧ RowOf 3 wr B (some ⟨g, 0, none⟩) n cap (ints (tab (mix sg gx t) n)) ∧ Below B w wr) (fun i _ => n - (intOf i).toNat)
  case atStart => exact ⟨0, 1, by omega, rfl, rfl, HR.out, Below.refl _ _⟩
  case round =>
    obtain ⟨t, s, htk, hst, rfl, hrow, hbel⟩ := hrel
    have HST := Lib.hid hst
    have HROW := Lib.hid hrow
    have HBEL := Lib.hid hbel
    have hs256 : s ≤ 256 := by rw [hst]; exact Nat.pow_le_pow_right (n := 2) (by omega) (show t ≤ 8 by omega)
    have hs0 : 0 < s := by rw [hst]; exact two_pow_pos t
    clear hst hrow hbel
    by_cases hs : s < n
    · have htk' : t < k := by
        rcases Nat.lt_or_ge t k with h | h
        · exact h
        · have : t = k := by omega
          rw [HN.out, HST.out, this] at hs; omega
      have hd : decide (s < n) = true := decide_eq_true hs
      go_wp2
      obtain ⟨wo, rfl⟩ : ∃ wo : World, wo = wr := ⟨_, rfl⟩
      go_loopw [14] (fun a wi => ∃ i : Nat, i ≤ n ∧ a = .int .i64 i ∧ RowOf 3 wi B (some ⟨g, 0, none⟩) n cap (ints (tab (mid gx t i) n)) ∧ Below B wo wi) (fun i _ => n - (intOf i).toNat)
      case atStart => exact ⟨0, by omega, rfl, by rw [tab_congr (g := mix sg gx t) (fun p _ => mid_start gx t p)]; exact HROW.out, Below.refl _ _⟩
      case round =>
        obtain ⟨i, hi, rfl, hri, hbi⟩ := hrel
        have HRI := Lib.hid hri
        have HBI := Lib.hid hbi
        clear hri hbi
        by_cases hlt : i < n
        · have hand : bits .and .i64 (i : Int) (s : Int) = ((i &&& s : Nat) : Int) := bits_and_nat i s (by omega) (by omega)
          have hor : bits .or .i64 (i : Int) (s : Int) = ((i ||| s : Nat) : Int) := bits_or_nat i s (by omega) (by omega)
          have hlb := land_bit t i (by omega) (by omega)
          rw [← HST.out] at hlb
          by_cases h0 : bit t i = 0
          · have hb : (((i &&& s : Nat) : Int) == 0) = true := by rw [hlb.1.mpr h0]; rfl
            have hjj := hlb.2 h0
            have hpl := pair_lt k t i htk' (by rw [← HN.out]; exact hlt) h0
            rw [← HN.out, ← HST.out] at hpl
            obtain ⟨j, hj⟩ : ∃ j, i ||| s = j := ⟨_, rfl⟩
            have hji : j = i + s := by omega
            rw [hj] at hor
            obtain ⟨hg0, hg2, hcell, hfr⟩ := HRI.out.known
            have hx0 := hcell i _ (ints_get _ i (by rw [tab_length]; exact hlt))
            rw [nth_tab _ _ _ hlt, mid_self gx t i h0] at hx0
            have hy0 := hcell j _ (ints_get _ j (by rw [tab_length]; omega))
            have HJ : Hid (j = i + 2 ^ t) := by rw [← HST.out]; exact hji
            rw [nth_tab _ _ _ (by omega), show mid gx t i j = mix sg gx t j by rw [HJ.out]; exact mid_other gx t i h0] at hy0
            have f1 := hfr i
            have f2 := hfr j
            obtain ⟨b1, b2⟩ := HMB.out t i (by omega)
            obtain ⟨b3, b4⟩ := HMB.out t j (by omega)
            have HX : ∃ x, Hid (x = mix sg gx t i) := ⟨_, rfl⟩
            obtain ⟨x, HX⟩ := HX
            have HY : ∃ y, Hid (y = mix sg gx t j) := ⟨_, rfl⟩
            obtain ⟨y, HY⟩ := HY
            rw [← HX.out] at hx0 b1 b2
            rw [← HY.out] at hy0 b3 b4
            have e1 : ¬ i = j := by omega
            have e2 : ¬ j = i := by omega
            have H0 := Lib.hid h0
            have hjn : j < n := by omega
            have HRES : Hid (∀ w1, RowOf 3 w1 B (some ⟨g, 0, none⟩) n cap (((ints (tab (mid gx t i) n)).set i (.int .i64 (x + y))).set j (.int .i64 (x - y))) →
                RowOf 3 w1 B (some ⟨g, 0, none⟩) n cap (ints (tab (mid gx t (i + 1)) n))) := by
              intro w1 h1
              rw [ints_set, ints_set, HX.out, HY.out, HJ.out, tab_exchange gx t i n H0.out (by rw [← HJ.out]; exact hjn)] at h1
              exact h1
            clear hlb hjj hpl hj hji h0 hcell hfr
            go_wp2_with fail
            go_region_with (go_at_call 42; refine (sums1_any _ _ _ b1 b2 b3 b4).mono ?_; rintro e w' ⟨rfl, rfl⟩)
            all_goals
              go_wp2
              go_roundw
              case rel => exact ⟨i + 1, by omega, by go_num, HRES.out _ ((RowOf.stored (RowOf.stored (World.ownsRow.drew HRI.out) i _) j _)), ((HBI.out.drew.setCell hg0 _).setCell hg0 _)⟩
              case measure => simp [intOf]; omega
          · have hb : (((i &&& s : Nat) : Int) == 0) = false := by
              rw [beq_eq_false_iff_ne]
              intro h
              exact h0 (hlb.1.mp (by omega))
            have HB1 : Hid (bit t i = 1) := by rcases bit_cases t i with h | h; exact absurd h h0; exact h
            clear hlb h0
            go_wp2
            go_roundw
            case rel => exact ⟨i + 1, by omega, by go_num, by rw [tab_congr (fun p _ => mid_skip gx t i p HB1.out)]; exact HRI.out, HBI.out⟩
            case measure => simp [intOf]; omega
        · obtain rfl : i = n := by omega
          have hs2 : s * 2 = 2 ^ (t + 1) := by rw [HST.out, Nat.pow_succ]
          have HS2 := Lib.hid hs2
          clear hs2
          go_wp2
          go_roundw
          case rel => exact ⟨t + 1, s * 2, by omega, HS2.out, by go_num, by rw [← tab_congr (fun p hp => mid_end gx t i p hp)]; exact HRI.out, HBEL.out.trans HBI.out⟩
          case measure => simp [intOf]; omega
    · have htk' : Hid (t = k) := by
        rcases Nat.lt_or_ge t k with h | h
        · have h1 : 2 ^ t < 2 ^ k := Nat.pow_lt_pow_right (by omega) h
          rw [← HN.out, ← HST.out] at h1; omega
        · show t = k; omega
      go_wp2
      go_end0
      exact ⟨rfl, by rw [← htk'.out]; exact HROW.out, HBEL.out⟩

end Go.Proofs.Ytbbjjfgainbmdaa
