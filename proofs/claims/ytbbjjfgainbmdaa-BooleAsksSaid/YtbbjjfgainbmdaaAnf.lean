/- What boole.Anf does to bits, two by two. -/
import Derived.Test.YtbbjjfgainbmdaaSpectrum
namespace Go.Proofs.Ytbbjjfgainbmdaa
open Go.RowKit

/-- Bits as values. -/
def u8s (xs : List Int) : List Value := xs.map (Value.int .u8)
theorem u8s_length (xs : List Int) : (u8s xs).length = xs.length := by simp [u8s]
theorem u8s_get (xs : List Int) (j : Nat) (h : j < xs.length) : (u8s xs)[j]? = some (.int .u8 (nth xs j)) := by
  simp [u8s, nth, List.getElem?_eq_getElem h]
theorem u8s_set (xs : List Int) (j : Nat) (y : Int) : (u8s xs).set j (.int .u8 y) = u8s (xs.set j y) := by simp [u8s, List.map_set]
theorem tab_snoc8 (g : Nat → Int) (k : Nat) (y : Int) (h : g k = y) : u8s (tab g k) ++ [.int .u8 y] = u8s (tab g (k + 1)) := by
  rw [tab, h]; simp [u8s]
theorem eBit : Elt 42 43 (.int .u8 0) 1 := ⟨Try.underlying42, by kernel_rfl, rfl, by decide⟩

/-- Which bits the parts of a sum of products take. -/
def anfK (b c : Nat) : Int := if c ≤ b then 1 else 0
/-- The bits that have been made. -/
def mixA (g : Nat → Int) (t i : Nat) : Int := mix anfK g t i % 2
theorem mixA_01 (g : Nat → Int) (t i : Nat) : mixA g t i = 0 ∨ mixA g t i = 1 := by unfold mixA; omega

/-- What stands at place p when the i first places have been gone through. -/
def midA (g : Nat → Int) (t i p : Nat) : Int := if basePl t p < i then mixA g (t + 1) p else mixA g t p

theorem midA_skip (g : Nat → Int) (t i p : Nat) (h : bit t i = 1) : midA g t (i + 1) p = midA g t i p := by
  have hne : basePl t p ≠ i := by
    intro he
    rcases bit_cases t p with h0 | h1
    · unfold basePl at he; rw [h0] at he; simp at he; subst he; omega
    · unfold basePl at he; rw [h1, Nat.mul_one] at he; have := bit_sub t p h1; rw [he] at this; omega
  unfold midA
  by_cases hb : basePl t p < i
  · rw [if_pos hb, if_pos (by omega)]
  · rw [if_neg hb, if_neg (by omega)]

theorem midA_self (g : Nat → Int) (t i : Nat) (h : bit t i = 0) : midA g t i i = mixA g t i := by
  unfold midA basePl; rw [h]; simp
theorem midA_other (g : Nat → Int) (t i : Nat) (h : bit t i = 0) : midA g t i (i + 2 ^ t) = mixA g t (i + 2 ^ t) := by
  unfold midA basePl; rw [bit_add t i h]; simp
theorem midA_self' (g : Nat → Int) (t i : Nat) (h : bit t i = 0) : midA g t (i + 1) i = mixA g t i := by
  unfold midA basePl; rw [if_pos (by omega)]; unfold mixA; rw [mix, h]; simp [anfK]
theorem midA_other' (g : Nat → Int) (t i : Nat) (h : bit t i = 0) : midA g t (i + 1) (i + 2 ^ t) = (mixA g t i + mixA g t (i + 2 ^ t)) % 2 := by
  have hb := bit_add t i h
  unfold midA basePl; rw [hb, if_pos (by omega)]; unfold mixA; rw [mix, hb]; simp [anfK]
theorem midA_far (g : Nat → Int) (t i p : Nat) (h1 : p ≠ i) (h2 : p ≠ i + 2 ^ t) : midA g t (i + 1) p = midA g t i p := by
  have hne : basePl t p ≠ i := by
    intro he
    rcases bit_cases t p with hb | hb
    · unfold basePl at he; rw [hb] at he; simp at he; omega
    · have := bit_one_le t p hb; unfold basePl at he; rw [hb, Nat.mul_one] at he; omega
  unfold midA
  by_cases hb : basePl t p < i
  · rw [if_pos hb, if_pos (by omega)]
  · rw [if_neg hb, if_neg (by omega)]
theorem midA_start (g : Nat → Int) (t p : Nat) : midA g t 0 p = mixA g t p := by unfold midA; rw [if_neg (by omega)]
theorem midA_end (g : Nat → Int) (t n p : Nat) (h : p < n) : midA g t n p = mixA g (t + 1) p := by
  unfold midA; rw [if_pos (by unfold basePl; omega)]

/-- The row behind one exchange. -/
theorem tabA_exchange (g : Nat → Int) (t i n : Nat) (h : bit t i = 0) (hj : i + 2 ^ t < n) :
    ((tab (midA g t i) n).set i (mixA g t i)).set (i + 2 ^ t) ((mixA g t i + mixA g t (i + 2 ^ t)) % 2) = tab (midA g t (i + 1)) n := by
  have hP := two_pow_pos t
  apply nth_ext
  · simp [tab_length]
  · intro p hp
    simp [tab_length] at hp
    rw [nth_tab _ _ _ hp]
    by_cases h2 : p = i + 2 ^ t
    · subst h2
      rw [nth_set_same _ _ _ (by simp [tab_length]; omega), midA_other' g t i h]
    · rw [nth_set_ne _ _ _ _ (by omega)]
      by_cases h1 : p = i
      · subst h1
        rw [nth_set_same _ _ _ (by simp [tab_length]; omega), midA_self' g t p h]
      · rw [nth_set_ne _ _ _ _ (by omega), nth_tab _ _ _ hp, midA_far g t i p h1 h2]

set_option maxHeartbeats 400000 in
theorem anf1_any (a b : Int) (w : World) (ha : a = 0 ∨ a = 1) (hb : b = 0 ∨ b = 1) :
    Calls Try.prog 37 #[.int .u8 a, .int .u8 b] w fun e w' => e = .returned (.tuple #[.int .u8 a, .int .u8 ((a + b) % 2)]) ∧ w = w' := by
  rcases ha with rfl | rfl <;> rcases hb with rfl | rfl
  all_goals
    go_enter Try.func37, Try.ntmps37
    go_wp2
    go_ret2
    exact ⟨by rfl, rfl⟩

set_option maxHeartbeats 1000000 in
set_option maxRecDepth 1000000 in
theorem spread_anf (g k n cap B : Nat) (xs : List Int) (w : World) (hk : k ≤ 8) (hn : n = 2 ^ k) (hx : xs.length = n) (hb : ∀ i, nth xs i = 0 ∨ nth xs i = 1)
    (hr : RowOf 43 w B (some ⟨g, 0, none⟩) n cap (u8s xs)) :
    Calls Try.prog 36 #[.slice (some ⟨g, 0, none⟩) n cap, .func (.func 37) #[] #[]] w fun e w' =>
      e = .returned (.tuple #[]) ∧ RowOf 43 w' B (some ⟨g, 0, none⟩) n cap (u8s (tab (mixA (nth xs) k) n)) ∧ Below B w w' := by
  have hn8 : n ≤ 256 := by rw [hn]; exact Nat.pow_le_pow_right (n := 2) (by omega) hk
  have HN := Lib.hid hn
  have hxt : xs = tab (mixA (nth xs) 0) n := by
    apply nth_ext
    · rw [tab_length, hx]
    · intro j hj; rw [nth_tab _ _ _ (by omega)]; show _ = nth xs j % 2; rcases hb j with h | h <;> rw [h] <;> rfl
  have HR := Lib.hid hr
  rw [hxt] at HR
  clear hr hn hxt hb hx
  generalize nth xs = gx at *
  go_enter Try.func36, Try.ntmps36
  go_wp2
  go_loopw [4] (fun a wr => ∃ t s : Nat, t ≤ k ∧ s = 2 ^ t ∧ a = .int .i64 s ∧ RowOf 43 wr B (some ⟨g, 0, none⟩) n cap (u8s (tab (mixA gx t) n)) ∧ Below B w wr) (fun i _ => n - (intOf i).toNat)
  case atStart => exact ⟨0, 1, by omega, rfl, rfl, HR.out, Below.refl _ _⟩
  case round =>
    obtain ⟨t, s, htk, hst, rfl, hrow, hbel⟩ := hrel
    have HST := Lib.hid hst
    have HROW := Lib.hid hrow
    have HBEL := Lib.hid hbel
    have hs256 : s ≤ 256 := by rw [hst]; exact Nat.pow_le_pow_right (n := 2) (by omega) (show t ≤ 8 by omega)
    have hs0 : 0 < s := by rw [hst]; exact two_pow_pos t
    clear hst hrow hbel
    by_cases hs : s < n
    · have htk' : t < k := by
        rcases Nat.lt_or_ge t k with h | h
        · exact h
        · have : t = k := by omega
          rw [HN.out, HST.out, this] at hs; omega
      have hd : decide (s < n) = true := decide_eq_true hs
      go_wp2
      obtain ⟨wo, rfl⟩ : ∃ wo : World, wo = wr := ⟨_, rfl⟩
      go_loopw [14] (fun a wi => ∃ i : Nat, i ≤ n ∧ a = .int .i64 i ∧ RowOf 43 wi B (some ⟨g, 0, none⟩) n cap (u8s (tab (midA gx t i) n)) ∧ Below B wo wi) (fun i _ => n - (intOf i).toNat)
      case atStart => exact ⟨0, by omega, rfl, by rw [tab_congr (g := mixA gx t) (fun p _ => midA_start gx t p)]; exact HROW.out, Below.refl _ _⟩
      case round =>
        obtain ⟨i, hi, rfl, hri, hbi⟩ := hrel
        have HRI := Lib.hid hri
        have HBI := Lib.hid hbi
        clear hri hbi
        by_cases hlt : i < n
        · have hand : bits .and .i64 (i : Int) (s : Int) = ((i &&& s : Nat) : Int) := bits_and_nat i s (by omega) (by omega)
          have hor : bits .or .i64 (i : Int) (s : Int) = ((i ||| s : Nat) : Int) := bits_or_nat i s (by omega) (by omega)
          have hlb := land_bit t i (by omega) (by omega)
          rw [← HST.out] at hlb
          by_cases h0 : bit t i = 0
          · have hb : (((i &&& s : Nat) : Int) == 0) = true := by rw [hlb.1.mpr h0]; rfl
            have hjj := hlb.2 h0
            have hpl := pair_lt k t i htk' (by rw [← HN.out]; exact hlt) h0
            rw [← HN.out, ← HST.out] at hpl
            obtain ⟨j, hj⟩ : ∃ j, i ||| s = j := ⟨_, rfl⟩
            have hji : j = i + s := by omega
            rw [hj] at hor
            obtain ⟨hg0, hg2, hcell, hfr⟩ := HRI.out.known
            have hx0 := hcell i _ (u8s_get _ i (by rw [tab_length]; exact hlt))
            rw [nth_tab _ _ _ hlt, midA_self gx t i h0] at hx0
            have hy0 := hcell j _ (u8s_get _ j (by rw [tab_length]; omega))
            have HJ : Hid (j = i + 2 ^ t) := by rw [← HST.out]; exact hji
            rw [nth_tab _ _ _ (by omega), show midA gx t i j = mixA gx t j by rw [HJ.out]; exact midA_other gx t i h0] at hy0
            have f1 := hfr i
            have f2 := hfr j
            have z1 := mixA_01 gx t i
            have z2 := mixA_01 gx t j
            have HX : ∃ x, Hid (x = mixA gx t i) := ⟨_, rfl⟩
            obtain ⟨x, HX⟩ := HX
            have HY : ∃ y, Hid (y = mixA gx t j) := ⟨_, rfl⟩
            obtain ⟨y, HY⟩ := HY
            rw [← HX.out] at hx0 z1
            rw [← HY.out] at hy0 z2
            have e1 : ¬ i = j := by omega
            have e2 : ¬ j = i := by omega
            have H0 := Lib.hid h0
            have hjn : j < n := by omega
            have HRES : Hid (∀ w1, RowOf 43 w1 B (some ⟨g, 0, none⟩) n cap (((u8s (tab (midA gx t i) n)).set i (.int .u8 x)).set j (.int .u8 ((x + y) % 2))) →
                RowOf 43 w1 B (some ⟨g, 0, none⟩) n cap (u8s (tab (midA gx t (i + 1)) n))) := by
              intro w1 h1
              rw [u8s_set, u8s_set, HX.out, HY.out, HJ.out, tabA_exchange gx t i n H0.out (by rw [← HJ.out]; exact hjn)] at h1
              exact h1
            clear hlb hjj hpl hj hji h0 hcell hfr
            go_wp2_with fail
            go_region_with (go_at_call 37; refine (anf1_any _ _ _ z1 z2).mono ?_; rintro e w' ⟨rfl, rfl⟩)
            all_goals
              go_wp2
              go_roundw
              case rel => exact ⟨i + 1, by omega, by go_num, HRES.out _ ((RowOf.stored (RowOf.stored (World.ownsRow.drew HRI.out) i _) j _)), ((HBI.out.drew.setCell hg0 _).setCell hg0 _)⟩
              case measure => simp [intOf]; omega
          · have hb : (((i &&& s : Nat) : Int) == 0) = false := by
              rw [beq_eq_false_iff_ne]
              intro h
              exact h0 (hlb.1.mp (by omega))
            have HB1 : Hid (bit t i = 1) := by rcases bit_cases t i with h | h; exact absurd h h0; exact h
            clear hlb h0
            go_wp2
            go_roundw
            case rel => exact ⟨i + 1, by omega, by go_num, by rw [tab_congr (fun p _ => midA_skip gx t i p HB1.out)]; exact HRI.out, HBI.out⟩
            case measure => simp [intOf]; omega
        · obtain rfl : i = n := by omega
          have hs2 : s * 2 = 2 ^ (t + 1) := by rw [HST.out, Nat.pow_succ]
          have HS2 := Lib.hid hs2
          clear hs2
          go_wp2
          go_roundw
          case rel => exact ⟨t + 1, s * 2, by omega, HS2.out, by go_num, by rw [← tab_congr (fun p hp => midA_end gx t i p hp)]; exact HRI.out, HBEL.out.trans HBI.out⟩
          case measure => simp [intOf]; omega
    · have htk' : Hid (t = k) := by
        rcases Nat.lt_or_ge t k with h | h
        · have h1 : 2 ^ t < 2 ^ k := Nat.pow_lt_pow_right (by omega) h
          rw [← HN.out, ← HST.out] at h1; omega
        · show t = k; omega
      go_wp2
      go_end0
      exact ⟨rfl, by rw [← htk'.out]; exact HROW.out, HBEL.out⟩


end Go.Proofs.Ytbbjjfgainbmdaa
