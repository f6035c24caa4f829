/- What boole.sums, Spectrum and parterreref3.SpectrumOf answer. Conditions: as each theorem says. -/
import Derived.Test.YtbbjjfgainbmdaaSpread
import Derived.Test.YtbbjjfgainbmdaaTable
namespace Go.Proofs.Ytbbjjfgainbmdaa
open Go.RowKit

set_option maxHeartbeats 400000 in
theorem sums_any (g k n cap B : Nat) (xs : List Int) (w : World) (hk : k ≤ 8) (hn : n = 2 ^ k) (hx : xs.length = n) (hb : ∀ i, -256 ≤ nth xs i ∧ nth xs i ≤ 256)
    (hr : RowOf 3 w B (some ⟨g, 0, none⟩) n cap (ints xs)) :
    Calls Try.prog 33 #[.slice (some ⟨g, 0, none⟩) n cap] w fun e w' =>
      e = .returned (.tuple #[]) ∧ RowOf 3 w' B (some ⟨g, 0, none⟩) n cap (ints (tab (mix sg (nth xs) k) n)) ∧ Below B w w' := by
  have H := Lib.hid (spread_sums g k n cap B xs w hk hn hx hb hr)
  clear hk hn hx hb hr
  go_enter Try.func33, Try.ntmps33
  go_wp2_with (go_at_call 41; refine H.out.mono ?_; rintro e w' ⟨rfl, h1, h2⟩)
  go_end0
  exact ⟨rfl, h1, h2⟩

/-- The spectrum of a table of k bits. -/
def spec (xs : List Int) (k a : Nat) : Int := sumN (fun x => kern sg k a x * (1 - 2 * nth xs x)) (2 ^ k)

theorem spec_tab (xs : List Int) (k : Nat) : tab (mix sg (nth (tab (fun i => 1 - 2 * nth xs i) (2 ^ k))) k) (2 ^ k) = tab (spec xs k) (2 ^ k) := by
  refine tab_congr fun a ha => ?_
  rw [mix_all _ _ _ _ ha, spec]
  refine sumN_congr fun x hx => ?_
  rw [nth_tab _ _ _ hx]

theorem IsTable.nth01 {xs : List Int} {k : Nat} (h : IsTable xs k) (i : Nat) : nth xs i = 0 ∨ nth xs i = 1 := by
  by_cases hi : i < xs.length
  · exact h.bit _ (nth_mem xs i hi)
  · left; unfold nth; simp [List.getElem?_eq_none (show xs.length ≤ i by omega)]

theorem nth_tab_bound (g : Nat → Int) (n : Nat) (C : Int) (hC : 0 ≤ C) (hg : ∀ i, -C ≤ g i ∧ g i ≤ C) (i : Nat) : -C ≤ nth (tab g n) i ∧ nth (tab g n) i ≤ C := by
  by_cases hi : i < n
  · rw [nth_tab _ _ _ hi]; exact hg i
  · unfold nth; simp [List.getElem?_eq_none (show (tab g n).length ≤ i by rw [tab_length]; omega)]; omega

set_option maxHeartbeats 1000000 in
theorem spectrum_yes (b off n cap k : Nat) (xs : List Int) (w : World) (hn : xs.length = n) (ht : IsTable xs k) (hlt : b < w.heap.size) (hc : ∀ j u, (ints xs)[j]? = some u → w.cell? ⟨b, off + j, none⟩ = some u) :
    Calls Try.prog 14 #[.slice (some ⟨b, off, none⟩) n cap] w fun e w' =>
      ∃ g cap', e = .returned (.tuple #[.slice (some ⟨g, 0, none⟩) n cap', .int .i64 0]) ∧ RowOf 3 w' w.heap.size (some ⟨g, 0, none⟩) n cap' (ints (tab (spec xs k) n)) ∧ Below w.heap.size w w' := by
  have hb := ht.big
  have hpos : 0 < n := by rw [← hn, ht.len]; exact two_pow_pos k
  have hn8 : n ≤ 256 := by omega
  have H1 := Lib.hid (check_yes (some ⟨b, off, none⟩) cap xs n k w hn ht (.inr ⟨b, off, rfl, hlt, hc⟩))
  have HN : Hid (n = 2 ^ k) := by rw [← hn]; exact ht.len
  have HXL := Lib.hid hn
  have HC := Lib.hid hc
  have HK := Lib.hid ht.k8
  have H01 := Lib.hid ht.nth01
  clear hc ht hb hn
  go_enter Try.func14, Try.ntmps14
  go_wp2_with (go_at_call 18; refine H1.out.mono ?_; rintro e w1 ⟨rfl, hd⟩)
  have hsz := hd.size
  have HD := Lib.hid hd
  clear hd
  go_loopw [6, 19] (fun v i wr => ∃ (j : Nat) (ao : Option Addr) (cp : Nat), j ≤ n ∧ i = .int .i64 j ∧ v = .slice ao j cp ∧ RowOf 3 wr w.heap.size ao j cp (ints (tab (fun i => 1 - 2 * nth xs i) j)) ∧ Below w.heap.size w wr) (fun _ i _ => n - (intOf i).toNat)
  case atStart => exact ⟨0, none, 0, by omega, rfl, rfl, RowOf.nil _ _ _, HD.out.below _⟩
  case round =>
    obtain ⟨j, ao, cp, hj, rfl, rfl, hrow, hbel⟩ := hrel
    have HROW := Lib.hid hrow
    have HBEL := Lib.hid hbel
    have hs2 := hbel.size
    clear hrow
    by_cases hjn : j < n
    · have hcj : wr.cell? ⟨b, off + j, none⟩ = some (.int .i64 (nth xs j)) := by
        rw [hbel.cell (p := ⟨b, off + j, none⟩) hlt]
        exact HC.out j _ (ints_get xs j (by rw [HXL.out]; exact hjn))
      clear hbel
      have h01 := H01.out j
      obtain ⟨x, hx⟩ : ∃ x, nth xs j = x := ⟨_, rfl⟩
      rw [hx] at hcj h01
      have HX := Lib.hid hx
      have hx0 : 0 ≤ x := by omega
      have hx1 : x ≤ 1 := by omega
      clear hx h01
      go_wp2_with (at_builtin; refine wpList_appInt eInt rfl (.tmp 23) (.tmp 27) rfl w.heap.size rfl HROW.out rfl (by omega) (by omega) ?_; intro ao' cap' w2 hr1 hg1 hb1)
      go_roundw
      case rel => exact ⟨j + 1, ao', cap', by omega, by go_num, rfl, by rw [← tab_snoc _ _ (1 - 2 * x) (by rw [HX.out])]; exact hr1, hb1 _ _ HBEL.out (Nat.le_refl _)⟩
      case measure => simp [intOf]; omega
    · obtain rfl : j = n := by omega
      obtain ⟨g, rfl, hg0, hg1, _, _⟩ := HROW.out.opened hpos
      have H2 := Lib.hid (sums_any g k j cp w.heap.size _ wr HK.out HN.out (tab_length _ _) (nth_tab_bound _ _ 256 (by omega) (fun i => by have := H01.out i; omega)) HROW.out)
      clear hbel
      go_wp2_with (go_at_call 33; refine H2.out.mono ?_; rintro e w3 ⟨rfl, hr3, hb3⟩)
      go_ret2
      refine ⟨g, cp, rfl, ?_, HBEL.out.trans hb3⟩
      rw [HN.out, spec_tab, ← HN.out] at hr3
      exact hr3

set_option maxHeartbeats 400000 in
theorem spectrum_bit (ao : Option Addr) (cap : Nat) (xs : List Int) (n k : Nat) (w : World) (hn : xs.length = n) (hk : k ≤ 8) (hl : n = 2 ^ k) (hx : xs.any notBit = true) (hr : Reads w ao (ints xs)) :
    Calls Try.prog 14 #[.slice ao n cap] w fun e w' => e = .returned (.tuple #[.slice none 0 0, .int .i64 1]) ∧ Drawn w w' := by
  have H1 := Lib.hid (check_bit ao cap xs n k w hn hk hl hx hr)
  clear hn hl hx hr
  go_enter Try.func14, Try.ntmps14
  go_wp2_with (go_at_call 18; refine H1.out.mono ?_; rintro e w1 ⟨rfl, hd⟩)
  go_ret2
  exact ⟨rfl, hd⟩

set_option maxHeartbeats 400000 in
theorem spectrum_len (ao : Option Addr) (cap n : Nat) (w : World) (hl : ∀ k, k ≤ 8 → n ≠ 2 ^ k) :
    Calls Try.prog 14 #[.slice ao n cap] w fun e w' => e = .returned (.tuple #[.slice none 0 0, .int .i64 2]) ∧ Drawn w w' := by
  have H1 := Lib.hid (check_len ao cap n w hl)
  clear hl
  go_enter Try.func14, Try.ntmps14
  go_wp2_with (go_at_call 18; refine H1.out.mono ?_; rintro e w1 ⟨rfl, hd⟩)
  go_ret2
  exact ⟨rfl, hd⟩

end Go.Proofs.Ytbbjjfgainbmdaa
