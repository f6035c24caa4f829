/- What boole.Anf and parterreref3.AnfOf answer. Conditions: as each theorem says. -/
import Derived.Test.YtbbjjfgainbmdaaAnf
import Derived.Test.YtbbjjfgainbmdaaSpectrumOf
import Derived.Test.YtbbjjfgainbmdaaBlk
namespace Go.Proofs.Ytbbjjfgainbmdaa
open Go.RowKit

/-- A list of ints that has been made since w0. -/
def OwnI (w0 w : World) (v : Value) (xs : List Int) : Prop := ∃ ao n cap, v = .slice ao n cap ∧ RowOf 3 w w0.heap.size ao n cap (ints xs) ∧ Ext w0 w
theorem OwnI.nil {w0 w : World} (h : Ext w0 w) : OwnI w0 w (.slice none 0 0) [] := ⟨none, 0, 0, rfl, RowOf.nil _ _ _, h⟩
/-- A list of bits that has been made since w0. -/
def Own8 (w0 w : World) (v : Value) (xs : List Int) : Prop := ∃ ao n cap, v = .slice ao n cap ∧ RowOf 43 w w0.heap.size ao n cap (u8s xs) ∧ Ext w0 w
theorem Own8.nil {w0 w : World} (h : Ext w0 w) : Own8 w0 w (.slice none 0 0) [] := ⟨none, 0, 0, rfl, RowOf.nil _ _ _, h⟩

/-- The sum of products. -/
def anfL (xs : List Int) (k n : Nat) : List Int := tab (mixA (nth xs) k) n
theorem tab_self (xs : List Int) : tab (nth xs) xs.length = xs :=
  nth_ext _ _ (tab_length _ _) fun j hj => nth_tab _ _ _ (by rwa [tab_length] at hj)
theorem nth_out (xs : List Int) (i : Nat) (h : xs.length ≤ i) : nth xs i = 0 := by
  unfold nth; simp [List.getElem?_eq_none h]
theorem mixA_congr {g g' : Nat → Int} (k : Nat) (i : Nat) (hi : i < 2 ^ k) (h : ∀ x, x < 2 ^ k → g x = g' x) : mixA g k i = mixA g' k i := by
  unfold mixA; rw [mix_all _ _ _ _ hi, mix_all _ _ _ _ hi]
  rw [sumN_congr fun x hx => by rw [h x hx]]

set_option maxHeartbeats 1000000 in
theorem anf_yes (b off n cap k : Nat) (xs : List Int) (w : World) (hn : xs.length = n) (ht : IsTable xs k) (hlt : b < w.heap.size) (hc : ∀ j u, (ints xs)[j]? = some u → w.cell? ⟨b, off + j, none⟩ = some u) :
    Calls Try.prog 16 #[.slice (some ⟨b, off, none⟩) n cap] w fun e w' =>
      ∃ g cap', e = .returned (.tuple #[.slice (some ⟨g, 0, none⟩) n cap', .int .i64 0]) ∧ RowOf 3 w' w.heap.size (some ⟨g, 0, none⟩) n cap' (ints (anfL xs k n)) ∧ Ext w w' := by
  have hb := ht.big
  have hpos : 0 < n := by rw [← hn, ht.len]; exact two_pow_pos k
  have hn8 : n ≤ 256 := by omega
  have H1 := Lib.hid (check_yes (some ⟨b, off, none⟩) cap xs n k w hn ht (.inr ⟨b, off, rfl, hlt, hc⟩))
  have HN : Hid (n = 2 ^ k) := by rw [← hn]; exact ht.len
  have HXL := Lib.hid hn
  have HC := Lib.hid hc
  have HK := Lib.hid ht.k8
  have H01 := Lib.hid ht.nth01
  clear hc ht hb hn
  go_enter Try.func16, Try.ntmps16
  go_wp2_with (go_at_call 18; refine H1.out.mono ?_; rintro e w1 ⟨rfl, hd⟩)
  have HD := Lib.hid hd.ext
  clear hd
  go_loopw [6, 8, 22] (fun v _ i wr => ∃ j : Nat, j ≤ n ∧ i = .int .i64 j ∧ Own8 w wr v (tab (nth xs) j)) (fun _ _ i _ => n - (intOf i).toNat)
  case atStart => exact ⟨0, by omega, rfl, Own8.nil HD.out⟩
  case round =>
    obtain ⟨j, hj, rfl, hown⟩ := hrel
    obtain ⟨ao, l, cp, rfl, hrow, hx⟩ := hown
    have hlj : l = j := by have := hrow.length; rw [u8s_length, tab_length] at this; exact this.symm
    subst hlj
    have HROW := Lib.hid hrow
    have HX := Lib.hid hx
    have hs2 := hx.size
    clear hrow hx
    by_cases hjn : l < n
    · have hcj : wr.cell? ⟨b, off + l, none⟩ = some (.int .i64 (nth xs l)) := by
        rw [HX.out.cell hlt]
        exact HC.out l _ (ints_get xs l (by rw [HXL.out]; exact hjn))
      have h01 := H01.out l
      obtain ⟨x, hx⟩ : ∃ x, nth xs l = x := ⟨_, rfl⟩
      rw [hx] at hcj h01
      have HV := Lib.hid hx
      clear hx
      rcases h01 with rfl | rfl
      · go_wp2_with (at_builtin; refine wpList_app1 eBit rfl (.tmp 26) (.tmp 29) rfl w.heap.size (by rfl) HROW.out (by rfl) rfl (by omega) (by omega) ?_; intro ao' cap' w2 hr1 hg1 hb1)
        have HR1 := Lib.hid hr1
        have HX1 := Lib.hid (hb1 _ _ HX.out (Nat.le_refl _))
        clear hr1 hg1 hb1
        go_roundw
        case rel => exact ⟨l + 1, by omega, by go_num, ao', l + 1, cap', rfl, by rw [← tab_snoc8 _ _ 0 HV.out]; exact HR1.out, HX1.out⟩
        case measure => simp [intOf]; omega
      · go_wp2_with (at_builtin; refine wpList_app1 eBit rfl (.tmp 26) (.tmp 29) rfl w.heap.size (by rfl) HROW.out (by rfl) rfl (by omega) (by omega) ?_; intro ao' cap' w2 hr1 hg1 hb1)
        have HR1 := Lib.hid hr1
        have HX1 := Lib.hid (hb1 _ _ HX.out (Nat.le_refl _))
        clear hr1 hg1 hb1
        go_roundw
        case rel => exact ⟨l + 1, by omega, by go_num, ao', l + 1, cap', rfl, by rw [← tab_snoc8 _ _ 1 HV.out]; exact HR1.out, HX1.out⟩
        case measure => simp [intOf]; omega
    · obtain rfl : n = l := by omega
      obtain ⟨g, rfl, hg0, hg1, _, _⟩ := HROW.out.opened hpos
      have hn01 : ∀ i, nth (tab (nth xs) n) i = 0 ∨ nth (tab (nth xs) n) i = 1 := fun i => by
        rw [← HXL.out, tab_self]; exact H01.out i
      have h2 := spread_anf g k n cp w.heap.size _ wr HK.out HN.out (tab_length _ _) hn01 HROW.out
      have he : tab (mixA (nth (tab (nth xs) n)) k) n = anfL xs k n := by rw [← HXL.out, tab_self]; rfl
      rw [he] at h2
      have H2 := Lib.hid h2
      clear h2 hn01 he
      go_wp2_with (go_at_call 36; refine H2.out.mono ?_; rintro e w3 ⟨rfl, hr3, hb3⟩)
      have HR3 := Lib.hid hr3
      have E3 : Hid (Ext w w3) := Below.trans HX.out hb3
      clear hr3 hb3
      go_loopw [9, 11, 36] (fun v _ i wr => ∃ j : Nat, j ≤ n ∧ i = .int .i64 j ∧ OwnI w3 wr v (tab (mixA (nth xs) k) j)) (fun _ _ i _ => n - (intOf i).toNat)
      case atStart => exact ⟨0, by omega, rfl, OwnI.nil (Ext.refl _)⟩
      case round =>
        obtain ⟨j, hj, rfl, hown⟩ := hrel
        obtain ⟨ao, l, cp2, rfl, hrow, hx⟩ := hown
        have hlj : l = j := by have := hrow.length; rw [ints_length, tab_length] at this; exact this.symm
        subst hlj
        have HROW2 := Lib.hid hrow
        have HX2 := Lib.hid hx
        have hs3 := hx.size
        clear hrow hx
        by_cases hln : l < n
        · obtain ⟨_, hg3, hcell, _⟩ := HR3.out.known
          have hcj : wr.cell? ⟨g, l, none⟩ = some (.int .u8 (mixA (nth xs) k l)) := by
            rw [HX2.out.cell hg3, hcell l _ (u8s_get _ l (by unfold anfL; rw [tab_length]; exact hln))]
            unfold anfL; rw [nth_tab _ _ _ hln]
          have h01 := mixA_01 (nth xs) k l
          obtain ⟨y, hy⟩ : ∃ y, mixA (nth xs) k l = y := ⟨_, rfl⟩
          rw [hy] at hcj h01
          have HV := Lib.hid hy
          have hy0 : 0 ≤ y := by omega
          have hy1 : y ≤ 1 := by omega
          clear hy h01 hcell hg3
          go_wp2_with (at_builtin; refine wpList_appInt eInt rfl (.tmp 40) (.tmp 43) rfl w3.heap.size (by rfl) HROW2.out (by rfl) (by omega) hs3 ?_; intro ao' cap' w4 hr1 hg1 hb1)
          have HR1 := Lib.hid hr1
          have HX1 := Lib.hid (hb1 _ _ HX2.out (Nat.le_refl _))
          clear hr1 hg1 hb1
          go_roundw
          case rel => exact ⟨l + 1, by omega, by go_num, ao', l + 1, cap', rfl, by rw [← tab_snoc _ _ y HV.out]; exact HR1.out, HX1.out⟩
          case measure => simp [intOf]; omega
        · obtain rfl : n = l := by omega
          obtain ⟨g2, rfl, hg4, hg5, _, _⟩ := HROW2.out.opened hpos
          go_wp2
          go_ret2
          exact ⟨g2, cp2, rfl, HROW2.out.mono E3.out.size, E3.out.trans HX2.out⟩

set_option maxHeartbeats 400000 in
theorem anf_bit (ao : Option Addr) (cap : Nat) (xs : List Int) (n k : Nat) (w : World) (hn : xs.length = n) (hk : k ≤ 8) (hl : n = 2 ^ k) (hx : xs.any notBit = true) (hr : Reads w ao (ints xs)) :
    Calls Try.prog 16 #[.slice ao n cap] w fun e w' => e = .returned (.tuple #[.slice none 0 0, .int .i64 1]) ∧ Drawn w w' := by
  have H1 := Lib.hid (check_bit ao cap xs n k w hn hk hl hx hr)
  clear hn hl hx hr
  go_enter Try.func16, Try.ntmps16
  go_wp2_with (go_at_call 18; refine H1.out.mono ?_; rintro e w1 ⟨rfl, hd⟩)
  go_ret2
  exact ⟨rfl, hd⟩

set_option maxHeartbeats 400000 in
theorem anf_len (ao : Option Addr) (cap n : Nat) (w : World) (hl : ∀ k, k ≤ 8 → n ≠ 2 ^ k) :
    Calls Try.prog 16 #[.slice ao n cap] w fun e w' => e = .returned (.tuple #[.slice none 0 0, .int .i64 2]) ∧ Drawn w w' := by
  have H1 := Lib.hid (check_len ao cap n w hl)
  clear hl
  go_enter Try.func16, Try.ntmps16
  go_wp2_with (go_at_call 18; refine H1.out.mono ?_; rintro e w1 ⟨rfl, hd⟩)
  go_ret2
  exact ⟨rfl, hd⟩

/-- The sum within u, as far as x. -/
def anfAcc (t : List Int) (u : Nat) : Nat → Int := acc (fun x s => if x &&& u = x then s + nth t x else s) 0
theorem anfAcc_bound (t : List Int) (h01 : ∀ i, nth t i = 0 ∨ nth t i = 1) (u : Nat) : ∀ x : Nat, 0 ≤ anfAcc t u x ∧ anfAcc t u x ≤ x
  | 0 => by simp [anfAcc, acc]
  | x + 1 => by
    have := anfAcc_bound t h01 u x
    have h := h01 x
    have e : anfAcc t u (x + 1) = if x &&& u = x then anfAcc t u x + nth t x else anfAcc t u x := rfl
    rw [e]
    split <;> omega
/-- The reference's sum of products. -/
def anfOfL (t : List Int) (n : Nat) : List Int := tab (fun u => anfAcc t u (u + 1) % 2) n

set_option maxHeartbeats 1000000 in
theorem anfOf_any (b off n cap : Nat) (t : List Int) (w : World) (hn : t.length = n) (hn8 : n ≤ 256) (h01 : ∀ i, nth t i = 0 ∨ nth t i = 1) (hlt : b < w.heap.size) (hc : ∀ j u, (ints t)[j]? = some u → w.cell? ⟨b, off + j, none⟩ = some u) :
    Calls Try.prog 21 #[.slice (some ⟨b, off, none⟩) n cap] w fun e w' =>
      ∃ ao cap', e = .returned (.slice ao n cap') ∧ RowOf 3 w' w.heap.size ao n cap' (ints (anfOfL t n)) ∧ Ext w w' := by
  have HN := Lib.hid hn
  have HC := Lib.hid hc
  have H01 := Lib.hid h01
  clear hn hc h01
  go_enter Try.func21, Try.ntmps21
  go_wp2
  go_loopw [3, 4, 5, 6] (fun v i _ _ wr => ∃ u : Nat, u ≤ n ∧ i = .int .i64 u ∧ OwnI w wr v (tab (fun u => anfAcc t u (u + 1) % 2) u)) (fun _ i _ _ _ => n - (intOf i).toNat)
  case atStart => exact ⟨0, by omega, rfl, OwnI.nil (Ext.refl _)⟩
  case round =>
    obtain ⟨u, hu, rfl, hown⟩ := hrel
    obtain ⟨ao, l, cp, rfl, hrow, hx⟩ := hown
    have hlj : l = u := by have := hrow.length; rw [ints_length, tab_length] at this; exact this.symm
    subst hlj
    have HROW := Lib.hid hrow
    have HX := Lib.hid hx
    have hs2 := hx.size
    clear hrow hx
    by_cases hun : l < n
    · obtain ⟨wo, rfl⟩ : ∃ wo : World, wo = wr := ⟨_, rfl⟩
      go_wp2
      go_loop [5, 6] (fun s i => ∃ x : Nat, x ≤ l + 1 ∧ i = .int .i64 x ∧ s = .int .i64 (anfAcc t l x)) (fun _ i => l + 1 - (intOf i).toNat)
      case atStart => exact ⟨0, by omega, rfl, rfl⟩
      case round =>
        obtain ⟨x, hx, rfl, rfl⟩ := hrel
        have hb := anfAcc_bound t H01.out l x
        by_cases hxl : x ≤ l
        · have hcx : wo.cell? ⟨b, off + x, none⟩ = some (.int .i64 (nth t x)) := by
            rw [HX.out.cell hlt]
            exact HC.out x _ (ints_get t x (by rw [HN.out]; omega))
          have hand : bits .and .i64 (x : Int) (l : Int) = ((x &&& l : Nat) : Int) := bits_and_nat x l (by omega) (by omega)
          have h01 := H01.out x
          have HS : Hid (anfAcc t l (x + 1) = if x &&& l = x then anfAcc t l x + nth t x else anfAcc t l x) := rfl
          obtain ⟨s, hs⟩ : ∃ s, anfAcc t l x = s := ⟨_, rfl⟩
          obtain ⟨y, hy⟩ : ∃ y, nth t x = y := ⟨_, rfl⟩
          rw [hs] at hb HS ⊢
          rw [hy] at hcx h01 HS
          have hy0 : 0 ≤ y := by omega
          have hy1 : y ≤ 1 := by omega
          obtain ⟨hb0, hb1⟩ := hb
          by_cases he : x &&& l = x
          · have HS2 : Hid (anfAcc t l (x + 1) = s + y) := by show _ = _; rw [HS.out, if_pos he]
            rw [he] at hand
            clear hs hy h01 he
            go_wp2
            go_round
            case rel => exact ⟨x + 1, by omega, by go_num, by rw [HS2.out]⟩
            case measure => simp [intOf]; omega
          · have HS2 : Hid (anfAcc t l (x + 1) = s) := by show _ = _; rw [HS.out, if_neg he]
            have hne : (((x &&& l : Nat) : Int) == (x : Int)) = false := by rw [beq_eq_false_iff_ne]; omega
            have hne2 : ((x &&& l) == x) = false := by rw [beq_eq_false_iff_ne]; exact he
            clear hs hy h01 he
            go_wp2
            go_round
            case rel => exact ⟨x + 1, by omega, by go_num, by rw [HS2.out]⟩
            case measure => simp [intOf]; omega
        · obtain rfl : x = l + 1 := by omega
          have HV : Hid ((fun u => anfAcc t u (u + 1) % 2) l = anfAcc t l (l + 1) % 2) := rfl
          obtain ⟨s, hs⟩ : ∃ s, anfAcc t l (l + 1) = s := ⟨_, rfl⟩
          rw [hs] at hb HV ⊢
          obtain ⟨hb0, hb1⟩ := hb
          clear hs
          go_wp2_with (at_builtin; refine wpList_appInt eInt rfl (.tmp 29) (.tmp 32) rfl w.heap.size (by rfl) HROW.out (by rfl) (by omega) (by omega) ?_; intro ao' cap' w4 hr1 hg1 hb1)
          have HR1 := Lib.hid hr1
          have HX1 := Lib.hid (hb1 _ _ HX.out (Nat.le_refl _))
          clear hr1 hg1 hb1
          go_roundw
          case rel => exact ⟨l + 1, by omega, by go_num, ao', l + 1, cap', rfl, by rw [← tab_snoc _ _ (s % 2) HV.out]; exact HR1.out, HX1.out⟩
          case measure => simp [intOf]; omega
    · obtain rfl : n = l := by omega
      go_wp2
      go_ret
      exact ⟨ao, cp, rfl, HROW.out, HX.out⟩

end Go.Proofs.Ytbbjjfgainbmdaa
