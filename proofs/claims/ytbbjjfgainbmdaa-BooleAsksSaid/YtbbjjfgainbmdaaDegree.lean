/- What boole.Degree, Bent and Immune answer, and the references. Conditions: as each theorem says. -/
import Derived.Test.YtbbjjfgainbmdaaBooleBad
import Derived.Test.YtbbjjfgainbmdaaOnes
namespace Go.Proofs.Ytbbjjfgainbmdaa
open Go.RowKit

theorem ones_wt_check : ((List.range 256).all fun x => decide (onesOf x = wt x)) = true := by decide +kernel
theorem ones_wt (x : Nat) (hx : x < 256) : onesOf x = wt x := by
  have h := List.all_eq_true.1 ones_wt_check x (List.mem_range.2 hx)
  simpa using h

set_option maxHeartbeats 400000 in
theorem many_any (x : Nat) (w : World) (hx : x < 256) : Calls Try.prog 39 #[.int .i64 x] w fun e w' => e = .returned (.int .i64 (wt x)) ∧ w = w' := by
  have h := ones_any x w hx
  rw [ones_wt x hx] at h
  have H := Lib.hid h
  clear h
  go_enter Try.func39, Try.ntmps39
  go_wp2_with (go_at_call 43; refine Calls.mono H.out ?_; rintro e w' ⟨rfl, rfl⟩)
  go_ret
  exact ⟨rfl, rfl⟩

/-- The greatest weight of a part, among the first ones. -/
def degTo (l : List Int) : Nat → Int
  | 0 => 0
  | j + 1 => if nth l j = 1 ∧ degTo l j < wt j then wt j else degTo l j
theorem degTo_bound (l : List Int) : ∀ j, 0 ≤ degTo l j ∧ degTo l j ≤ 8
  | 0 => by simp [degTo]
  | j + 1 => by
    have := degTo_bound l j
    have h := wt_le j
    rw [degTo]; split <;> omega

set_option maxHeartbeats 1000000 in
theorem degreeOf_any (b off n cap : Nat) (l : List Int) (w : World) (hn : l.length = n) (hn8 : n ≤ 256) (h01 : ∀ i, nth l i = 0 ∨ nth l i = 1) (hc : ∀ j u, (ints l)[j]? = some u → w.cell? ⟨b, off + j, none⟩ = some u) :
    Calls Try.prog 22 #[.slice (some ⟨b, off, none⟩) n cap] w fun e w' => e = .returned (.int .i64 (degTo l n)) ∧ w = w' := by
  have HN := Lib.hid hn
  have HC := Lib.hid hc
  have H01 := Lib.hid h01
  clear hn hc h01
  go_enter Try.func22, Try.ntmps22
  go_wp2
  go_loop [3, 4, 5] (fun m i _ => ∃ u : Nat, u ≤ n ∧ i = .int .i64 u ∧ m = .int .i64 (degTo l u)) (fun _ i _ => n - (intOf i).toNat)
  case atStart => exact ⟨0, by omega, rfl, rfl⟩
  case round =>
    obtain ⟨u, hu, rfl, rfl⟩ := hrel
    by_cases hun : u < n
    · have hcu := HC.out u _ (ints_get l u (by rw [HN.out]; exact hun))
      have hw := Lib.hid (weight_any u w (by omega))
      have hwl := wt_le u
      have hdb := degTo_bound l u
      have HS : Hid (degTo l (u + 1) = if nth l u = 1 ∧ degTo l u < wt u then (wt u : Int) else degTo l u) := rfl
      have h01 := H01.out u
      obtain ⟨x, hx⟩ : ∃ x, nth l u = x := ⟨_, rfl⟩
      obtain ⟨d, hd⟩ : ∃ d, degTo l u = d := ⟨_, rfl⟩
      obtain ⟨c, hc⟩ : ∃ c, wt u = c := ⟨_, rfl⟩
      rw [hx] at hcu h01 HS
      rw [hd] at hdb HS ⊢
      rw [hc] at hw hwl HS
      clear hx hd hc
      obtain ⟨hd1, hd2⟩ := hdb
      rcases h01 with rfl | rfl
      · have HS2 : Hid (degTo l (u + 1) = d) := by show _ = _; rw [HS.out, if_neg (fun h => by omega)]
        clear HS
        go_wp2_with (go_at_call 34; refine Calls.mono hw.out ?_; rintro e w' ⟨rfl, rfl⟩)
        go_round
        case rel => exact ⟨u + 1, by omega, by go_num, by rw [HS2.out]⟩
        case measure => simp [intOf]; omega
      · by_cases hlt : d < c
        · have HS2 : Hid (degTo l (u + 1) = c) := by show _ = _; rw [HS.out, if_pos ⟨rfl, hlt⟩]
          clear HS
          go_wp2_with (go_at_call 34; refine Calls.mono hw.out ?_; rintro e w' ⟨rfl, rfl⟩)
          go_round
          case rel => exact ⟨u + 1, by omega, by go_num, by rw [HS2.out]⟩
          case measure => simp [intOf]; omega
        · have HS2 : Hid (degTo l (u + 1) = d) := by show _ = _; rw [HS.out, if_neg (fun h => hlt h.2)]
          clear HS
          go_wp2_with (go_at_call 34; refine Calls.mono hw.out ?_; rintro e w' ⟨rfl, rfl⟩)
          go_round
          case rel => exact ⟨u + 1, by omega, by go_num, by rw [HS2.out]⟩
          case measure => simp [intOf]; omega
    · obtain rfl : n = u := by omega
      go_wp2
      go_ret
      exact ⟨rfl, rfl⟩

set_option maxHeartbeats 1000000 in
theorem degree_bad (ao : Option Addr) (n cap : Nat) (w : World) (e : Int) (he : e ≠ 0) (hb : BadTbl ao n cap e w) :
    Calls Try.prog 19 #[.slice ao n cap] w fun en w' => en = .returned (.tuple #[.int .i64 0, .int .i64 e]) ∧ Drawn w w' := by
  have H := Lib.hid hb.anf
  have b0 : (e != 0) = true := by rw [bne_iff_ne]; exact he
  clear hb he
  go_enter Try.func19, Try.ntmps19
  go_wp2_with (go_at_call 16; refine Calls.mono H.out ?_; rintro en w' ⟨rfl, hd⟩)
  go_ret2
  exact ⟨rfl, hd⟩

set_option maxHeartbeats 1000000 in
theorem degree_yes (b off n cap k : Nat) (xs : List Int) (w : World) (hn : xs.length = n) (ht : IsTable xs k) (hlt : b < w.heap.size) (hc : ∀ j u, (ints xs)[j]? = some u → w.cell? ⟨b, off + j, none⟩ = some u) :
    Calls Try.prog 19 #[.slice (some ⟨b, off, none⟩) n cap] w fun e w' => e = .returned (.tuple #[.int .i64 (degTo (anfL xs k n) n), .int .i64 0]) ∧ Ext w w' := by
  have hn8 : n ≤ 256 := by have := ht.big; omega
  have H := Lib.hid (anf_yes b off n cap k xs w hn ht hlt hc)
  clear hn ht hlt hc
  go_enter Try.func19, Try.ntmps19
  go_wp2_with fail
  refine Calls.mono H.out ?_
  rintro e w1 ⟨g, cp, rfl, hrow, hx⟩
  obtain ⟨_, _, hcell, _⟩ := hrow.known
  have HX := Lib.hid hx
  have HC : Hid (∀ u, u < n → w1.cell? ⟨g, u, none⟩ = some (.int .i64 (nth (anfL xs k n) u))) := fun u hu => hcell u _ (ints_get _ u (by unfold anfL; rw [tab_length]; exact hu))
  have H01 : Hid (∀ u, u < n → nth (anfL xs k n) u = 0 ∨ nth (anfL xs k n) u = 1) := fun u hu => by unfold anfL; rw [nth_tab _ _ _ hu]; exact mixA_01 _ _ _
  clear hrow hx hcell
  obtain ⟨l, hl⟩ : ∃ l, anfL xs k n = l := ⟨_, rfl⟩
  rw [hl] at HC H01
  have HL := Lib.hid hl
  clear hl
  go_wp2
  go_loop [6, 7, 8, 19] (fun m _ _ i => ∃ u : Nat, u ≤ n ∧ i = .int .i64 u ∧ m = .int .i64 (degTo l u)) (fun _ _ _ i => n - (intOf i).toNat)
  case atStart => exact ⟨0, by omega, rfl, rfl⟩
  case round =>
    obtain ⟨u, hu, rfl, rfl⟩ := hrel
    by_cases hun : u < n
    · have hcu := HC.out u hun
      have hw := Lib.hid (many_any u w1 (by omega))
      have hwl := wt_le u
      have hdb := degTo_bound l u
      have HS : Hid (degTo l (u + 1) = if nth l u = 1 ∧ degTo l u < wt u then (wt u : Int) else degTo l u) := rfl
      have h01 := H01.out u hun
      obtain ⟨x, hx⟩ : ∃ x, nth l u = x := ⟨_, rfl⟩
      obtain ⟨d, hd⟩ : ∃ d, degTo l u = d := ⟨_, rfl⟩
      obtain ⟨c, hc⟩ : ∃ c, wt u = c := ⟨_, rfl⟩
      rw [hx] at hcu h01 HS
      rw [hd] at hdb HS ⊢
      rw [hc] at hw hwl HS
      clear hx hd hc
      obtain ⟨hd1, hd2⟩ := hdb
      rcases h01 with rfl | rfl
      · have HS2 : Hid (degTo l (u + 1) = d) := by show _ = _; rw [HS.out, if_neg (fun h => by omega)]
        clear HS
        go_wp2
        go_round
        case rel => exact ⟨u + 1, by omega, by go_num, by rw [HS2.out]⟩
        case measure => simp [intOf]; omega
      · by_cases hlt : d < c
        · have HS2 : Hid (degTo l (u + 1) = c) := by show _ = _; rw [HS.out, if_pos ⟨rfl, hlt⟩]
          clear HS
          go_wp2_with (go_at_call 39; refine Calls.mono hw.out ?_; rintro e w' ⟨rfl, rfl⟩)
          go_round
          case rel => exact ⟨u + 1, by omega, by go_num, by rw [HS2.out]⟩
          case measure => simp [intOf]; omega
        · have HS2 : Hid (degTo l (u + 1) = d) := by show _ = _; rw [HS.out, if_neg (fun h => hlt h.2)]
          have hle : (c : Int) ≤ d := by omega
          clear HS hlt
          go_wp2_with (go_at_call 39; refine Calls.mono hw.out ?_; rintro e w' ⟨rfl, rfl⟩)
          go_round
          case rel => exact ⟨u + 1, by omega, by go_num, by rw [HS2.out]⟩
          case measure => simp [intOf]; omega
    · obtain rfl : n = u := by omega
      go_wp2
      go_ret2
      exact ⟨by rw [HL.out]; rfl, HX.out⟩

end Go.Proofs.Ytbbjjfgainbmdaa
