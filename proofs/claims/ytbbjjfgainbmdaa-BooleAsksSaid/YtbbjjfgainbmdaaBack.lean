/- What boole.Back answers. Conditions: as each theorem says. -/
import Derived.Test.YtbbjjfgainbmdaaSpectrumOf
import Derived.Test.YtbbjjfgainbmdaaClone
namespace Go.Proofs.Ytbbjjfgainbmdaa
open Go.RowKit

/-- Below -N or above N. -/
def outP (N x : Int) : Bool := decide (x < -N) || decide (N < x)

theorem enter_back1 : ∀ args w, (callFunc 31 args).run Try.prog w = .ok (.enter 31 args) w := fun _ _ => rfl

set_option maxHeartbeats 400000 in
theorem back1_any (x N : Int) (g : Nat) (w : World) (hN : 0 ≤ N) (hN' : N ≤ 256) (hc : w.cell? ⟨g, 0, none⟩ = some (.int .i64 N)) :
    Calls Try.prog 31 #[.int .i64 x, .pointer (some ⟨g, 0, none⟩)] w fun e w' => e = .returned (.bool (outP N x)) ∧ Drawn w w' := by
  by_cases h0 : x < -N
  · have H : Hid (outP N x = true) := by show outP N x = true; simp [outP, h0]
    have b0 : decide (x < -N) = true := decide_eq_true h0
    go_enter Try.func31, Try.ntmps31
    go_wp2_with fail
    try go_quiet (fail)
    try go_wp2
    go_ret
    exact ⟨by rw [H.out]; rfl, by first | exact Drawn.refl _ | exact Drawn.drewN _ _⟩
  · have b0 : decide (x < -N) = false := decide_eq_false h0
    by_cases h1 : N < x
    · have H : Hid (outP N x = true) := by show outP N x = true; simp [outP, h1]
      have b1 : decide (N < x) = true := decide_eq_true h1
      go_enter Try.func31, Try.ntmps31
      go_wp2_with fail
      try go_quiet (fail)
      try go_wp2
      go_ret
      exact ⟨by rw [H.out]; rfl, by first | exact Drawn.refl _ | exact Drawn.drewN _ _⟩
    · have H : Hid (outP N x = false) := by show outP N x = false; simp only [outP, Bool.or_eq_false_iff, decide_eq_false_iff_not]; exact ⟨h0, h1⟩
      have b1 : decide (N < x) = false := decide_eq_false h1
      go_enter Try.func31, Try.ntmps31
      go_wp2_with fail
      try go_quiet (fail)
      try go_wp2
      go_ret
      exact ⟨by rw [H.out]; rfl, by first | exact Drawn.refl _ | exact Drawn.drewN _ _⟩

theorem predOn_back1 (xs : List Int) (N : Int) (g : Nat) (w : World) (hN : 0 ≤ N) (hN' : N ≤ 256) (hc : w.cell? ⟨g, 0, none⟩ = some (.int .i64 N)) :
    PredOn 31 #[.pointer (some ⟨g, 0, none⟩)] xs (outP N) w := by
  intro x _ w' hd
  exact back1_any x N g w' hN hN' (by rw [hd.cell]; exact hc)

set_option maxHeartbeats 400000 in
theorem back_len (ao : Option Addr) (cap n : Nat) (w : World) (hl : ∀ k, k ≤ 8 → n ≠ 2 ^ k) :
    Calls Try.prog 10 #[.slice ao n cap] w fun e w' => e = .returned (.tuple #[.slice none 0 0, .int .i64 2]) ∧ Below w.heap.size w w' := by
  have H1 := Lib.hid (size_no n ao cap w hl)
  clear hl
  go_enter Try.func10, Try.ntmps10
  go_wp2_with (go_at_call 29; refine H1.out.mono ?_; rintro e w1 ⟨rfl, rfl⟩)
  go_ret2
  exact ⟨rfl, Below.refl _ _⟩

set_option maxHeartbeats 400000 in
theorem back_rng (b off n cap k : Nat) (xs : List Int) (w : World) (hk : k ≤ 8) (hn : n = 2 ^ k) (hx : xs.length = n) (hlt : b < w.heap.size) (hc : ∀ j u, (ints xs)[j]? = some u → w.cell? ⟨b, off + j, none⟩ = some u)
    (ho : xs.any (outP n) = true) :
    Calls Try.prog 10 #[.slice (some ⟨b, off, none⟩) n cap] w fun e w' => e = .returned (.tuple #[.slice none 0 0, .int .i64 1]) ∧ Below w.heap.size w w' := by
  have hn8 : n ≤ 256 := by rw [hn]; exact pow8 hk
  have H1 := Lib.hid (size_yes k n (some ⟨b, off, none⟩) cap w hk hn)
  have H2 : Hid (Calls Try.prog 30 #[.slice (some ⟨b, off, none⟩) n cap, .func (.func 31) #[] #[.pointer (some ⟨w.heap.size, 0, none⟩)]] (w.alloc (.cells #[.int .i64 n] 3))
      fun e w' => e = .returned (.bool true) ∧ Drawn (w.alloc (.cells #[.int .i64 n] 3)) w') := by
    rw [← ho]
    exact containsFunc_any _ _ _ n cap xs (outP n) _ hx (by unfold maxLen; omega) (.inr ⟨b, off, rfl, by simp; omega, fun j u hu => by rw [World.cell?_alloc_past _ _ _ hlt]; exact hc j u hu⟩)
      (predOn_back1 xs n w.heap.size _ (by omega) (by omega) (by rw [World.cell?_alloc_at _ _ _ _ rfl]; rfl)) enter_back1
  clear hn hx hc ho
  go_enter Try.func10, Try.ntmps10
  go_wp2_with (first
    | (go_at_call 29; refine H1.out.mono ?_; rintro e w1 ⟨rfl, rfl⟩)
    | (go_at_call 30; refine H2.out.mono ?_; rintro e w1 ⟨rfl, hd⟩))
  go_ret2
  exact ⟨rfl, ((Below.refl _ _).alloc (Nat.le_refl _) _).trans (hd.below _)⟩

/-- The answer where each number is N or -N. -/
def bitOf (N x : Int) : Int := if x = N then 0 else 1

/-- What Back says of numbers in range: the function, or ErrNone. -/
def BackPost (n : Nat) (M : Nat → Int) (w : World) (e : Ending) (w' : World) : Prop := Below w.heap.size w w' ∧
  ((∀ j, j < n → M j = n ∨ M j = -n) ∧ (∃ ao' cap', e = .returned (.tuple #[.slice ao' n cap', .int .i64 0]) ∧ RowOf 3 w' w.heap.size ao' n cap' (ints (tab (fun j => bitOf n (M j)) n)))
   ∨ (∃ j, j < n ∧ M j ≠ n ∧ M j ≠ -n) ∧ e = .returned (.tuple #[.slice none 0 0, .int .i64 4]))

set_option maxHeartbeats 1000000 in
/-- In range. -/
theorem back_in (b off n cap k : Nat) (xs : List Int) (w : World) (hk : k ≤ 8) (hn : n = 2 ^ k) (hx : xs.length = n) (hlt : b < w.heap.size) (hc : ∀ j u, (ints xs)[j]? = some u → w.cell? ⟨b, off + j, none⟩ = some u)
    (ho : xs.any (outP n) = false) (hb : ∀ i, -256 ≤ nth xs i ∧ nth xs i ≤ 256) :
    Calls Try.prog 10 #[.slice (some ⟨b, off, none⟩) n cap] w (BackPost n (mix sg (nth xs) k) w) := by
  have hn8 : n ≤ 256 := by rw [hn]; exact pow8 hk
  have hn0 : 0 < n := by rw [hn]; exact two_pow_pos k
  have H1 := Lib.hid (size_yes k n (some ⟨b, off, none⟩) cap w hk hn)
  have hc1 : ∀ j u, (ints xs)[j]? = some u → (w.alloc (.cells #[.int .i64 n] 3)).cell? ⟨b, off + j, none⟩ = some u := fun j u hu => by rw [World.cell?_alloc_past _ _ _ hlt]; exact hc j u hu
  have hbox : (w.alloc (.cells #[.int .i64 (n : Int)] 3)).cell? ⟨w.heap.size, 0, none⟩ = some (.int .i64 n) := by rw [World.cell?_alloc_at _ _ _ _ rfl]; rfl
  have H2 : Hid (Calls Try.prog 30 #[.slice (some ⟨b, off, none⟩) n cap, .func (.func 31) #[] #[.pointer (some ⟨w.heap.size, 0, none⟩)]] (w.alloc (.cells #[.int .i64 n] 3))
      fun e w' => e = .returned (.bool false) ∧ Drawn (w.alloc (.cells #[.int .i64 n] 3)) w') := by
    rw [← ho]
    exact containsFunc_any _ _ _ n cap xs (outP n) _ hx (by unfold maxLen; omega) (.inr ⟨b, off, rfl, by simp; omega, hc1⟩) (predOn_back1 xs n w.heap.size _ (by omega) (by omega) hbox) enter_back1
  have HN := Lib.hid hn
  have HX := Lib.hid hx
  have HC1 := Lib.hid hc1
  have HBOX := Lib.hid hbox
  have HB := Lib.hid hb
  clear hn hx hc ho hb hc1 hbox
  go_enter Try.func10, Try.ntmps10
  go_wp2_with fail
  refine H1.out.mono ?_
  rintro e w1 ⟨rfl, rfl⟩
  go_wp2_with fail
  refine H2.out.mono ?_
  rintro e w1 ⟨rfl, hd⟩
  have hs1 : w1.heap.size = w.heap.size + 1 := by rw [hd.size]; simp
  have HD := Lib.hid hd
  have H3 := Lib.hid (clone_any b off n cap xs w1 HX.out hn0 (by omega) (by omega) (fun j u hu => by rw [hd.cell]; exact HC1.out j u hu))
  have HS1 := Lib.hid hs1
  clear hd hs1
  go_wp2_with fail
  refine H3.out.mono ?_
  rintro e w2 ⟨ao', cap', rfl, hr2, hb2⟩
  obtain ⟨g, rfl, hg0, hg1, _, _⟩ := RowOf.opened hr2 hn0
  have H4 := Lib.hid (sums_any g k n cap' w1.heap.size xs w2 hk HN.out HX.out HB.out hr2)
  have HB2 := Lib.hid hb2
  have hsz2 := hb2.size
  clear hr2 hb2
  go_wp2_with fail
  refine H4.out.mono ?_
  rintro e w3 ⟨rfl, hr3, hb3⟩
  obtain ⟨_, hg3, hcell, _⟩ := RowOf.known hr3
  have hsz3 := hb3.size
  have HB3 : Hid (Below w1.heap.size w1 w3) := HB2.out.trans hb3
  have HBOX3 : Hid (w3.cell? ⟨w.heap.size, 0, none⟩ = some (.int .i64 n)) := by
    show _ = _
    rw [HB3.out.cell (p := ⟨w.heap.size, 0, none⟩) (by have := HS1.out; simp; omega), HD.out.cell]; exact HBOX.out
  have HCELL := Lib.hid hcell
  have HBALL : Hid (Below w.heap.size w w3) := ((Below.refl _ _).alloc (Nat.le_refl _) _).trans ((HD.out.below _).trans (HB3.out.mono (by have := HS1.out; omega)))
  clear hcell hb3 hr3
  have hwz : w.heap.size < w3.heap.size := by have := HS1.out; omega
  have hq1 : (n : Int) / n = 1 := Int.ediv_self (by omega)
  have hq2 : (-(n : Int)).tdiv n = -1 := by rw [Int.neg_tdiv, Int.tdiv_self (by omega)]
  generalize mix sg (nth xs) k = M at *
  go_wp2_with fail
  go_loopw [8, 30] (fun v i wr => ∃ (j : Nat) (ao : Option Addr) (cp : Nat), j ≤ n ∧ i = .int .i64 j ∧ v = .slice ao j cp ∧ RowOf 3 wr w3.heap.size ao j cp (ints (tab (fun j => bitOf n (M j)) j)) ∧ Below w3.heap.size w3 wr ∧ ∀ i, i < j → M i = n ∨ M i = -n) (fun _ i _ => n - (intOf i).toNat)
  case atStart => exact ⟨0, none, 0, by omega, rfl, rfl, RowOf.nil _ _ _, Below.refl _ _, fun i hi => by omega⟩
  case round =>
    obtain ⟨j, ao, cp, hj, rfl, rfl, hrow, hbel, hall⟩ := hrel
    have HROW := Lib.hid hrow
    have HBEL := Lib.hid hbel
    have HALL := Lib.hid hall
    have hsr := hbel.size
    clear hrow hall
    by_cases hjn : j < n
    · have hcj : wr.cell? ⟨g, j, none⟩ = some (.int .i64 (M j)) := by
        rw [hbel.cell (p := ⟨g, j, none⟩) (by simpa using hg3), HCELL.out j _ (ints_get _ j (by rw [tab_length]; exact hjn)), nth_tab _ _ _ hjn]
      have hbx : wr.cell? ⟨w.heap.size, 0, none⟩ = some (.int .i64 n) := by
        rw [hbel.cell (p := ⟨w.heap.size, 0, none⟩) (by simpa using hwz)]; exact HBOX3.out
      clear hbel
      obtain ⟨m, hm⟩ : ∃ m, M j = m := ⟨_, rfl⟩
      rw [hm] at hcj
      have HM := Lib.hid hm
      clear hm
      rcases (show m = (n : Int) ∨ m = -(n : Int) ∨ (m ≠ n ∧ m ≠ -n) by omega) with rfl | rfl | ⟨h1, h2⟩
      · go_wp2_with (at_builtin; refine wpList_appInt eInt rfl (.tmp 43) (.tmp 49) rfl w3.heap.size rfl HROW.out rfl (by omega) (by omega) ?_; intro ao' cap' w4 hr1 hg1 hb1)
        go_roundw
        case rel => exact ⟨j + 1, ao', cap', by omega, by go_num, rfl, by rw [← tab_snoc _ _ 0 (by rw [HM.out]; exact if_pos rfl)]; exact hr1, hb1 _ _ HBEL.out (Nat.le_refl _), fun i hi => by
          rcases Nat.lt_succ_iff_lt_or_eq.1 hi with h | rfl
          · exact HALL.out i h
          · exact .inl HM.out⟩
        case measure => simp [intOf]; omega
      · have b0 : (-(n : Int) != n) = true := by rw [bne_iff_ne]; omega
        go_wp2_with (at_builtin; refine wpList_appInt eInt rfl (.tmp 43) (.tmp 49) rfl w3.heap.size rfl HROW.out rfl (by omega) (by omega) ?_; intro ao' cap' w4 hr1 hg1 hb1)
        go_roundw
        case rel => exact ⟨j + 1, ao', cap', by omega, by go_num, rfl, by rw [← tab_snoc _ _ 1 (by rw [HM.out]; exact if_neg (by omega))]; exact hr1, hb1 _ _ HBEL.out (Nat.le_refl _), fun i hi => by
          rcases Nat.lt_succ_iff_lt_or_eq.1 hi with h | rfl
          · exact HALL.out i h
          · exact .inr HM.out⟩
        case measure => simp [intOf]; omega
      · have b0 : (m != (n : Int)) = true := by rw [bne_iff_ne]; exact h1
        have b1 : (m != -(n : Int)) = true := by rw [bne_iff_ne]; exact h2
        have HNE : Hid (∃ j, j < n ∧ M j ≠ n ∧ M j ≠ -n) := ⟨j, hjn, by rw [HM.out]; exact h1, by rw [HM.out]; exact h2⟩
        clear h1 h2
        go_wp2
        go_ret2
        unfold BackPost
        exact ⟨HBALL.out.trans (HBEL.out.mono (by omega)), .inr ⟨HNE.out, rfl⟩⟩
    · obtain rfl : j = n := by omega
      go_wp2
      go_ret2
      unfold BackPost
      exact ⟨HBALL.out.trans (HBEL.out.mono (by omega)), .inl ⟨HALL.out, ao, cp, rfl, HROW.out.mono (by omega)⟩⟩

end Go.Proofs.Ytbbjjfgainbmdaa
