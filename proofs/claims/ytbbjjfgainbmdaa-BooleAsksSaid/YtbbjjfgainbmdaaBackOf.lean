/- What parterreref3.BackOf answers. Conditions: as each theorem says. -/
import Derived.Test.YtbbjjfgainbmdaaBack
import Derived.Test.YtbbjjfgainbmdaaIntsEq
namespace Go.Proofs.Ytbbjjfgainbmdaa
open Go.RowKit
set_option linter.unusedVariables false

theorem outP_false {N x : Int} (h : outP N x = false) : -N ≤ x ∧ x ≤ N := by
  simp only [outP, Bool.or_eq_false_iff, decide_eq_false_iff_not] at h; omega
theorem outP_true {N x : Int} (h : outP N x = true) : x < -N ∨ N < x := by
  simp only [outP, Bool.or_eq_true, decide_eq_true_eq] at h; exact h

def bkStep (xs : List Int) (x a : Nat) (s : Int) : Int := if wt (a &&& x) % 2 = 0 then s + nth xs a else s - nth xs a
def bkAcc (xs : List Int) (x : Nat) : Nat → Int := acc (bkStep xs x) 0
theorem bkAcc_bound (xs : List Int) (hb : ∀ i, -256 ≤ nth xs i ∧ nth xs i ≤ 256) (x : Nat) : ∀ k : Nat, -(256 * (k : Int)) ≤ bkAcc xs x k ∧ bkAcc xs x k ≤ 256 * k
  | 0 => by simp [bkAcc, acc]
  | k + 1 => by
    have h := bkAcc_bound xs hb x k
    have := hb k
    have e : bkAcc xs x (k + 1) = bkStep xs x k (bkAcc xs x k) := rfl
    rw [e, bkStep]
    split <;> omega
/-- The table that BackOf gathers. -/
def bkBit (xs : List Int) (n x : Nat) : Int := if bkAcc xs x n < 0 then 1 else 0
def bkTab (xs : List Int) (n : Nat) : List Int := tab (bkBit xs n) n
def spTab (t : List Int) (n : Nat) : List Int := tab (fun a => spAcc t a n) n
theorem bkTab01 (xs : List Int) (n i : Nat) : nth (bkTab xs n) i = 0 ∨ nth (bkTab xs n) i = 1 := by
  unfold bkTab
  by_cases hi : i < n
  · rw [nth_tab _ _ _ hi, bkBit]; split <;> simp
  · left; unfold nth; simp [List.getElem?_eq_none (show (tab (bkBit xs n) n).length ≤ i by rw [tab_length]; omega)]

/-- What BackOf says of numbers in range. -/
def BackOfPost (n : Nat) (xs : List Int) (w : World) (e : Ending) (w' : World) : Prop := Below w.heap.size w w' ∧
  ((spTab (bkTab xs n) n = xs ∧ (∃ ao' cap', e = .returned (.tuple #[.slice ao' n cap', .int .i64 0]) ∧ RowOf 3 w' w.heap.size ao' n cap' (ints (bkTab xs n))))
   ∨ spTab (bkTab xs n) n ≠ xs ∧ e = .returned (.tuple #[.slice none 0 0, .int .i64 4]))

set_option maxHeartbeats 400000 in
theorem backOf_len (ao : Option Addr) (cap n : Nat) (w : World) (hl : ∀ k, k ≤ 8 → n ≠ 2 ^ k) :
    Calls Try.prog 11 #[.slice ao n cap] w fun e w' => e = .returned (.tuple #[.slice none 0 0, .int .i64 2]) ∧ Below w.heap.size w w' := by
  have H1 := Lib.hid (bitsOf_no n w hl)
  clear hl
  go_enter Try.func11, Try.ntmps11
  go_wp2_with (go_at_call 20; refine H1.out.mono ?_; rintro e w1 ⟨rfl, rfl⟩)
  go_ret2
  exact ⟨rfl, Below.refl _ _⟩

set_option maxHeartbeats 1000000 in
theorem backOf_rng (b off n cap k : Nat) (xs : List Int) (w : World) (hk : k ≤ 8) (hn : n = 2 ^ k) (hx : xs.length = n) (hlt : b < w.heap.size) (hc : ∀ j u, (ints xs)[j]? = some u → w.cell? ⟨b, off + j, none⟩ = some u)
    (ho : xs.any (outP n) = true) :
    Calls Try.prog 11 #[.slice (some ⟨b, off, none⟩) n cap] w fun e w' => e = .returned (.tuple #[.slice none 0 0, .int .i64 1]) ∧ Below w.heap.size w w' := by
  have hn8 : n ≤ 256 := by rw [hn]; exact pow8 hk
  have H1 := Lib.hid (bitsOf_yes k n w hk hn)
  have HX := Lib.hid hx
  have HC := Lib.hid hc
  have HO := Lib.hid ho
  clear hn hx hc ho
  go_enter Try.func11, Try.ntmps11
  go_wp2_with (go_at_call 20; refine H1.out.mono ?_; rintro e w1 ⟨rfl, rfl⟩)
  go_loopw [5] (fun i wr => ∃ j : Nat, j ≤ n ∧ i = .int .i64 j ∧ Drawn w wr ∧ ∀ i, i < j → outP n (nth xs i) = false) (fun i _ => n - (intOf i).toNat)
  case atStart => exact ⟨0, by omega, rfl, Drawn.refl _, fun i hi => by omega⟩
  case round =>
    obtain ⟨j, hj, rfl, hd, hall⟩ := hrel
    have HA := Lib.hid hall
    have HD := Lib.hid hd
    clear hall
    by_cases hjn : j < n
    · have hcj : wr.cell? ⟨b, off + j, none⟩ = some (.int .i64 (nth xs j)) := by rw [hd.cell]; exact HC.out j _ (ints_get xs j (by rw [HX.out]; exact hjn))
      clear hd
      obtain ⟨m, hm⟩ : ∃ m, nth xs j = m := ⟨_, rfl⟩
      rw [hm] at hcj
      have HM := Lib.hid hm
      clear hm
      by_cases h1 : m < -(n : Int)
      · have b1 : decide (m < -(n : Int)) = true := decide_eq_true h1
        go_wp2_with fail
        try go_quiet (fail)
        try go_wp2
        go_ret2
        exact ⟨rfl, by first | exact HD.out.below _ | exact (HD.out.trans (Drawn.drewN _ _)).below _⟩
      · have b1 : decide (m < -(n : Int)) = false := decide_eq_false h1
        by_cases h2 : (n : Int) < m
        · have b2 : decide ((n : Int) < m) = true := decide_eq_true h2
          go_wp2_with fail
          try go_quiet (fail)
          try go_wp2
          go_ret2
          exact ⟨rfl, by first | exact HD.out.below _ | exact (HD.out.trans (Drawn.drewN _ _)).below _⟩
        · have b2 : decide ((n : Int) < m) = false := decide_eq_false h2
          have HP : Hid (outP n m = false) := by show outP n m = false; simp only [outP, Bool.or_eq_false_iff, decide_eq_false_iff_not]; exact ⟨h1, h2⟩
          go_wp2_with fail
          try go_quiet (fail)
          try go_wp2
          go_roundw
          case rel => exact ⟨j + 1, by omega, by go_num, by first | exact HD.out | exact HD.out.trans (Drawn.drewN _ _), fun i hi => by
            rcases Nat.lt_succ_iff_lt_or_eq.1 hi with h | rfl
            · exact HA.out i h
            · rw [HM.out]; exact HP.out⟩
          case measure => simp [intOf]; omega
    · exfalso
      have hx := HO.out
      rw [List.any_eq_true] at hx
      obtain ⟨x, hm, hp⟩ := hx
      obtain ⟨i, hi, rfl⟩ := mem_nth xs x hm
      rw [HA.out i (by rw [HX.out] at hi; omega)] at hp
      cases hp

set_option maxHeartbeats 2000000 in
theorem backOf_in (b off n cap k : Nat) (xs : List Int) (w : World) (hk : k ≤ 8) (hn : n = 2 ^ k) (hx : xs.length = n) (hlt : b < w.heap.size) (hc : ∀ j u, (ints xs)[j]? = some u → w.cell? ⟨b, off + j, none⟩ = some u)
    (ho : xs.any (outP n) = false) (hb : ∀ i, -256 ≤ nth xs i ∧ nth xs i ≤ 256) :
    Calls Try.prog 11 #[.slice (some ⟨b, off, none⟩) n cap] w (BackOfPost n xs w) := by
  have hn8 : n ≤ 256 := by rw [hn]; exact pow8 hk
  have hn0 : 0 < n := by rw [hn]; exact two_pow_pos k
  have H1 := Lib.hid (bitsOf_yes k n w hk hn)
  have HX := Lib.hid hx
  have HC := Lib.hid hc
  have HB := Lib.hid hb
  have HO : Hid (∀ j, j < n → -(n : Int) ≤ nth xs j ∧ nth xs j ≤ n) := fun j hj => by
    rw [List.any_eq_false] at ho
    exact outP_false (by simpa using ho _ (nth_mem xs j (by omega)))
  clear hn hx hc ho hb
  go_enter Try.func11, Try.ntmps11
  go_wp2_with (go_at_call 20; refine H1.out.mono ?_; rintro e w1 ⟨rfl, rfl⟩)
  go_loopw [5] (fun i wr => ∃ j : Nat, j ≤ n ∧ i = .int .i64 j ∧ Drawn w wr) (fun i _ => n - (intOf i).toNat)
  case atStart => exact ⟨0, by omega, rfl, Drawn.refl _⟩
  case round =>
    obtain ⟨j, hj, rfl, hd⟩ := hrel
    have HD := Lib.hid hd
    by_cases hjn : j < n
    · have hcj : wr.cell? ⟨b, off + j, none⟩ = some (.int .i64 (nth xs j)) := by rw [hd.cell]; exact HC.out j _ (ints_get xs j (by rw [HX.out]; exact hjn))
      clear hd
      obtain ⟨h1, h2⟩ := HO.out j hjn
      obtain ⟨m, hm⟩ : ∃ m, nth xs j = m := ⟨_, rfl⟩
      rw [hm] at hcj h1 h2
      clear hm
      have b1 : decide (m < -(n : Int)) = false := decide_eq_false (by omega)
      have b2 : decide ((n : Int) < m) = false := decide_eq_false (by omega)
      go_wp2_with fail
      try go_quiet (fail)
      try go_wp2
      go_roundw
      case rel => exact ⟨j + 1, by omega, by go_num, by first | exact HD.out | exact HD.out.trans (Drawn.drewN _ _)⟩
      case measure => simp [intOf]; omega
    · obtain rfl : j = n := by omega
      have hdF : decide ((j : Int) < (j : Int)) = false := decide_eq_false (by omega)
      obtain ⟨w1, rfl⟩ : ∃ w1 : World, w1 = wr := ⟨_, rfl⟩
      have hs1 := hd.size
      clear hd
      go_wp2_with fail
      go_loopw [6, 7] (fun v i wr => ∃ (x : Nat) (ao : Option Addr) (cp : Nat), x ≤ j ∧ i = .int .i64 x ∧ v = .slice ao x cp ∧ RowOf 3 wr w.heap.size ao x cp (ints (tab (bkBit xs j) x)) ∧ Below w.heap.size w wr) (fun _ i _ => j - (intOf i).toNat)
      case atStart => exact ⟨0, none, 0, by omega, rfl, rfl, RowOf.nil _ _ _, HD.out.below _⟩
      case round =>
        obtain ⟨x, ao, cp, hxj, rfl, rfl, hrow, hbel⟩ := hrel
        have HROW := Lib.hid hrow
        have HBEL := Lib.hid hbel
        have hs2 := hbel.size
        clear hrow
        by_cases hxn : x < j
        · have hd : decide (x < j) = true := decide_eq_true hxn
          clear hbel
          go_wp2
          obtain ⟨wo, rfl⟩ : ∃ wo : World, wo = wr := ⟨_, rfl⟩
          go_loop [8, 9] (fun s i => ∃ a : Nat, a ≤ j ∧ i = .int .i64 a ∧ s = .int .i64 (bkAcc xs x a)) (fun _ i => j - (intOf i).toNat)
          case atStart => exact ⟨0, by omega, rfl, rfl⟩
          case round =>
            obtain ⟨a, ha, rfl, rfl⟩ := hrel
            have hb := bkAcc_bound xs HB.out x a
            by_cases han : a < j
            · have hca : wo.cell? ⟨b, off + a, none⟩ = some (.int .i64 (nth xs a)) := by
                rw [HBEL.out.cell (p := ⟨b, off + a, none⟩) hlt]
                exact HC.out a _ (ints_get xs a (by rw [HX.out]; exact han))
              have hand : bits .and .i64 (a : Int) (x : Int) = ((a &&& x : Nat) : Int) := bits_and_nat a x (by omega) (by omega)
              have hw := weight_any (a &&& x) wo (Nat.lt_of_le_of_lt Nat.and_le_left (by omega))
              have hwl := wt_le (a &&& x)
              have hbn := HB.out a
              have HS : Hid (bkAcc xs x (a + 1) = bkStep xs x a (bkAcc xs x a)) := rfl
              unfold bkStep at HS
              obtain ⟨s0, hs0⟩ : ∃ s0, bkAcc xs x a = s0 := ⟨_, rfl⟩
              obtain ⟨y, hy⟩ : ∃ y, nth xs a = y := ⟨_, rfl⟩
              obtain ⟨u, hu⟩ : ∃ u, wt (a &&& x) = u := ⟨_, rfl⟩
              rw [hu] at hw hwl HS
              rw [hy] at hca hbn HS
              rw [hs0] at hb HS ⊢
              have HW := Lib.hid hw
              obtain ⟨hb1, hb2⟩ := hb
              obtain ⟨hb3, hb4⟩ := hbn
              clear hu hy hs0 hw
              by_cases hp : u % 2 = 0
              · have hp2 : ((u : Int) % 2 == 0) = true := by rw [beq_iff_eq]; omega
                have HS2 : Hid (bkAcc xs x (a + 1) = s0 + y) := by rw [HS.out, if_pos hp]; rfl
                clear hp
                go_wp2_with (go_at_call 34; refine HW.out.mono ?_; rintro e w' ⟨rfl, rfl⟩)
                go_round
                case rel => exact ⟨a + 1, by omega, by go_num, by rw [HS2.out]⟩
                case measure => simp [intOf]; omega
              · have hp2 : ((u : Int) % 2 == 0) = false := by rw [beq_eq_false_iff_ne]; omega
                have HS2 : Hid (bkAcc xs x (a + 1) = s0 - y) := by rw [HS.out, if_neg hp]; rfl
                clear hp
                go_wp2_with (go_at_call 34; refine HW.out.mono ?_; rintro e w' ⟨rfl, rfl⟩)
                go_round
                case rel => exact ⟨a + 1, by omega, by go_num, by rw [HS2.out]⟩
                case measure => simp [intOf]; omega
            · obtain rfl : a = j := by omega
              have HS : Hid (bkBit xs a x = if bkAcc xs x a < 0 then 1 else 0) := rfl
              obtain ⟨s0, hs0⟩ : ∃ s0, bkAcc xs x a = s0 := ⟨_, rfl⟩
              rw [hs0] at HS hb ⊢
              clear hs0
              by_cases hneg : s0 < 0
              · have HS2 : Hid (bkBit xs a x = 1) := by rw [HS.out]; exact if_pos hneg
                go_wp2_with (at_builtin; refine wpList_appInt eInt rfl (.tmp 74) (.tmp 75) rfl w.heap.size rfl HROW.out rfl (by omega) (by omega) ?_; intro ao' cap' w2 hr1 hg1 hb1)
                go_roundw
                case rel => exact ⟨x + 1, ao', cap', by omega, by go_num, rfl, by rw [← tab_snoc (bkBit xs a) x 1 HS2.out]; exact hr1, hb1 _ _ HBEL.out (Nat.le_refl _)⟩
                case measure => simp [intOf]; omega
              · have HS2 : Hid (bkBit xs a x = 0) := by rw [HS.out]; exact if_neg hneg
                go_wp2_with (at_builtin; refine wpList_appInt eInt rfl (.tmp 77) (.tmp 78) rfl w.heap.size rfl HROW.out rfl (by omega) (by omega) ?_; intro ao' cap' w2 hr1 hg1 hb1)
                go_roundw
                case rel => exact ⟨x + 1, ao', cap', by omega, by go_num, rfl, by rw [← tab_snoc (bkBit xs a) x 0 HS2.out]; exact hr1, hb1 _ _ HBEL.out (Nat.le_refl _)⟩
                case measure => simp [intOf]; omega
        · obtain rfl : x = j := by omega
          obtain ⟨g, rfl, hg0, hg1, hcell, _⟩ := HROW.out.opened hn0
          have H5 := Lib.hid (spectrumOf_any g 0 x cp (bkTab xs x) wr (tab_length _ _) hn8 (bkTab01 xs x) hg1 (fun j u hu => by rw [Nat.zero_add]; exact hcell j u hu))
          clear hcell hbel
          go_wp2_with fail
          refine H5.out.mono ?_
          rintro e w5 ⟨ao5, cp5, rfl, hr5, hb5⟩
          have hs5 := hb5.size
          have HALL : Hid (Below w.heap.size w w5) := HBEL.out.trans (hb5.mono hs2)
          have RX : Hid (Reads w5 (some ⟨b, off, none⟩) (ints xs)) := .inr ⟨b, off, rfl, by omega, fun j u hu => by rw [HALL.out.cell (p := ⟨b, off + j, none⟩) hlt]; exact HC.out j u hu⟩
          have HRT : Hid (RowOf 3 w5 w.heap.size (some ⟨g, 0, none⟩) x cp (ints (bkTab xs x))) := RowOf.below HROW.out hb5 (Nat.le_refl _)
          have HR5 : Hid (Reads w5 ao5 (ints (spTab (bkTab xs x) x))) := RowOf.reads hr5
          clear hr5 hb5
          by_cases heq : spTab (bkTab xs x) x = xs
          · have HE := Lib.hid heq
            rw [heq] at HR5
            have H6 := Lib.hid (ints_yes ao5 (some ⟨b, off, none⟩) x cp5 cap xs w5 HX.out (by unfold maxLen; omega) HR5.out RX.out)
            clear heq
            go_wp2_with (go_at_call 12; refine H6.out.mono ?_; rintro e w6 ⟨rfl, hd6⟩)
            go_ret2
            unfold BackOfPost
            exact ⟨HALL.out.trans (hd6.below _), .inl ⟨HE.out, some ⟨g, 0, none⟩, cp, rfl, RowOf.below HRT.out (hd6.below w5.heap.size) (Nat.le_refl _)⟩⟩
          · have HE := Lib.hid heq
            have H6 := Lib.hid (ints_no ao5 (some ⟨b, off, none⟩) x x cp5 cap (spTab (bkTab xs x) x) xs w5 (tab_length _ _) HX.out (by unfold maxLen; omega) (by unfold maxLen; omega) HR5.out RX.out heq)
            clear heq
            go_wp2_with (go_at_call 12; refine H6.out.mono ?_; rintro e w6 ⟨rfl, hd6⟩)
            go_ret2
            unfold BackOfPost
            exact ⟨HALL.out.trans (hd6.below _), .inr ⟨HE.out, rfl⟩⟩

end Go.Proofs.Ytbbjjfgainbmdaa
