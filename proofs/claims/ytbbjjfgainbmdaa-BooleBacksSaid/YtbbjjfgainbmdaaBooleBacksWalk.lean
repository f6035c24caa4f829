/- The walk of BooleBacks, and its cases. No conditions but that the list can be read. -/
import Derived.Test.YtbbjjfgainbmdaaBackLaw
import Derived.Test.YtbbjjfgainbmdaaArgInts
namespace Go.Proofs.Ytbbjjfgainbmdaa
open Go.RowKit

set_option maxHeartbeats 400000 in
theorem backs_nil (ao : Option Addr) (n cap : Nat) (e : Int) (w : World)
    (h1 : Calls Try.prog 10 #[.slice ao n cap] w fun en w' => en = .returned (.tuple #[.slice none 0 0, .int .i64 e]) ∧ Below w.heap.size w w')
    (h2 : ∀ w1, Below w.heap.size w w1 → Calls Try.prog 11 #[.slice ao n cap] w1 fun en w' => en = .returned (.tuple #[.slice none 0 0, .int .i64 e]) ∧ Below w1.heap.size w1 w') :
    Calls Try.prog 3 #[.slice ao n cap] w fun e w' => e = .returned (.bool true) ∧ Below w.heap.size w w' := by
  have H1 := Lib.hid h1
  have H2 := Lib.hid h2
  have H3 := fun w' => ints_yes none none 0 0 0 [] w' rfl (by unfold maxLen; omega) (.inl rfl) (.inl rfl)
  have H3 := Lib.hid H3
  clear h1 h2
  go_enter Try.func3, Try.ntmps3
  go_wp2_with fail
  refine H1.out.mono ?_
  rintro e1 w1 ⟨rfl, hb1⟩
  have HB1 := Lib.hid hb1
  have hs1 := hb1.size
  clear hb1
  go_wp2_with fail
  refine (H2.out _ HB1.out).mono ?_
  rintro e2 w2 ⟨rfl, hb2⟩
  have HB2 := Lib.hid hb2
  clear hb2
  go_wp2_with (go_at_call 12; refine (H3.out _).mono ?_; rintro e3 w3 ⟨rfl, hd3⟩)
  go_ret
  exact ⟨rfl, HB1.out.trans ((HB2.out.mono hs1).trans (hd3.below _))⟩

set_option maxHeartbeats 400000 in
theorem backs_list (ao : Option Addr) (n cap m : Nat) (ys : List Int) (w : World) (hm : ys.length = m) (hm8 : m ≤ 256)
    (h1 : Calls Try.prog 10 #[.slice ao n cap] w fun en w' => ∃ a c, en = .returned (.tuple #[.slice a m c, .int .i64 0]) ∧ RowOf 3 w' w.heap.size a m c (ints ys) ∧ Below w.heap.size w w')
    (h2 : ∀ w1, Below w.heap.size w w1 → Calls Try.prog 11 #[.slice ao n cap] w1 fun en w' => ∃ a c, en = .returned (.tuple #[.slice a m c, .int .i64 0]) ∧ RowOf 3 w' w1.heap.size a m c (ints ys) ∧ Below w1.heap.size w1 w') :
    Calls Try.prog 3 #[.slice ao n cap] w fun e w' => e = .returned (.bool true) ∧ Below w.heap.size w w' := by
  have H1 := Lib.hid h1
  have H2 := Lib.hid h2
  have HM := Lib.hid hm
  clear h1 h2 hm
  go_enter Try.func3, Try.ntmps3
  go_wp2_with fail
  refine H1.out.mono ?_
  rintro e1 w1 ⟨a1, c1, rfl, hr1, hb1⟩
  have HB1 := Lib.hid hb1
  have HR1 := Lib.hid hr1
  have hs1 := hb1.size
  clear hb1 hr1
  go_wp2_with fail
  refine (H2.out _ HB1.out).mono ?_
  rintro e2 w2 ⟨a2, c2, rfl, hr2, hb2⟩
  have HB2 := Lib.hid hb2
  have H3 := Lib.hid (ints_yes a1 a2 m c1 c2 ys w2 HM.out (by unfold maxLen; omega) (RowOf.reads (RowOf.below HR1.out hb2 (Nat.le_refl _))) (RowOf.reads hr2))
  clear hb2 hr2
  go_wp2_with (go_at_call 12; refine H3.out.mono ?_; rintro e3 w3 ⟨rfl, hd3⟩)
  go_ret
  exact ⟨rfl, HB1.out.trans ((HB2.out.mono hs1).trans (hd3.below _))⟩

theorem reads_cells {w : World} {ao : Option Addr} {xs : List Int} (h : Reads w ao (ints xs)) (h0 : 0 < xs.length) :
    ∃ b off, ao = some ⟨b, off, none⟩ ∧ b < w.heap.size ∧ ∀ j u, (ints xs)[j]? = some u → w.cell? ⟨b, off + j, none⟩ = some u := by
  rcases h with h | h
  · have := congrArg List.length h; rw [ints_length] at this; simp at this; subst this; simp at h0
  · exact h

theorem range_bound {xs : List Int} {n : Nat} (hn : n ≤ 256) (h : xs.any (outP n) = false) (i : Nat) : -256 ≤ nth xs i ∧ nth xs i ≤ 256 := by
  by_cases hi : i < xs.length
  · rw [List.any_eq_false] at h
    have := outP_false (by simpa using h _ (nth_mem xs i hi))
    omega
  · unfold nth; simp [List.getElem?_eq_none (show xs.length ≤ i by omega)]

theorem booleBacks_any (ao : Option Addr) (n cap : Nat) (xs : List Int) (w : World) (hr : Reads w ao (ints xs)) (hl : xs.length = n) :
    Calls Try.prog 3 #[.slice ao n cap] w fun e w' => e = .returned (.bool true) ∧ Below w.heap.size w w' := by
  by_cases hk : ∃ k, k ≤ 8 ∧ n = 2 ^ k
  · obtain ⟨k, hk, hn⟩ := hk
    have hn8 : n ≤ 256 := by rw [hn]; exact pow8 hk
    have hn0 : 0 < n := by rw [hn]; exact two_pow_pos k
    obtain ⟨b, off, rfl, hlt, hc⟩ := reads_cells hr (by omega)
    have hc' : ∀ w1, Below w.heap.size w w1 → ∀ j u, (ints xs)[j]? = some u → w1.cell? ⟨b, off + j, none⟩ = some u := fun w1 hb j u hu => by
      rw [hb.cell (p := ⟨b, off + j, none⟩) hlt]; exact hc j u hu
    by_cases ho : xs.any (outP n) = true
    · have h1 := back_rng b off n cap k xs w hk hn hl hlt hc ho
      have h2 := fun w1 (hb : Below w.heap.size w w1) => backOf_rng b off n cap k xs w1 hk hn hl (by have := hb.size; omega) (hc' w1 hb) ho
      exact backs_nil _ n cap 1 w h1 h2
    · have ho' : xs.any (outP n) = false := by simpa using ho
      have hb := range_bound hn8 ho'
      have h1 := back_in b off n cap k xs w hk hn hl hlt hc ho' hb
      have h2 := fun w1 (hb1 : Below w.heap.size w w1) => backOf_in b off n cap k xs w1 hk hn hl (by have := hb1.size; omega) (hc' w1 hb1) ho' hb
      by_cases hall : ∀ j, j < n → mix sg (nth xs) k j = n ∨ mix sg (nth xs) k j = -n
      · have hlaw := back_law_yes xs k hk (by rw [hl, hn]) (by rw [← hn]; exact hall)
        rw [← hn] at hlaw
        refine backs_list _ n cap n (bkTab xs n) w (tab_length _ _) hn8 (h1.mono fun e w' hp => ?_) (fun w1 hb1 => (h2 w1 hb1).mono fun e w' hp => ?_)
        · obtain ⟨hbl, ⟨_, a, c, he, hr⟩ | ⟨⟨j, hj, h3, h4⟩, _⟩⟩ := hp
          · rw [hlaw.1] at hr
            exact ⟨a, c, he, hr, hbl⟩
          · exfalso; rcases hall j hj with h | h; exact h3 h; exact h4 h
        · obtain ⟨hbl, ⟨_, a, c, he, hr⟩ | ⟨hne, _⟩⟩ := hp
          · exact ⟨a, c, he, hr, hbl⟩
          · exact absurd hlaw.2 hne
      · have hex : ∃ j, j < n ∧ mix sg (nth xs) k j ≠ n ∧ mix sg (nth xs) k j ≠ -n := by
          apply Classical.byContradiction
          intro hne
          apply hall
          intro j hj
          apply Classical.byContradiction
          intro h
          exact hne ⟨j, hj, fun h3 => h (.inl h3), fun h4 => h (.inr h4)⟩
        have hlaw := back_law_no xs k hk (by rw [← hn]; exact hex)
        rw [← hn] at hlaw
        refine backs_nil _ n cap 4 w (h1.mono fun e w' hp => ?_) (fun w1 hb1 => (h2 w1 hb1).mono fun e w' hp => ?_)
        · obtain ⟨hbl, ⟨h, _⟩ | ⟨_, he⟩⟩ := hp
          · exact absurd h hall
          · exact ⟨he, hbl⟩
        · obtain ⟨hbl, ⟨h, _⟩ | ⟨_, he⟩⟩ := hp
          · exact absurd h hlaw
          · exact ⟨he, hbl⟩
  · have hl' : ∀ k, k ≤ 8 → n ≠ 2 ^ k := fun k h1 h2 => hk ⟨k, h1, h2⟩
    exact backs_nil ao n cap 2 w (back_len ao cap n w hl') (fun w1 _ => backOf_len ao cap n w1 hl')

theorem booleBacks_arg (ao : Option Addr) (n cap : Nat) (xs : List Int) {w : World} (hx : IntsArg w ao n cap xs) :
    Calls Try.prog 3 #[.slice ao n cap] w fun e w' => e = .returned (.bool true) ∧ Below w.heap.size w w' :=
  booleBacks_any ao n cap xs w hx.reads hx.len

end Go.Proofs.Ytbbjjfgainbmdaa
