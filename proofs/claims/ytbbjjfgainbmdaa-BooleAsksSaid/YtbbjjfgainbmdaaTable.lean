/- What boole.Check and parterreref3.TableFault answer: is a list a table of zeros and ones of 2 to the power of k numbers? Conditions: as each theorem says. -/
import Derived.Test.YtbbjjfgainbmdaaSlicesFunc
import Derived.Test.YtbbjjfgainbmdaaWeight
namespace Go.Proofs.Ytbbjjfgainbmdaa
open Go.RowKit

/-- Neither 0 nor 1. -/
def notBit (x : Int) : Bool := x != 0 && x != 1

theorem notBit_false {x : Int} (h : x = 0 ∨ x = 1) : notBit x = false := by rcases h with rfl | rfl <;> rfl
theorem notBit_true {x : Int} (h0 : x ≠ 0) (h1 : x ≠ 1) : notBit x = true := by
  unfold notBit; rw [Bool.and_eq_true, bne_iff_ne, bne_iff_ne]; exact ⟨h0, h1⟩

theorem enter_check1 : ∀ args w, (callFunc 38 args).run Try.prog w = .ok (.enter 38 args) w := fun _ _ => rfl

set_option maxHeartbeats 400000 in
theorem check1_any (x : Int) (w : World) : Calls Try.prog 38 #[.int .i64 x] w fun e w' => e = .returned (.bool (notBit x)) ∧ w = w' := by
  by_cases h0 : x = 0
  · subst h0
    go_enter Try.func38, Try.ntmps38
    go_wp2
    go_ret
    exact ⟨rfl, rfl⟩
  · have b0 : (x != 0) = true := by rw [bne_iff_ne]; exact h0
    by_cases h1 : x = 1
    · subst h1
      go_enter Try.func38, Try.ntmps38
      go_wp2
      go_ret
      exact ⟨rfl, rfl⟩
    · have b1 : (x != 1) = true := by rw [bne_iff_ne]; exact h1
      have H := Lib.hid (notBit_true h0 h1)
      clear h0 h1
      go_enter Try.func38, Try.ntmps38
      go_wp2
      go_ret
      exact ⟨by rw [H.out]; rfl, rfl⟩

theorem predOn_check1 (xs : List Int) (w : World) : PredOn 38 #[] xs notBit w := by
  intro x _ w' _
  exact (check1_any x w').mono fun e w'' ⟨he, hw⟩ => ⟨he, hw ▸ Drawn.refl _⟩

/-- A table of k bits. -/
structure IsTable (xs : List Int) (k : Nat) : Prop where
  k8 : k ≤ 8
  len : xs.length = 2 ^ k
  bit : ∀ x ∈ xs, x = 0 ∨ x = 1

theorem IsTable.any {xs : List Int} {k : Nat} (h : IsTable xs k) : xs.any notBit = false := by
  rw [List.any_eq_false]
  intro x hx
  rw [notBit_false (h.bit x hx)]
  simp

theorem IsTable.big {xs : List Int} {k : Nat} (h : IsTable xs k) : xs.length ≤ 256 := by
  rw [h.len]; exact Nat.pow_le_pow_right (n := 2) (by omega) h.k8

theorem pow8 {k : Nat} (h : k ≤ 8) : 2 ^ k ≤ 256 := Nat.pow_le_pow_right (n := 2) (by omega) h

set_option maxHeartbeats 400000 in
theorem check_yes (ao : Option Addr) (cap : Nat) (xs : List Int) (n k : Nat) (w : World) (hn : xs.length = n) (ht : IsTable xs k) (hr : Reads w ao (ints xs)) :
    Calls Try.prog 18 #[.slice ao n cap] w fun e w' => e = .returned (.tuple #[.int .i64 k, .int .i64 0]) ∧ Drawn w w' := by
  have hb := ht.big
  have H1 := Lib.hid (size_yes k n ao cap w ht.k8 (hn ▸ ht.len))
  have h2 := containsFunc_any 38 #[] ao n cap xs notBit w hn (by unfold maxLen; omega) hr (predOn_check1 xs w) enter_check1
  rw [ht.any] at h2
  have H2 := Lib.hid h2
  clear h2 hn ht hr hb
  go_enter Try.func18, Try.ntmps18
  go_wp2_with (first
    | (go_at_call 29; refine H1.out.mono ?_; rintro e w' ⟨rfl, rfl⟩)
    | (go_at_call 30; refine H2.out.mono ?_; rintro e w' ⟨rfl, hd⟩))
  go_ret2
  exact ⟨rfl, hd⟩

set_option maxHeartbeats 400000 in
theorem check_bit (ao : Option Addr) (cap : Nat) (xs : List Int) (n k : Nat) (w : World) (hn : xs.length = n) (hk : k ≤ 8) (hl : n = 2 ^ k) (hx : xs.any notBit = true) (hr : Reads w ao (ints xs)) :
    Calls Try.prog 18 #[.slice ao n cap] w fun e w' => e = .returned (.tuple #[.int .i64 0, .int .i64 1]) ∧ Drawn w w' := by
  have hb : n ≤ 256 := by rw [hl]; exact pow8 hk
  have H1 := Lib.hid (size_yes k n ao cap w hk hl)
  have h2 := containsFunc_any 38 #[] ao n cap xs notBit w hn (by unfold maxLen; omega) hr (predOn_check1 xs w) enter_check1
  rw [hx] at h2
  have H2 := Lib.hid h2
  clear h2 hn hl hx hr hb
  go_enter Try.func18, Try.ntmps18
  go_wp2_with (first
    | (go_at_call 29; refine H1.out.mono ?_; rintro e w' ⟨rfl, rfl⟩)
    | (go_at_call 30; refine H2.out.mono ?_; rintro e w' ⟨rfl, hd⟩))
  go_ret2
  exact ⟨rfl, hd⟩

set_option maxHeartbeats 400000 in
theorem check_len (ao : Option Addr) (cap n : Nat) (w : World) (hl : ∀ k, k ≤ 8 → n ≠ 2 ^ k) :
    Calls Try.prog 18 #[.slice ao n cap] w fun e w' => e = .returned (.tuple #[.int .i64 0, .int .i64 2]) ∧ Drawn w w' := by
  have H1 := Lib.hid (size_no n ao cap w hl)
  clear hl
  go_enter Try.func18, Try.ntmps18
  go_wp2_with (go_at_call 29; refine H1.out.mono ?_; rintro e w' ⟨rfl, rfl⟩)
  go_ret2
  exact ⟨rfl, Drawn.refl _⟩

set_option maxHeartbeats 400000 in
theorem tableFault_yes (ao : Option Addr) (cap : Nat) (xs : List Int) (n k : Nat) (w : World) (hn : xs.length = n) (ht : IsTable xs k) (hr : Reads w ao (ints xs)) :
    Calls Try.prog 17 #[.slice ao n cap] w fun e w' => e = .returned (.int .i64 0) ∧ Drawn w w' := by
  have hb : n ≤ 256 := hn ▸ ht.big
  have H1 := Lib.hid (bitsOf_yes k n w ht.k8 (hn ▸ ht.len))
  have HN := Lib.hid hn
  have HT := Lib.hid ht
  have HR := Lib.hid hr
  clear hn ht hr
  go_enter Try.func17, Try.ntmps17
  go_wp2_with (go_at_call 20; refine H1.out.mono ?_; rintro e w' ⟨rfl, rfl⟩)
  go_loopw [4] (fun i wr => ∃ j : Nat, j ≤ n ∧ i = .int .i64 j ∧ Drawn w wr) (fun i _ => n - (intOf i).toNat)
  case atStart => exact ⟨0, by omega, rfl, Drawn.refl _⟩
  case round =>
    obtain ⟨j, hj, rfl, hd⟩ := hrel
    by_cases hlt : j < n
    · obtain ⟨b, off, rfl, hbl, hc⟩ := Reads.int HR.out (by rw [HN.out]; omega)
      have hck : wr.cell? ⟨b, off + j, none⟩ = some (.int .i64 (nth xs j)) := by rw [hd.cell]; exact hc j (by rw [HN.out]; omega)
      have HD := Lib.hid hd
      have hbit := HT.out.bit _ (nth_mem xs j (by rw [HN.out]; omega))
      clear hc hd
      rcases hbit with hb0 | hb0
      all_goals
        rw [hb0] at hck
        clear hb0
        go_wp2_with fail
        try go_quiet (fail)
        go_wp2
        go_roundw
        case rel => exact ⟨j + 1, by omega, by go_num, by first | exact HD.out | exact HD.out.trans (Drawn.drewN _ _)⟩
        case measure => simp [intOf]; omega
    · go_wp2
      go_ret
      exact ⟨rfl, hd⟩

set_option maxHeartbeats 400000 in
theorem tableFault_bit (ao : Option Addr) (cap : Nat) (xs : List Int) (n k : Nat) (w : World) (hn : xs.length = n) (hk : k ≤ 8) (hl : n = 2 ^ k) (hx : xs.any notBit = true) (hr : Reads w ao (ints xs)) :
    Calls Try.prog 17 #[.slice ao n cap] w fun e w' => e = .returned (.int .i64 1) ∧ Drawn w w' := by
  have hb : n ≤ 256 := by rw [hl]; exact pow8 hk
  have H1 := Lib.hid (bitsOf_yes k n w hk hl)
  have HN := Lib.hid hn
  have HX := Lib.hid hx
  have HR := Lib.hid hr
  clear hn hl hx hr
  go_enter Try.func17, Try.ntmps17
  go_wp2_with (go_at_call 20; refine H1.out.mono ?_; rintro e w' ⟨rfl, rfl⟩)
  go_loopw [4] (fun i wr => ∃ j : Nat, j ≤ n ∧ i = .int .i64 j ∧ Drawn w wr ∧ ∀ i, i < j → notBit (nth xs i) = false) (fun i _ => n - (intOf i).toNat)
  case atStart => exact ⟨0, by omega, rfl, Drawn.refl _, fun i hi => by omega⟩
  case round =>
    obtain ⟨j, hj, rfl, hd, hall⟩ := hrel
    have HA := Lib.hid hall
    clear hall
    by_cases hlt : j < n
    · obtain ⟨b, off, rfl, hbl, hc⟩ := Reads.int HR.out (by rw [HN.out]; omega)
      have hck : wr.cell? ⟨b, off + j, none⟩ = some (.int .i64 (nth xs j)) := by rw [hd.cell]; exact hc j (by rw [HN.out]; omega)
      have HD := Lib.hid hd
      clear hc hd
      obtain ⟨x, hx⟩ : ∃ x, nth xs j = x := ⟨_, rfl⟩
      have HXJ := Lib.hid hx
      rw [hx] at hck
      clear hx
      by_cases hb0 : x = 0 ∨ x = 1
      · have HB0 := Lib.hid hb0
        rcases hb0 with rfl | rfl
        all_goals
          go_wp2_with fail
          try go_quiet (fail)
          go_wp2
          go_roundw
          case rel => exact ⟨j + 1, by omega, by go_num, by first | exact HD.out | exact HD.out.trans (Drawn.drewN _ _), fun i hi => by
            rcases Nat.lt_succ_iff_lt_or_eq.1 hi with h | rfl
            · exact HA.out i h
            · rw [HXJ.out]; exact notBit_false HB0.out⟩
          case measure => simp [intOf]; omega
      · have b0 : (x != 0) = true := by rw [bne_iff_ne]; omega
        have b1 : (x != 1) = true := by rw [bne_iff_ne]; omega
        clear hb0
        go_wp2_with fail
        try go_quiet (fail)
        go_wp2
        go_ret
        exact ⟨rfl, by first | exact HD.out | exact HD.out.trans (Drawn.drewN _ _)⟩
    · exfalso
      have hx := HX.out
      rw [List.any_eq_true] at hx
      obtain ⟨x, hm, hp⟩ := hx
      obtain ⟨i, hi, rfl⟩ := mem_nth xs x hm
      rw [HA.out i (by rw [HN.out] at hi; omega)] at hp
      cases hp

set_option maxHeartbeats 400000 in
theorem tableFault_len (ao : Option Addr) (cap n : Nat) (w : World) (hl : ∀ k, k ≤ 8 → n ≠ 2 ^ k) :
    Calls Try.prog 17 #[.slice ao n cap] w fun e w' => e = .returned (.int .i64 2) ∧ Drawn w w' := by
  have H1 := Lib.hid (bitsOf_no n w hl)
  clear hl
  go_enter Try.func17, Try.ntmps17
  go_wp2_with (go_at_call 20; refine H1.out.mono ?_; rintro e w' ⟨rfl, rfl⟩)
  go_ret
  exact ⟨rfl, Drawn.refl _⟩

end Go.Proofs.Ytbbjjfgainbmdaa
