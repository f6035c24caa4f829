/- What boole.Far, Bent and parterrelaw3.booleFact answer. Conditions: as each theorem says. -/
import Derived.Test.YtbbjjfgainbmdaaGreatest
import Derived.Test.YtbbjjfgainbmdaaClone
namespace Go.Proofs.Ytbbjjfgainbmdaa
open Go.RowKit

theorem spec_bound (xs : List Int) (k a : Nat) (h01 : ∀ i, nth xs i = 0 ∨ nth xs i = 1) : -((2 ^ k : Nat) : Int) ≤ spec xs k a ∧ spec xs k a ≤ ((2 ^ k : Nat) : Int) := by
  have key : ∀ n : Nat, -(n : Int) ≤ sumN (fun x => kern sg k a x * (1 - 2 * nth xs x)) n ∧ sumN (fun x => kern sg k a x * (1 - 2 * nth xs x)) n ≤ n := by
    intro n
    induction n with
    | zero => simp [sumN]
    | succ n ih =>
      rw [sumN]
      have hk : kern sg k a n = 1 ∨ kern sg k a n = -1 := by
        have := kern_sq k a n
        rcases Int.lt_or_le (kern sg k a n) 0 with h | h
        · right
          rcases (show kern sg k a n = -1 ∨ kern sg k a n ≤ -2 by omega) with h1 | h1
          · exact h1
          · have := Int.mul_le_mul_of_nonpos_right h1 (show kern sg k a n ≤ 0 by omega); omega
        · left
          rcases (show kern sg k a n = 0 ∨ kern sg k a n = 1 ∨ 2 ≤ kern sg k a n by omega) with h1 | h1 | h1
          · rw [h1] at this; simp at this
          · exact h1
          · have := Int.mul_le_mul_of_nonneg_right h1 (show 0 ≤ kern sg k a n by omega); omega
      rcases h01 n with h | h <;> rcases hk with hk | hk <;> rw [h, hk] <;> omega
  have := key (2 ^ k)
  exact this

theorem specL_bound (xs : List Int) (k n : Nat) (hn : n = 2 ^ k) (h01 : ∀ i, nth xs i = 0 ∨ nth xs i = 1) (i : Nat) : -(n : Int) ≤ nth (tab (spec xs k) n) i ∧ nth (tab (spec xs k) n) i ≤ n := by
  rw [hn]
  exact nth_tab_bound _ _ _ (by omega) (fun i => spec_bound xs k i h01) i

/-- How far. -/
def farV (xs : List Int) (k n : Nat) : Int := ((n : Int) - mostTo (tab (spec xs k) n) n) / 2

set_option maxHeartbeats 400000 in
theorem far_yes (b off n cap k : Nat) (xs : List Int) (w : World) (hn : xs.length = n) (ht : IsTable xs k) (hlt : b < w.heap.size) (hc : ∀ j u, (ints xs)[j]? = some u → w.cell? ⟨b, off + j, none⟩ = some u) :
    Calls Try.prog 15 #[.slice (some ⟨b, off, none⟩) n cap] w fun e w' => e = .returned (.tuple #[.int .i64 (farV xs k n), .int .i64 0]) ∧ Below w.heap.size w w' := by
  have hb := ht.big
  have hpos : 0 < n := by rw [← hn, ht.len]; exact two_pow_pos k
  have hn8 : n ≤ 256 := by omega
  have hnk : n = 2 ^ k := by rw [← hn]; exact ht.len
  have H1 := Lib.hid (spectrum_yes b off n cap k xs w hn ht hlt hc)
  have HSB := Lib.hid (specL_bound xs k n hnk ht.nth01)
  have HV : Hid (farV xs k n = ((n : Int) - mostTo (tab (spec xs k) n) n) / 2) := rfl
  have hmb := mostTo_bound (tab (spec xs k) n) n (by omega) HSB.out n
  obtain ⟨hmb1, hmb2⟩ := hmb
  clear hn ht hc hb hnk
  go_enter Try.func15, Try.ntmps15
  go_wp2_with fail
  refine H1.out.mono ?_
  rintro e1 w1 ⟨g, cp, rfl, hr1, hb1⟩
  obtain ⟨hg0, hg1, hcell, _⟩ := RowOf.known hr1
  have H2 := Lib.hid (greatest_any g 0 n cp (tab (spec xs k) n) w1 (tab_length _ _) hpos hn8 (fun i => by have := HSB.out i; omega) hg1 (fun j u hu => by rw [Nat.zero_add]; exact hcell j u hu))
  have HB1 := Lib.hid hb1
  clear hr1 hb1 hcell
  generalize mostTo (tab (spec xs k) n) n = m at *
  generalize leastTo (tab (spec xs k) n) n = l at *
  go_wp2_with (go_at_call 35; refine H2.out.mono ?_; rintro e2 w2 ⟨rfl, hd2⟩)
  go_ret2
  exact ⟨by rw [HV.out]; rfl, HB1.out.trans (hd2.below _)⟩

theorem fact_spec : tab (spec [0, 0, 0, 1] 2) 4 = [2, 2, 2, -2] := by decide
theorem fact_table : IsTable [0, 0, 0, 1] 2 := ⟨by decide, rfl, by decide⟩

set_option maxHeartbeats 1000000 in
theorem booleFact_any (w : World) :
    Calls Try.prog 13 #[] w fun e w' => e = .returned (.bool true) ∧ Below w.heap.size w w' := by
  have H1 := Lib.hid (spectrum_yes w.heap.size 0 4 4 2 [0, 0, 0, 1] (w.alloc (.cells #[.int .i64 0, .int .i64 0, .int .i64 0, .int .i64 1] 3)) rfl fact_table (by simp) (fun j u hu => by
    rw [Nat.zero_add, World.cell?_alloc_at _ _ _ _ rfl]; simpa [ints] using hu))
  rw [fact_spec] at H1
  go_enter Try.func13, Try.ntmps13
  go_wp2_with fail
  refine H1.out.mono ?_
  rintro e1 w1 ⟨g, cp, rfl, hr1, hb1⟩
  have HB1 := Lib.hid hb1
  have hs1 := hb1.size
  have HR1 := Lib.hid hr1
  clear hr1 hb1
  have H2 : Hid (∀ v, Calls Try.prog 12 #[.slice (some ⟨g, 0, none⟩) 4 cp, .slice (some ⟨w1.heap.size, 0, none⟩) 4 4] (w1.alloc (.cells #[.int .i64 2, .int .i64 2, .int .i64 2, .int .i64 (-2)] v)) fun e w' => e = .returned (.bool true) ∧ Drawn (w1.alloc (.cells #[.int .i64 2, .int .i64 2, .int .i64 2, .int .i64 (-2)] v)) w') := fun v =>
    ints_yes _ _ 4 cp 4 [2, 2, 2, -2] _ rfl (by unfold maxLen; omega) (RowOf.reads (World.ownsRow.alloc HR1.out _))
      (.inr ⟨w1.heap.size, 0, rfl, by simp, fun j u hu => by rw [Nat.zero_add, World.cell?_alloc_at _ _ _ _ rfl]; simpa [ints] using hu⟩)
  go_wp2_with (go_at_call 12; refine (H2.out _).mono ?_; rintro e2 w2 ⟨rfl, hd2⟩)
  go_ret
  exact ⟨rfl, ((Below.refl _ _).alloc (Nat.le_refl _) _).trans ((HB1.out.mono (by simp)).trans (((Below.refl _ _).alloc (by simp at hs1; omega) _).trans (hd2.below _)))⟩

end Go.Proofs.Ytbbjjfgainbmdaa
