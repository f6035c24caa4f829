/- StrongFits returns true at every four numbers: the walk, out of the contracts of both functions, and the cases. No conditions. -/
import Derived.Test.YtllfccfpoigigaaFitsRoot
namespace Go.Proofs.Ytllfccfpoigigaa
open Go.RowKit

set_option maxHeartbeats 400000 in
theorem strongFits_of (v k l m e : Int) (b : Bool) (w : World)
    (h1 : ∀ w, Calls Try.prog 8 #[strongV v k l m] w fun en w' => en = .returned (.tuple #[.bool b, .int .i64 e]) ∧ Below w.heap.size w w')
    (h2 : ∀ w, Calls Try.prog 9 #[strongV v k l m] w fun en w' => en = .returned (.tuple #[.bool b, .int .i64 e]) ∧ Below w.heap.size w w') :
    Calls Try.prog 3 #[strongV v k l m] w fun e w' => e = .returned (.bool true) ∧ Below w.heap.size w w' := by
  have H1 := Lib.hid h1
  have H2 := Lib.hid h2
  clear h1 h2
  go_enter Try.func3, Try.ntmps3
  go_wp2_with fail
  refine (H1.out _).mono ?_
  rintro e1 w1 ⟨rfl, hb1⟩
  have c0 := hb1.cell (p := ⟨w.heap.size, 0, none⟩) (by simp)
  have c1 := hb1.cell (p := ⟨w.heap.size, 1, none⟩) (by simp)
  have c2 := hb1.cell (p := ⟨w.heap.size, 2, none⟩) (by simp)
  have c3 := hb1.cell (p := ⟨w.heap.size, 3, none⟩) (by simp)
  rw [World.cell?_alloc_at _ _ _ _ rfl] at c0 c1 c2 c3
  simp at c0 c1 c2 c3
  have HB := Lib.hid hb1
  have hsz := hb1.size
  clear hb1
  go_wp2_with (go_at_call 9; refine (H2.out _).mono ?_; rintro e2 w2 ⟨rfl, hb2⟩)
  go_ret
  exact ⟨rfl, ((Below.refl _ _).alloc (Nat.le_refl _) _).trans ((HB.out.mono (by simp)).trans (hb2.mono (by simp at hsz; omega)))⟩

theorem tdiv_of_mul (x r y : Int) (hr : 1 ≤ r) (h : y * r = x) : x.tdiv r = y ∧ x.tmod r = 0 := by
  subst h
  exact ⟨Int.mul_tdiv_cancel y (by omega), Int.mul_tmod_left y r⟩

theorem tdiv_size (x r : Int) (_hr : 1 ≤ r) (h1 : -3000000 ≤ x) (h2 : x ≤ 3000000) : (x.tdiv r).natAbs ≤ 3000000 := by
  rw [Int.natAbs_tdiv]
  exact Nat.le_trans (Nat.div_le_self _ _) (by omega)

theorem strongFits_any (v k l m : Int) (w : World) :
    Calls Try.prog 3 #[strongV v k l m] w fun e w' => e = .returned (.bool true) ∧ Below w.heap.size w w' := by
  by_cases hbad : v < 2 ∨ 1000 < v ∨ k < 1 ∨ v ≤ k ∨ l < 0 ∨ v < l ∨ m < 0 ∨ v < m
  · exact strongFits_of v k l m _ _ w (fun w => fits_bad v k l m w hbad) (fun w => fitsOf_bad v k l m w hbad)
  · have hn : FitNums v k l m := ⟨by omega, by omega, by omega, by omega, by omega, by omega, by omega, by omega⟩
    by_cases hc : k * (k - l - 1) = (v - k - 1) * m
    · obtain ⟨x, hx⟩ : ∃ x, 2 * k + (v - 1) * (l - m) = x := ⟨_, rfl⟩
      obtain ⟨d, hd⟩ : ∃ d, (l - m) * (l - m) + 4 * (k - m) = d := ⟨_, rfl⟩
      by_cases hz : x = 0 ∧ v % 2 = 1
      · exact strongFits_of v k l m _ _ w (fun w => fits_zero v k l m w hn hc (hx.trans hz.1) hz.2) (fun w => fitsOf_zero v k l m w hn hc (hx.trans hz.1) hz.2)
      · by_cases hr : ∃ r : Int, 1 ≤ r ∧ r * r = d
        · obtain ⟨r, r1, hr⟩ := hr
          by_cases hm : x.tmod r = 0
          · have hxr : x.tdiv r * r = x := by have := Int.tdiv_mul_add_tmod x r; rw [hm] at this; omega
            obtain ⟨n, hq⟩ : ∃ n, x.tdiv r = n := ⟨_, rfl⟩
            rw [hq] at hxr
            have A3 := mul_bound (v - 1) (l - m) 1000 1000 (by have := hn.v1; omega) (by have := hn.v2; omega) (by have := hn.l1; have := hn.m2; have := hn.v2; omega) (by have := hn.l2; have := hn.m1; have := hn.v2; omega)
            have hsz := tdiv_size x r r1 (by have := hn.k1; omega) (by have := hn.k2; have := hn.v2; omega)
            rw [hq] at hsz
            obtain ⟨s, hs⟩ : ∃ s : Int, s = n.natAbs := ⟨_, rfl⟩
            have s0 : 0 ≤ s := by omega
            have s1 : s ≤ 3000 * 1000 := by omega
            have hsn : n = s ∨ (n = -s ∧ 0 < s) := by omega
            have huse : ∀ f : Int, (v - 1 - 2 * f) * r = x → v - 1 - 2 * f = n := fun f hf => by rw [← hq]; exact ((tdiv_of_mul x r _ r1 hf).1).symm
            by_cases hp : s % 2 = (v - 1) % 2
            · by_cases hl : s ≤ v - 1
              · refine strongFits_of v k l m _ _ w (fun w => fits_le v k l m x d r n s w hn hc hx hz hd r1 hr hm hq s0 s1 hsn hp hl)
                  (fun w => fitsOf_yes v k l m x d r ((v - 1 - n) / 2) w hn hc hx hz hd r1 hr (by omega) (by have := hn.v1; omega) ?_)
                rw [show v - 1 - 2 * ((v - 1 - n) / 2) = n by omega]
                exact hxr
              · refine strongFits_of v k l m _ _ w (fun w => fits_gt v k l m x d r n s w hn hc hx hz hd r1 hr hm hq s0 s1 hsn hp (by omega))
                  (fun w => fitsOf_no v k l m x d r w hn hc hx hz hd r1 hr (fun f h1 h2 h3 => ?_))
                have := huse f h3
                omega
            · refine strongFits_of v k l m _ _ w (fun w => fits_par v k l m x d r n s w hn hc hx hz hd r1 hr hm hq s0 s1 hsn hp)
                (fun w => fitsOf_no v k l m x d r w hn hc hx hz hd r1 hr (fun f h1 h2 h3 => ?_))
              have := huse f h3
              omega
          · exact strongFits_of v k l m _ _ w (fun w => fits_ndiv v k l m x d r w hn hc hx hz hd r1 hr hm)
              (fun w => fitsOf_no v k l m x d r w hn hc hx hz hd r1 hr (fun f _ _ h3 => hm (tdiv_of_mul x r _ r1 h3).2))
        · have hr' : ∀ s : Int, 1 ≤ s → s * s ≠ d := fun s h1 h2 => hr ⟨s, h1, h2⟩
          exact strongFits_of v k l m _ _ w (fun w => fits_noroot v k l m x d w hn hc hx hz hd hr') (fun w => fitsOf_noroot v k l m x d w hn hc hx hz hd hr')
    · exact strongFits_of v k l m _ _ w (fun w => fits_cnt v k l m w hn hc) (fun w => fitsOf_cnt v k l m w hn hc)

end Go.Proofs.Ytllfccfpoigigaa
