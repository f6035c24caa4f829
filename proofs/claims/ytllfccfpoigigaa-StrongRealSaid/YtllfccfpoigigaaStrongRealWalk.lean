/- What StrongReal returns. -/
import Derived.Test.YtllfccfpoigigaaRealLaw
import Derived.Test.YtllfccfpoigigaaStrongFitsWalk
import Derived.Test.YtllfccfpoigigaaArgSquare
namespace Go.Proofs.Ytllfccfpoigigaa
open Go.RowKit

theorem mul_neg_of {k z : Int} (hk : 1 ≤ k) (hz : z ≤ -1) : k * z ≤ -1 := by
  have h := Int.mul_le_mul_of_nonneg_left hz (show 0 ≤ k by omega)
  omega

/-- The numbers' bounds. -/
theorem real_nums {xs : List Int} {n : Nat} (h : IsTab n xs) (hs : IsSym n xs) (hc : ¬ Clash xs n) (hk : 1 ≤ outOf xs n 2) :
    outOf xs n 2 + 1 ≤ n ∧ 0 ≤ outOf xs n 1 ∧ outOf xs n 1 < outOf xs n 2 ∧ 0 ≤ outOf xs n 0 ∧ outOf xs n 0 ≤ outOf xs n 2 ∧ (outOf xs n 2 + 1 = n → outOf xs n 0 = 0) := by
  have H := strongAre h hs hc
  have h1 := (other_numbers h hs hc).2.1
  have h2 := outOf_bounds (otherTab_tab h) 2
  have l0 := outOf_bounds h 1
  have m0 := outOf_bounds h 0
  have hkn : outOf xs n 2 + 1 ≤ n := by omega
  have hm : outOf xs n 0 ≤ outOf xs n 2 ∧ (outOf xs n 2 + 1 = n → outOf xs n 0 = 0) := by
    by_cases he : ∃ x, SeenO xs n n 0 x
    · obtain ⟨x, ⟨p, h1, h2, h3⟩ | ⟨p, q, h1, h2, h3, h4⟩⟩ := he
      · omega
      · have h5 := (numbers_of h hc).2 p h1 q h2
        rw [if_neg (by omega)] at h5
        refine ⟨?_, fun hf => ?_⟩
        · rw [← h5, ← H.deg p h1]
          exact com_le h h1 (by omega) n (Nat.le_refl _)
        · exfalso
          have h6 := H.deg p h1
          have h7 := (all_iff h hs h1).2 (by omega) q (by omega) (by omega)
          exact h7 h3.symm
    · have : outOf xs n 0 = 0 := by unfold outOf; rw [dif_neg he]
      rw [this]
      exact ⟨by omega, fun _ => rfl⟩
  refine ⟨hkn, l0.1, ?_, m0.1, hm.1, hm.2⟩
  have hcount := H.count
  have hr : 0 ≤ ((n : Int) - outOf xs n 2 - 1) * outOf xs n 0 := Int.mul_nonneg (by omega) m0.1
  rw [← hcount] at hr
  by_cases hlt : outOf xs n 1 < outOf xs n 2
  · exact hlt
  · have := mul_neg_of hk (show outOf xs n 2 - outOf xs n 1 - 1 ≤ -1 by omega)
    omega

theorem fits_real {xs : List Int} {n : Nat} (h : IsTab n xs) (hs : IsSym n xs) (hc : ¬ Clash xs n) (hk : 1 ≤ outOf xs n 2) (w : World) :
    Calls Try.prog 8 #[.agg #[.int .i64 n, .int .i64 (outOf xs n 2), .int .i64 (outOf xs n 1), .int .i64 (outOf xs n 0)]] w fun e w' => e = .returned (.tuple #[.bool true, .int .i64 0]) ∧ Ext w w' := by
  have H := strongAre h hs hc
  have h24 := h.big
  obtain ⟨b1, b2, b3, b4, b5, b6⟩ := real_nums h hs hc hk
  have hl := H.count
  have hn : FitNums n (outOf xs n 2) (outOf xs n 1) (outOf xs n 0) := ⟨by omega, by omega, hk, by omega, b2, by omega, b4, by omega⟩
  have hf := H.fits hk b1 b2 b3 b4 b5 b6
  obtain ⟨k, hk'⟩ : ∃ k, outOf xs n 2 = k := ⟨_, rfl⟩
  obtain ⟨l, hl'⟩ : ∃ k, outOf xs n 1 = k := ⟨_, rfl⟩
  obtain ⟨m, hm'⟩ : ∃ k, outOf xs n 0 = k := ⟨_, rfl⟩
  rw [hk', hl', hm'] at hf hn hl ⊢
  by_cases hz : 2 * k + ((n : Int) - 1) * (l - m) = 0 ∧ (n : Int) % 2 = 1
  · exact fits_zero n k l m w hn hl hz.1 hz.2
  · rcases hf with hf | ⟨r, y, r1, r2, r3, y1, y2, y3⟩
    · exact absurd hf hz
    · obtain ⟨q1, q2⟩ := tdiv_of_mul _ r y r1 r3
      by_cases hy : 0 ≤ y
      · exact fits_le n k l m _ _ r y y w hn hl rfl hz rfl r1 r2 q2 q1 hy (by omega) (.inl rfl) (by omega) y3
      · exact fits_le n k l m _ _ r y (-y) w hn hl rfl hz rfl r1 r2 q2 q1 (by omega) (by omega) (.inr ⟨by omega, by omega⟩) (by omega) (by omega)

set_option maxHeartbeats 4000000 in
theorem strongReal_skip (m : Int) (ao : Option Addr) (len cap : Nat) (a0 a1 a2 a3 c : Int) (w : World)
    (hn : ∀ w', Ext w w' → Calls Try.prog 13 #[.agg #[.int .i64 m, .slice ao len cap]] w' fun e w'' => e = .returned (.tuple #[.agg #[.int .i64 a0, .int .i64 a1, .int .i64 a2, .int .i64 a3], .int .i64 c]) ∧ Ext w' w'')
    (h0 : c ≠ 0 ∨ (c = 0 ∧ a1 < 1)) :
    Calls Try.prog 7 #[.agg #[.int .i64 m, .slice ao len cap]] w fun e w' => e = .returned (.bool true) ∧ Ext w w' := by
  have H4 := Lib.hid hn
  clear hn
  rcases h0 with h0 | ⟨rfl, h0⟩
  · have b1 : (c != 0) = true := by rw [bne_iff_ne]; exact h0
    clear h0
    go_enter Try.func7, Try.ntmps7
    go_wp2_with fail
    have E0 := Lib.hid ((Ext.refl w).alloc (.cells #[.int .i64 m, .slice ao len cap] 30))
    have X0 := Lib.hid (Blk.new w #[.int .i64 m, .slice ao len cap] 30)
    refine Calls.mono (strongFact_ok _) ?_
    rintro e w1 ⟨rfl, hx⟩
    have E1 := Lib.hid (E0.out.trans hx)
    have k1 := (X0.out.ext hx).two
    clear hx
    go_wp2_with fail
    refine Calls.mono (H4.out _ E1.out) ?_
    rintro e w2 ⟨rfl, hx⟩
    have E2 := Lib.hid ((E1.out.trans hx).alloc (.cells #[.int .i64 a0, .int .i64 a1, .int .i64 a2, .int .i64 a3] 23))
    clear hx k1
    go_wp2
    go_ret
    exact ⟨by simp, E2.out⟩
  · have b1 : decide (a1 < 1) = true := decide_eq_true h0
    go_enter Try.func7, Try.ntmps7
    go_wp2_with fail
    have E0 := Lib.hid ((Ext.refl w).alloc (.cells #[.int .i64 m, .slice ao len cap] 30))
    have X0 := Lib.hid (Blk.new w #[.int .i64 m, .slice ao len cap] 30)
    refine Calls.mono (strongFact_ok _) ?_
    rintro e w1 ⟨rfl, hx⟩
    have E1 := Lib.hid (E0.out.trans hx)
    have k1 := (X0.out.ext hx).two
    clear hx
    go_wp2_with fail
    refine Calls.mono (H4.out _ E1.out) ?_
    rintro e w2 ⟨rfl, hx⟩
    have E2 := Lib.hid ((E1.out.trans hx).alloc (.cells #[.int .i64 a0, .int .i64 a1, .int .i64 a2, .int .i64 a3] 23))
    have k2 := (Blk.new w2 #[.int .i64 a0, .int .i64 a1, .int .i64 a2, .int .i64 a3] 23).four
    clear hx k1
    go_wp2
    go_ret
    exact ⟨by simp, E2.out⟩

set_option maxHeartbeats 4000000 in
theorem strongReal_go (m : Int) (ao : Option Addr) (len cap : Nat) (a0 a1 a2 a3 : Int) (w : World)
    (hn : ∀ w', Ext w w' → Calls Try.prog 13 #[.agg #[.int .i64 m, .slice ao len cap]] w' fun e w'' => e = .returned (.tuple #[.agg #[.int .i64 a0, .int .i64 a1, .int .i64 a2, .int .i64 a3], .int .i64 0]) ∧ Ext w' w'')
    (h0 : 1 ≤ a1) (hf : ∀ w', Calls Try.prog 8 #[.agg #[.int .i64 a0, .int .i64 a1, .int .i64 a2, .int .i64 a3]] w' fun e w'' => e = .returned (.tuple #[.bool true, .int .i64 0]) ∧ Ext w' w'') :
    Calls Try.prog 7 #[.agg #[.int .i64 m, .slice ao len cap]] w fun e w' => e = .returned (.bool true) ∧ Ext w w' := by
  have H4 := Lib.hid hn
  have HF := Lib.hid hf
  have b1 : decide (a1 < 1) = false := decide_eq_false (by omega)
  clear hn hf
  go_enter Try.func7, Try.ntmps7
  go_wp2_with fail
  have E0 := Lib.hid ((Ext.refl w).alloc (.cells #[.int .i64 m, .slice ao len cap] 30))
  have X0 := Lib.hid (Blk.new w #[.int .i64 m, .slice ao len cap] 30)
  refine Calls.mono (strongFact_ok _) ?_
  rintro e w1 ⟨rfl, hx⟩
  have E1 := Lib.hid (E0.out.trans hx)
  have k1 := (X0.out.ext hx).two
  clear hx
  go_wp2_with fail
  refine Calls.mono (H4.out _ E1.out) ?_
  rintro e w2 ⟨rfl, hx⟩
  have E2 := Lib.hid ((E1.out.trans hx).alloc (.cells #[.int .i64 a0, .int .i64 a1, .int .i64 a2, .int .i64 a3] 23))
  have k2 := (Blk.new w2 #[.int .i64 a0, .int .i64 a1, .int .i64 a2, .int .i64 a3] 23).four
  clear hx k1
  go_wp2_with fail
  refine Calls.mono (HF.out _) ?_
  rintro e w3 ⟨rfl, hx⟩
  have E3 := Lib.hid (E2.out.trans hx)
  clear hx
  go_wp2
  go_ret
  exact ⟨by simp, E3.out⟩

theorem strongReal_any (m : Int) (ao : Option Addr) (n cap : Nat) (xs : List Int) {w : World} (hx : IntsArg w ao n cap xs) (_ : -9223372036854775808 ≤ m) (_ : m ≤ 9223372036854775807) :
    Calls Try.prog 7 #[.agg #[.int .i64 m, .slice ao n cap]] w fun e w' => e = .returned (.bool true) ∧ Below w.heap.size w w' := by
  by_cases h : graphFaultOf m xs = 0
  · obtain ⟨k, rfl, hm, ho⟩ := graphFaultOf_zero h
    by_cases hc : Clash xs k
    · exact strongReal_skip k ao n cap 0 0 0 0 4 w (fun w' hx' => (numbers_ok k ao n cap xs w' hx.len (hx'.reads hx.reads) hm ho).mono fun e w'' h' => ⟨h'.1 hc, h'.2.2⟩) (.inl (by decide))
    · by_cases hk : 1 ≤ outOf xs k 2
      · exact strongReal_go k ao n cap _ _ _ _ w (fun w' hx' => (numbers_ok k ao n cap xs w' hx.len (hx'.reads hx.reads) hm ho).mono fun e w'' h' => ⟨h'.2.1 hc, h'.2.2⟩) hk (fun w' => fits_real hm ho hc hk w')
      · exact strongReal_skip k ao n cap _ _ _ _ 0 w (fun w' hx' => (numbers_ok k ao n cap xs w' hx.len (hx'.reads hx.reads) hm ho).mono fun e w'' h' => ⟨h'.2.1 hc, h'.2.2⟩) (.inr ⟨rfl, by omega⟩)
  · exact strongReal_skip m ao n cap 0 0 0 0 _ w (fun w' hx' => numbers_bad m ao n cap xs _ w' hx.len (hx'.reads hx.reads) rfl h) (.inl h)

end Go.Proofs.Ytllfccfpoigigaa
