/- What StrongOther returns. -/
import Derived.Test.YtllfccfpoigigaaOtherLaw
import Derived.Test.YtllfccfpoigigaaSquares
import Derived.Test.YtllfccfpoigigaaArgSquare
namespace Go.Proofs.Ytllfccfpoigigaa
open Go.RowKit

set_option maxHeartbeats 4000000 in
set_option maxRecDepth 100000 in
theorem strongOther_bad (m : Int) (ao : Option Addr) (len cap : Nat) (xs : List Int) (w : World) (hl : xs.length = len) (hr : Reads w ao (ints xs)) (h0 : graphFaultOf m xs ≠ 0) :
    Calls Try.prog 4 #[.agg #[.int .i64 m, .slice ao len cap]] w fun e w' => e = .returned (.bool true) ∧ Ext w w' := by
  obtain ⟨c, hc⟩ : ∃ c, graphFaultOf m xs = c := ⟨_, rfl⟩
  rw [hc] at h0
  have H4 : Hid (∀ w', Ext w w' → Calls Try.prog 11 #[.agg #[.int .i64 m, .slice ao len cap]] w' fun e w'' => e = .returned (.tuple #[.agg #[.int .i64 0, .slice none 0 0], .int .i64 c]) ∧ Ext w' w'') := fun w' hx => other_bad m ao len cap xs c w' hl (hx.reads hr) hc h0
  have b1 : (c != 0) = true := by rw [bne_iff_ne]; exact h0
  clear hl hr hc h0
  go_enter Try.func4, Try.ntmps4
  go_wp2_with fail
  have E0 := Lib.hid ((Ext.refl w).alloc (.cells #[.int .i64 m, .slice ao len cap] 30))
  have X0 := Lib.hid (Blk.new w #[.int .i64 m, .slice ao len cap] 30)
  refine Calls.mono (strongFact_ok _) ?_
  rintro e w1 ⟨rfl, hx⟩
  have E1 := Lib.hid (E0.out.trans hx)
  have k1 := (X0.out.ext hx).two
  clear hx
  go_wp2_with fail
  refine Calls.mono (H4.out _ E1.out) ?_
  rintro e w2 ⟨rfl, hx⟩
  have E2 := Lib.hid ((E1.out.trans hx).alloc (.cells #[.int .i64 0, .slice none 0 0] 30))
  clear hx k1
  go_wp2
  go_ret
  exact ⟨by simp, E2.out⟩

/-- What is known of the numbers of both: no clash. -/
structure BothAre (n : Nat) (d l m l' m' : Int) : Prop where
  d0 : 0 ≤ d
  d1 : d ≤ 24
  l0 : 0 ≤ l
  l1 : l ≤ 24
  m0 : 0 ≤ m
  m1 : m ≤ 24
  near : (n : Int) - 1 - d ≠ 0 → l' = (n : Int) - 2 - 2 * d + m
  far : d ≠ 0 → m' = (n : Int) - 2 * d + l

set_option maxHeartbeats 8000000 in
set_option maxRecDepth 100000 in
theorem strongOther_ok (n : Nat) (ao : Option Addr) (len cap : Nat) (xs : List Int) (w : World) (hl : xs.length = len) (hr : Reads w ao (ints xs)) (hm : IsTab n xs) (hs : IsSym n xs) :
    Calls Try.prog 4 #[.agg #[.int .i64 n, .slice ao len cap]] w fun e w' => e = .returned (.bool true) ∧ Ext w w' := by
  have h24 := hm.big
  obtain ⟨N, hN⟩ : ∃ N, N = n * n := ⟨_, rfl⟩
  have hlN : len = N := by rw [← hl, hN]; exact hm.len
  have hq := sq_bound hm.big
  rw [← hN] at hq
  have hmo := otherTab_tab hm
  have hso := otherTab_sym hm hs
  have hlo : (otherTab xs n).length = N := by rw [hN]; exact hmo.len
  have H4 : Hid (∀ w', Ext w w' → Calls Try.prog 11 #[.agg #[.int .i64 n, .slice ao len cap]] w' fun e w'' => ∃ ao' cap', e = .returned (.tuple #[.agg #[.int .i64 n, .slice ao' N cap'], .int .i64 0]) ∧ RowOf 3 w'' w'.heap.size ao' N cap' (ints (otherTab xs n)) ∧ Ext w' w'') := fun w' hx => hN ▸ other_ok n ao len cap xs w' hl (hx.reads hr) hm hs
  have H5 : Hid (∀ ao cap w', Reads w' ao (ints (otherTab xs n)) → Calls Try.prog 11 #[.agg #[.int .i64 n, .slice ao N cap]] w' fun e w'' => ∃ ao' cap', e = .returned (.tuple #[.agg #[.int .i64 n, .slice ao' N cap'], .int .i64 0]) ∧ RowOf 3 w'' w'.heap.size ao' N cap' (ints xs) ∧ Ext w' w'') := fun ao cap w' hr => by
    have h := other_ok n ao N cap (otherTab xs n) w' hlo hr hmo hso
    rw [← hN] at h
    have ht := otherTab_twice hm hs
    unfold otherTab at ht
    rw [← hN] at ht
    have hu : otherTab xs n = tab (flat n (joinCell (notJoined xs n))) N := by unfold otherTab; rw [← hN]
    rw [hu, ht] at h
    exact h
  have HR := Lib.hid hr
  have HL := Lib.hid hl
  have H7 : Hid (∀ w', Reads w' ao (ints xs) → Calls Try.prog 13 #[.agg #[.int .i64 n, .slice ao len cap]] w' fun e w'' => (Clash xs n → e = .returned (.tuple #[.agg #[.int .i64 0, .int .i64 0, .int .i64 0, .int .i64 0], .int .i64 4])) ∧
      (¬ Clash xs n → e = .returned (.tuple #[.agg #[.int .i64 n, .int .i64 (outOf xs n 2), .int .i64 (outOf xs n 1), .int .i64 (outOf xs n 0)], .int .i64 0])) ∧ Ext w' w'') := fun w' hr => numbers_ok n ao len cap xs w' hl hr hm hs
  have H8 : Hid (∀ ao cap w', Reads w' ao (ints (otherTab xs n)) → Calls Try.prog 13 #[.agg #[.int .i64 n, .slice ao N cap]] w' fun e w'' => (Clash (otherTab xs n) n → e = .returned (.tuple #[.agg #[.int .i64 0, .int .i64 0, .int .i64 0, .int .i64 0], .int .i64 4])) ∧
      (¬ Clash (otherTab xs n) n → e = .returned (.tuple #[.agg #[.int .i64 n, .int .i64 (outOf (otherTab xs n) n 2), .int .i64 (outOf (otherTab xs n) n 1), .int .i64 (outOf (otherTab xs n) n 0)], .int .i64 0])) ∧ Ext w' w'') := fun ao cap w' hr => numbers_ok n ao N cap (otherTab xs n) w' hlo hr hmo hso
  have HC : Hid (Clash xs n → Clash (otherTab xs n) n) := other_clash hm hs
  have HNC : Hid (¬ Clash xs n → ¬ Clash (otherTab xs n) n ∧ outOf (otherTab xs n) n 2 = (n : Int) - 1 - outOf xs n 2 ∧ BothAre n (outOf xs n 2) (outOf xs n 1) (outOf xs n 0) (outOf (otherTab xs n) n 1) (outOf (otherTab xs n) n 0)) := fun h => by
    obtain ⟨k1, k2, k3, k4⟩ := other_numbers hm hs h
    rw [k2] at k3
    exact ⟨k1, k2, (outOf_bounds hm 2).1, (outOf_bounds hm 2).2, (outOf_bounds hm 1).1, (outOf_bounds hm 1).2, (outOf_bounds hm 0).1, (outOf_bounds hm 0).2, k3, k4⟩
  have h1 := hm.one
  subst hlN
  clear hl hr hm hs hmo hso hlo hN
  obtain ⟨ys, hys⟩ : ∃ ys, otherTab xs n = ys := ⟨_, rfl⟩
  rw [hys] at H4 H5 H8 HC HNC
  clear hys
  go_enter Try.func4, Try.ntmps4
  go_wp2_with fail
  have E0 := Lib.hid ((Ext.refl w).alloc (.cells #[.int .i64 n, .slice ao len cap] 30))
  have X0 := Lib.hid (Blk.new w #[.int .i64 n, .slice ao len cap] 30)
  refine Calls.mono (strongFact_ok _) ?_
  rintro e w1 ⟨rfl, hx⟩
  have E1 := Lib.hid (E0.out.trans hx)
  have X1 := Lib.hid (X0.out.ext hx)
  have k1 := X1.out.two
  clear hx
  go_wp2_with fail
  refine Calls.mono (H4.out _ E1.out) ?_
  rintro e w2 ⟨ao1, cap1, rfl, hrow, hx⟩
  have E2 := Lib.hid ((E1.out.trans hx).alloc (.cells #[.int .i64 n, .slice ao1 len cap1] 30))
  have X2 := Lib.hid ((X1.out.ext hx).alloc (.cells #[.int .i64 n, .slice ao1 len cap1] 30))
  have Y2 := Lib.hid (Blk.new w2 #[.int .i64 n, .slice ao1 len cap1] 30)
  have R2 := Lib.hid (((Ext.refl w2).alloc (.cells #[.int .i64 n, .slice ao1 len cap1] 30)).reads (RowOf.reads hrow))
  have k2 := Y2.out.two
  clear hx k1 hrow
  go_wp2_with fail
  refine Calls.mono (H5.out _ _ _ R2.out) ?_
  rintro e w3 ⟨ao2, cap2, rfl, hrow, hx⟩
  have E3 := Lib.hid ((E2.out.trans hx).alloc (.cells #[.int .i64 n, .slice ao2 len cap2] 30))
  have X3 := Lib.hid ((X2.out.ext hx).alloc (.cells #[.int .i64 n, .slice ao2 len cap2] 30))
  have Y3 := Lib.hid ((Y2.out.ext hx).alloc (.cells #[.int .i64 n, .slice ao2 len cap2] 30))
  have R3 := Lib.hid (((Ext.refl w3).alloc (.cells #[.int .i64 n, .slice ao2 len cap2] 30)).reads (hx.reads R2.out))
  have S3 := Lib.hid (((Ext.refl w3).alloc (.cells #[.int .i64 n, .slice ao2 len cap2] 30)).reads (RowOf.reads hrow))
  have k3 := X3.out.two
  have l3 := (Blk.new w3 #[.int .i64 n, .slice ao2 len cap2] 30).two
  clear hx k2 hrow
  go_wp2_with fail
  refine Calls.mono (squares_any n n ao2 ao len len cap2 cap xs xs _ HL.out HL.out (by unfold maxLen; omega) (by unfold maxLen; omega) S3.out (E3.out.reads HR.out)) ?_
  rintro e w4 ⟨rfl, hx⟩
  rw [decide_eq_true (show (n : Int) = n ∧ xs = xs from ⟨rfl, rfl⟩)]
  have E4 := Lib.hid (E3.out.trans hx)
  have X4 := Lib.hid (X3.out.ext hx)
  have Y4 := Lib.hid (Y3.out.ext hx)
  have R4 := Lib.hid (Ext.reads hx R3.out)
  have k4 := X4.out.two
  clear hx k3 l3
  go_wp2_with fail
  refine Calls.mono (H7.out _ (E4.out.reads HR.out)) ?_
  rintro e w5 ⟨hn1, hn2, hx⟩
  by_cases hcl : Clash xs n
  · obtain rfl := hn1 hcl
    have HCL := Lib.hid hcl
    have E5 := Lib.hid ((E4.out.trans hx).alloc (.cells #[.int .i64 0, .int .i64 0, .int .i64 0, .int .i64 0] 23))
    have Y5 := Lib.hid ((Y4.out.ext hx).alloc (.cells #[.int .i64 0, .int .i64 0, .int .i64 0, .int .i64 0] 23))
    have R5 := Lib.hid (((Ext.refl w5).alloc (.cells #[.int .i64 0, .int .i64 0, .int .i64 0, .int .i64 0] 23)).reads (hx.reads R4.out))
    have k5 := Y5.out.two
    clear hx k4 hn1 hn2 hcl
    go_wp2_with fail
    refine Calls.mono (H8.out _ _ _ R5.out) ?_
    rintro e w6 ⟨hn1, hn2, hx⟩
    obtain rfl := hn1 (HC.out HCL.out)
    have E6 := Lib.hid ((E5.out.trans hx).alloc (.cells #[.int .i64 0, .int .i64 0, .int .i64 0, .int .i64 0] 23))
    clear hx k5 hn1 hn2
    go_wp2
    go_ret
    exact ⟨by simp, E6.out⟩
  · obtain rfl := hn2 hcl
    obtain ⟨hcl2, hdo, hb⟩ := HNC.out hcl
    have HCL := Lib.hid hcl2
    obtain ⟨d, hd⟩ : ∃ d, outOf xs n 2 = d := ⟨_, rfl⟩
    obtain ⟨l, hl⟩ : ∃ d, outOf xs n 1 = d := ⟨_, rfl⟩
    obtain ⟨m, hm⟩ : ∃ d, outOf xs n 0 = d := ⟨_, rfl⟩
    obtain ⟨l', hl'⟩ : ∃ d, outOf ys n 1 = d := ⟨_, rfl⟩
    obtain ⟨m', hm'⟩ : ∃ d, outOf ys n 0 = d := ⟨_, rfl⟩
    obtain ⟨d', hd'⟩ : ∃ d, outOf ys n 2 = d := ⟨_, rfl⟩
    rw [hd, hl, hm, hl', hm'] at hb
    rw [hd, hd'] at hdo
    rw [hd, hl, hm]
    rw [hd', hl', hm'] at H8
    have HB := Lib.hid hb
    have HDO := Lib.hid hdo
    have E5 := Lib.hid ((E4.out.trans hx).alloc (.cells #[.int .i64 n, .int .i64 d, .int .i64 l, .int .i64 m] 23))
    have Y5 := Lib.hid ((Y4.out.ext hx).alloc (.cells #[.int .i64 n, .int .i64 d, .int .i64 l, .int .i64 m] 23))
    have Z5 := Lib.hid (Blk.new w5 #[.int .i64 n, .int .i64 d, .int .i64 l, .int .i64 m] 23)
    have R5 := Lib.hid (((Ext.refl w5).alloc (.cells #[.int .i64 n, .int .i64 d, .int .i64 l, .int .i64 m] 23)).reads (hx.reads R4.out))
    have k5 := Y5.out.two
    clear hx k4 hn1 hn2 hcl hcl2 hdo hb hd hl hm hl' hm' hd' HC HNC H7
    go_wp2_with fail
    refine Calls.mono (H8.out _ _ _ R5.out) ?_
    rintro e w6 ⟨hn1, hn2, hx⟩
    obtain rfl := hn2 HCL.out
    have E6 := Lib.hid ((E5.out.trans hx).alloc (.cells #[.int .i64 n, .int .i64 d', .int .i64 l', .int .i64 m'] 23))
    have k6 := ((Z5.out.ext hx).alloc (.cells #[.int .i64 n, .int .i64 d', .int .i64 l', .int .i64 m'] 23)).four
    have l6 := (Blk.new w6 #[.int .i64 n, .int .i64 d', .int .i64 l', .int .i64 m'] 23).four
    clear hx k5 hn1 hn2
    obtain ⟨d0, d1, l0, l1, m0, m1, hnear, hfar⟩ := HB.out
    have hdo := HDO.out
    have b0 : (d' != (n : Int) - 1 - d) = false := by rw [hdo]; simp
    have i1 : IntKind.i64.wrap ((n : Int) - 1) = (n : Int) - 1 := IntWalk.i64_in _ (by omega)
    have i2 : IntKind.i64.wrap ((n : Int) - 1 - d) = (n : Int) - 1 - d := IntWalk.i64_in _ (by omega)
    have i3 : IntKind.i64.wrap ((n : Int) - 2) = (n : Int) - 2 := IntWalk.i64_in _ (by omega)
    have i4 : IntKind.i64.wrap (2 * d) = 2 * d := IntWalk.i64_in _ (by omega)
    have i5 : IntKind.i64.wrap ((n : Int) - 2 - 2 * d) = (n : Int) - 2 - 2 * d := IntWalk.i64_in _ (by omega)
    have i6 : IntKind.i64.wrap ((n : Int) - 2 - 2 * d + m) = (n : Int) - 2 - 2 * d + m := IntWalk.i64_in _ (by omega)
    have i7 : IntKind.i64.wrap ((n : Int) - 2 * d) = (n : Int) - 2 * d := IntWalk.i64_in _ (by omega)
    have i8 : IntKind.i64.wrap ((n : Int) - 2 * d + l) = (n : Int) - 2 * d + l := IntWalk.i64_in _ (by omega)
    by_cases z1 : d = 0
    · have b1 : (d == 0) = true := by rw [z1]; rfl
      clear z1 hnear hfar hdo
      go_wp2
      go_ret
      exact ⟨by simp, E6.out⟩
    · have b1 : (d == 0) = false := by rw [beq_eq_false_iff_ne]; exact z1
      have hf := hfar z1
      by_cases z2 : d' = 0
      · have b2 : (d' == 0) = true := by rw [z2]; rfl
        clear z1 z2 hnear hfar hdo hf
        go_wp2
        go_ret
        exact ⟨by simp, E6.out⟩
      · have b2 : (d' == 0) = false := by rw [beq_eq_false_iff_ne]; exact z2
        have hne := hnear (by omega)
        have b3 : (l' == (n : Int) - 2 - 2 * d + m) = true := by rw [hne]; simp
        have b4 : (m' == (n : Int) - 2 * d + l) = true := by rw [hf]; simp
        clear z1 z2 hnear hfar hdo hf hne
        go_wp2
        go_ret
        exact ⟨by simp, E6.out⟩

theorem strongOther_any (m : Int) (ao : Option Addr) (n cap : Nat) (xs : List Int) {w : World} (hx : IntsArg w ao n cap xs) (_ : -9223372036854775808 ≤ m) (_ : m ≤ 9223372036854775807) :
    Calls Try.prog 4 #[.agg #[.int .i64 m, .slice ao n cap]] w fun e w' => e = .returned (.bool true) ∧ Below w.heap.size w w' := by
  by_cases h : graphFaultOf m xs = 0
  · obtain ⟨k, rfl, hm, ho⟩ := graphFaultOf_zero h
    exact strongOther_ok k ao n cap xs w hx.len hx.reads hm ho
  · exact strongOther_bad m ao n cap xs w hx.len hx.reads h

end Go.Proofs.Ytllfccfpoigigaa
