/- What StrongChecks returns. -/
import Derived.Test.YtllfccfpoigigaaNumbersOf
import Derived.Test.YtllfccfpoigigaaFriendOf
import Derived.Test.YtllfccfpoigigaaOtherOf
import Derived.Test.YtllfccfpoigigaaGraphFault
import Derived.Test.YtllfccfpoigigaaSquares
import Derived.Test.YtllfccfpoigigaaArgSquare
namespace Go.Proofs.Ytllfccfpoigigaa
open Go.RowKit

/-- What Numbers and its reference answer: the same, whatever it is. -/
theorem numbers_both (n len cap : Nat) (ao : Option Addr) (xs : List Int) (hl : xs.length = len) (hm : IsTab n xs) (hs : IsSym n xs) : ∃ a0 a1 a2 a3 c : Int,
    (∀ w, Reads w ao (ints xs) → Calls Try.prog 13 #[.agg #[.int .i64 n, .slice ao len cap]] w fun e w' => e = .returned (.tuple #[.agg #[.int .i64 a0, .int .i64 a1, .int .i64 a2, .int .i64 a3], .int .i64 c]) ∧ Ext w w') ∧
    (∀ w, Reads w ao (ints xs) → Calls Try.prog 17 #[.agg #[.int .i64 n, .slice ao len cap]] w fun e w' => e = .returned (.tuple #[.agg #[.int .i64 a0, .int .i64 a1, .int .i64 a2, .int .i64 a3], .int .i64 c]) ∧ Ext w w') := by
  by_cases h : Clash xs n
  · exact ⟨0, 0, 0, 0, 4, fun w hr => (numbers_ok n ao len cap xs w hl hr hm hs).mono fun e w' h' => ⟨h'.1 h, h'.2.2⟩, fun w hr => (numbersOf_ok n ao len cap xs w hl hr hm).mono fun e w' h' => ⟨h'.1 h, h'.2.2⟩⟩
  · exact ⟨n, _, _, _, 0, fun w hr => (numbers_ok n ao len cap xs w hl hr hm hs).mono fun e w' h' => ⟨h'.2.1 h, h'.2.2⟩, fun w hr => (numbersOf_ok n ao len cap xs w hl hr hm).mono fun e w' h' => ⟨h'.2.1 h, h'.2.2⟩⟩

set_option maxHeartbeats 4000000 in
set_option maxRecDepth 100000 in
theorem strongChecks_bad (m : Int) (ao : Option Addr) (len cap : Nat) (xs : List Int) (w : World) (hl : xs.length = len) (hr : Reads w ao (ints xs)) (h0 : graphFaultOf m xs ≠ 0) :
    Calls Try.prog 5 #[.agg #[.int .i64 m, .slice ao len cap]] w fun e w' => e = .returned (.bool true) ∧ Ext w w' := by
  obtain ⟨c, hc⟩ : ∃ c, graphFaultOf m xs = c := ⟨_, rfl⟩
  rw [hc] at h0
  have H1 : Hid (∀ w', Ext w w' → Calls Try.prog 14 #[.agg #[.int .i64 m, .slice ao len cap]] w' fun e w'' => e = .returned (.int .i64 c) ∧ Ext w' w'') := fun w' hx => hc ▸ fault_any m ao len cap xs w' hl (hx.reads hr)
  have H2 : Hid (∀ w', Ext w w' → Calls Try.prog 15 #[.agg #[.int .i64 m, .slice ao len cap]] w' fun e w'' => e = .returned (.int .i64 c) ∧ Ext w' w'') := fun w' hx => hc ▸ check_any m ao len cap xs w' hl (hx.reads hr)
  have H3 : Hid (∀ w', Ext w w' → Calls Try.prog 13 #[.agg #[.int .i64 m, .slice ao len cap]] w' fun e w'' => e = .returned (.tuple #[.agg #[.int .i64 0, .int .i64 0, .int .i64 0, .int .i64 0], .int .i64 c]) ∧ Ext w' w'') := fun w' hx => numbers_bad m ao len cap xs c w' hl (hx.reads hr) hc h0
  have H4 : Hid (∀ w', Ext w w' → Calls Try.prog 11 #[.agg #[.int .i64 m, .slice ao len cap]] w' fun e w'' => e = .returned (.tuple #[.agg #[.int .i64 0, .slice none 0 0], .int .i64 c]) ∧ Ext w' w'') := fun w' hx => other_bad m ao len cap xs c w' hl (hx.reads hr) hc h0
  have H5 : Hid (∀ w', Ext w w' → Calls Try.prog 16 #[.agg #[.int .i64 m, .slice ao len cap]] w' fun e w'' => e = .returned (.tuple #[.int .i64 0, .int .i64 c]) ∧ Ext w' w'') := fun w' hx => friend_bad m ao len cap xs c w' hl (hx.reads hr) hc h0
  have b1 : (c != 0) = true := by rw [bne_iff_ne]; exact h0
  clear hl hr hc h0
  go_enter Try.func5, Try.ntmps5
  go_wp2_with fail
  have E0 := Lib.hid ((Ext.refl w).alloc (.cells #[.int .i64 m, .slice ao len cap] 30))
  have X0 := Lib.hid (Blk.new w #[.int .i64 m, .slice ao len cap] 30)
  refine Calls.mono (H1.out _ E0.out) ?_
  rintro e w1 ⟨rfl, hx⟩
  have E1 := Lib.hid (E0.out.trans hx)
  have X1 := Lib.hid (X0.out.ext hx)
  have k1 := X1.out.two
  clear hx
  go_wp2_with fail
  refine Calls.mono (H2.out _ E1.out) ?_
  rintro e w2 ⟨rfl, hx⟩
  have E2 := Lib.hid (E1.out.trans hx)
  have X2 := Lib.hid (X1.out.ext hx)
  have k2 := X2.out.two
  clear hx k1
  go_wp2_with fail
  refine Calls.mono (H3.out _ E2.out) ?_
  rintro e w3 ⟨rfl, hx⟩
  have E3 := Lib.hid ((E2.out.trans hx).alloc (.cells #[.int .i64 0, .int .i64 0, .int .i64 0, .int .i64 0] 23))
  have X3 := Lib.hid ((X2.out.ext hx).alloc (.cells #[.int .i64 0, .int .i64 0, .int .i64 0, .int .i64 0] 23))
  have Y3 := Lib.hid (Blk.new w3 #[.int .i64 0, .int .i64 0, .int .i64 0, .int .i64 0] 23)
  have k3 := X3.out.two
  clear hx k2
  go_wp2_with fail
  refine Calls.mono (H4.out _ E3.out) ?_
  rintro e w4 ⟨rfl, hx⟩
  have E4 := Lib.hid ((E3.out.trans hx).alloc (.cells #[.int .i64 0, .slice none 0 0] 30))
  have X4 := Lib.hid ((X3.out.ext hx).alloc (.cells #[.int .i64 0, .slice none 0 0] 30))
  have Y4 := Lib.hid ((Y3.out.ext hx).alloc (.cells #[.int .i64 0, .slice none 0 0] 30))
  have Z4 := Lib.hid (Blk.new w4 #[.int .i64 0, .slice none 0 0] 30)
  have k4 := X4.out.two
  clear hx k3
  go_wp2_with fail
  refine Calls.mono (H5.out _ E4.out) ?_
  rintro e w5 ⟨rfl, hx⟩
  have E5 := Lib.hid (E4.out.trans hx)
  have X5 := Lib.hid (X4.out.ext hx)
  have Y5 := Lib.hid (Y4.out.ext hx)
  have Z5 := Lib.hid (Z4.out.ext hx)
  have k5 := X5.out.two
  have l5 := Y5.out.four
  have m5 := Z5.out.two
  clear hx k4
  go_wp2_with fail
  refine Calls.mono (squares_any 0 0 none none 0 0 0 0 [] [] w5 rfl rfl (by decide) (by decide) (.inl rfl) (.inl rfl)) ?_
  rintro e w6 ⟨rfl, hx⟩
  have E6 := Lib.hid (E5.out.trans hx)
  have l6 := (Y5.out.ext hx).four
  clear hx k5 l5 m5
  go_wp2
  go_ret
  exact ⟨by simp, E6.out⟩

set_option maxHeartbeats 4000000 in
set_option maxRecDepth 100000 in
theorem strongChecks_ok (n : Nat) (ao : Option Addr) (len cap : Nat) (xs : List Int) (w : World) (hl : xs.length = len) (hr : Reads w ao (ints xs)) (hm : IsTab n xs) (hs : IsSym n xs) :
    Calls Try.prog 5 #[.agg #[.int .i64 n, .slice ao len cap]] w fun e w' => e = .returned (.bool true) ∧ Ext w w' := by
  have hc := graphFaultOf_tab hm hs
  obtain ⟨a0, a1, a2, a3, ac, hn1, hn2⟩ := numbers_both n len cap ao xs hl hm hs
  obtain ⟨N, hN⟩ : ∃ N, N = n * n := ⟨_, rfl⟩
  have hq := sq_bound hm.big
  rw [← hN] at hq
  have H1 : Hid (∀ w', Ext w w' → Calls Try.prog 14 #[.agg #[.int .i64 n, .slice ao len cap]] w' fun e w'' => e = .returned (.int .i64 0) ∧ Ext w' w'') := fun w' hx => hc ▸ fault_any n ao len cap xs w' hl (hx.reads hr)
  have H2 : Hid (∀ w', Ext w w' → Calls Try.prog 15 #[.agg #[.int .i64 n, .slice ao len cap]] w' fun e w'' => e = .returned (.int .i64 0) ∧ Ext w' w'') := fun w' hx => hc ▸ check_any n ao len cap xs w' hl (hx.reads hr)
  have H3 : Hid (∀ w', Ext w w' → Calls Try.prog 13 #[.agg #[.int .i64 n, .slice ao len cap]] w' fun e w'' => e = .returned (.tuple #[.agg #[.int .i64 a0, .int .i64 a1, .int .i64 a2, .int .i64 a3], .int .i64 ac]) ∧ Ext w' w'') := fun w' hx => hn1 w' (hx.reads hr)
  have H4 : Hid (∀ w', Ext w w' → Calls Try.prog 11 #[.agg #[.int .i64 n, .slice ao len cap]] w' fun e w'' => ∃ ao' cap', e = .returned (.tuple #[.agg #[.int .i64 n, .slice ao' N cap'], .int .i64 0]) ∧ RowOf 3 w'' w'.heap.size ao' N cap' (ints (tab (flat n (joinCell (notJoined xs n))) N)) ∧ Ext w' w'') := fun w' hx => hN ▸ other_ok n ao len cap xs w' hl (hx.reads hr) hm hs
  have H5 : Hid (∀ w', Ext w w' → Calls Try.prog 16 #[.agg #[.int .i64 n, .slice ao len cap]] w' fun e w'' => ∃ x c, e = .returned (.tuple #[.int .i64 x, .int .i64 c]) ∧ FriendIs xs n x c ∧ Ext w' w'') := fun w' hx => friend_ok n ao len cap xs w' hl (hx.reads hr) hm hs
  have H7 : Hid (∀ w', Ext w w' → Calls Try.prog 17 #[.agg #[.int .i64 n, .slice ao len cap]] w' fun e w'' => e = .returned (.tuple #[.agg #[.int .i64 a0, .int .i64 a1, .int .i64 a2, .int .i64 a3], .int .i64 ac]) ∧ Ext w' w'') := fun w' hx => hn2 w' (hx.reads hr)
  have H8 : Hid (∀ w', Ext w w' → Calls Try.prog 18 #[.agg #[.int .i64 n, .slice ao len cap]] w' fun e w'' => ∃ ao' cap', e = .returned (.agg #[.int .i64 n, .slice ao' N cap']) ∧ RowOf 3 w'' w'.heap.size ao' N cap' (ints (tab (flat n (joinCell (notJoined xs n))) N)) ∧ Ext w' w'') := fun w' hx => hN ▸ otherOf_ok n ao len cap xs w' hl (hx.reads hr) hm
  have H9 : Hid (∀ w', Ext w w' → Calls Try.prog 19 #[.agg #[.int .i64 n, .slice ao len cap]] w' fun e w'' => ∃ x c, e = .returned (.tuple #[.int .i64 x, .int .i64 c]) ∧ FriendIs xs n x c ∧ Ext w' w'') := fun w' hx => friendOf_ok n ao len cap xs w' hl (hx.reads hr) hm hs
  clear hl hr hc hm hs hn1 hn2 hN
  go_enter Try.func5, Try.ntmps5
  go_wp2_with fail
  have E0 := Lib.hid ((Ext.refl w).alloc (.cells #[.int .i64 n, .slice ao len cap] 30))
  have X0 := Lib.hid (Blk.new w #[.int .i64 n, .slice ao len cap] 30)
  refine Calls.mono (H1.out _ E0.out) ?_
  rintro e w1 ⟨rfl, hx⟩
  have E1 := Lib.hid (E0.out.trans hx)
  have X1 := Lib.hid (X0.out.ext hx)
  have k1 := X1.out.two
  clear hx
  go_wp2_with fail
  refine Calls.mono (H2.out _ E1.out) ?_
  rintro e w2 ⟨rfl, hx⟩
  have E2 := Lib.hid (E1.out.trans hx)
  have X2 := Lib.hid (X1.out.ext hx)
  have k2 := X2.out.two
  clear hx k1
  go_wp2_with fail
  refine Calls.mono (H3.out _ E2.out) ?_
  rintro e w3 ⟨rfl, hx⟩
  have E3 := Lib.hid ((E2.out.trans hx).alloc (.cells #[.int .i64 a0, .int .i64 a1, .int .i64 a2, .int .i64 a3] 23))
  have X3 := Lib.hid ((X2.out.ext hx).alloc (.cells #[.int .i64 a0, .int .i64 a1, .int .i64 a2, .int .i64 a3] 23))
  have Y3 := Lib.hid (Blk.new w3 #[.int .i64 a0, .int .i64 a1, .int .i64 a2, .int .i64 a3] 23)
  have k3 := X3.out.two
  clear hx k2
  go_wp2_with fail
  refine Calls.mono (H4.out _ E3.out) ?_
  rintro e w4 ⟨ao1, cap1, rfl, hrow, hx⟩
  have E4 := Lib.hid ((E3.out.trans hx).alloc (.cells #[.int .i64 n, .slice ao1 N cap1] 30))
  have X4 := Lib.hid ((X3.out.ext hx).alloc (.cells #[.int .i64 n, .slice ao1 N cap1] 30))
  have Y4 := Lib.hid ((Y3.out.ext hx).alloc (.cells #[.int .i64 n, .slice ao1 N cap1] 30))
  have Z4 := Lib.hid (Blk.new w4 #[.int .i64 n, .slice ao1 N cap1] 30)
  have R4 := Lib.hid (((Ext.refl w4).alloc (.cells #[.int .i64 n, .slice ao1 N cap1] 30)).reads (RowOf.reads hrow))
  have k4 := X4.out.two
  clear hx k3 hrow
  go_wp2_with fail
  refine Calls.mono (H5.out _ E4.out) ?_
  rintro e w5 ⟨x, c, rfl, hfr, hx⟩
  have E5 := Lib.hid (E4.out.trans hx)
  have X5 := Lib.hid (X4.out.ext hx)
  have Y5 := Lib.hid (Y4.out.ext hx)
  have Z5 := Lib.hid (Z4.out.ext hx)
  have R5 := Lib.hid (hx.reads R4.out)
  have FR := Lib.hid hfr
  have k5 := X5.out.two
  have l5 := Y5.out.four
  have m5 := Z5.out.two
  clear hx k4 hfr
  go_wp2_with fail
  refine Calls.mono (H7.out _ E5.out) ?_
  rintro e w6 ⟨rfl, hx⟩
  have E6 := Lib.hid ((E5.out.trans hx).alloc (.cells #[.int .i64 a0, .int .i64 a1, .int .i64 a2, .int .i64 a3] 23))
  have X6 := Lib.hid ((X5.out.ext hx).alloc (.cells #[.int .i64 a0, .int .i64 a1, .int .i64 a2, .int .i64 a3] 23))
  have Y6 := Lib.hid ((Y5.out.ext hx).alloc (.cells #[.int .i64 a0, .int .i64 a1, .int .i64 a2, .int .i64 a3] 23))
  have Z6 := Lib.hid ((Z5.out.ext hx).alloc (.cells #[.int .i64 a0, .int .i64 a1, .int .i64 a2, .int .i64 a3] 23))
  have R6 := Lib.hid (((Ext.refl w6).alloc (.cells #[.int .i64 a0, .int .i64 a1, .int .i64 a2, .int .i64 a3] 23)).reads (hx.reads R5.out))
  have U6 := Lib.hid (Blk.new w6 #[.int .i64 a0, .int .i64 a1, .int .i64 a2, .int .i64 a3] 23)
  have k6 := X6.out.two
  clear hx k5 l5 m5
  go_wp2_with fail
  refine Calls.mono (H8.out _ E6.out) ?_
  rintro e w7 ⟨ao2, cap2, rfl, hrow, hx⟩
  have E7 := Lib.hid ((E6.out.trans hx).alloc (.cells #[.int .i64 n, .slice ao2 N cap2] 30))
  have X7 := Lib.hid ((X6.out.ext hx).alloc (.cells #[.int .i64 n, .slice ao2 N cap2] 30))
  have Y7 := Lib.hid ((Y6.out.ext hx).alloc (.cells #[.int .i64 n, .slice ao2 N cap2] 30))
  have Z7 := Lib.hid ((Z6.out.ext hx).alloc (.cells #[.int .i64 n, .slice ao2 N cap2] 30))
  have U7 := Lib.hid ((U6.out.ext hx).alloc (.cells #[.int .i64 n, .slice ao2 N cap2] 30))
  have V7 := Lib.hid (Blk.new w7 #[.int .i64 n, .slice ao2 N cap2] 30)
  have R7 := Lib.hid (((Ext.refl w7).alloc (.cells #[.int .i64 n, .slice ao2 N cap2] 30)).reads (hx.reads R6.out))
  have S7 := Lib.hid (((Ext.refl w7).alloc (.cells #[.int .i64 n, .slice ao2 N cap2] 30)).reads (RowOf.reads hrow))
  have k7 := X7.out.two
  clear hx k6 hrow
  go_wp2_with fail
  refine Calls.mono (H9.out _ E7.out) ?_
  rintro e w8 ⟨x', c', rfl, hfr, hx⟩
  obtain ⟨rfl, rfl⟩ := FriendIs.one FR.out hfr
  have E8 := Lib.hid (E7.out.trans hx)
  have Y8 := Lib.hid (Y7.out.ext hx)
  have U8 := Lib.hid (U7.out.ext hx)
  have R8 := Lib.hid (hx.reads R7.out)
  have S8 := Lib.hid (hx.reads S7.out)
  have k8 := (Z7.out.ext hx).two
  have l8 := (V7.out.ext hx).two
  clear hx k7 hfr
  go_wp2_with fail
  refine Calls.mono (squares_any n n ao1 ao2 N N cap1 cap2 (tab (flat n (joinCell (notJoined xs n))) N) (tab (flat n (joinCell (notJoined xs n))) N) w8 (tab_length _ _) (tab_length _ _) (by unfold maxLen; omega) (by unfold maxLen; omega) R8.out S8.out) ?_
  rintro e w9 ⟨rfl, hx⟩
  rw [decide_eq_true (show (n : Int) = n ∧ tab (flat n (joinCell (notJoined xs n))) N = tab (flat n (joinCell (notJoined xs n))) N from ⟨rfl, rfl⟩)]
  have E9 := Lib.hid (E8.out.trans hx)
  have k9 := (Y8.out.ext hx).four
  have l9 := (U8.out.ext hx).four
  clear hx k8 l8
  go_wp2
  go_ret
  exact ⟨by simp, E9.out⟩

theorem strongChecks_any (m : Int) (ao : Option Addr) (n cap : Nat) (xs : List Int) {w : World} (hx : IntsArg w ao n cap xs) (_ : -9223372036854775808 ≤ m) (_ : m ≤ 9223372036854775807) :
    Calls Try.prog 5 #[.agg #[.int .i64 m, .slice ao n cap]] w fun e w' => e = .returned (.bool true) ∧ Below w.heap.size w w' := by
  by_cases h : graphFaultOf m xs = 0
  · obtain ⟨k, rfl, hm, ho⟩ := graphFaultOf_zero h
    exact strongChecks_ok k ao n cap xs w hx.len hx.reads hm ho
  · exact strongChecks_bad m ao n cap xs w hx.len hx.reads h

end Go.Proofs.Ytllfccfpoigigaa
