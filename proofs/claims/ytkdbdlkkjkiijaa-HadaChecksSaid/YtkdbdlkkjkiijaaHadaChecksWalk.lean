/- HadaChecks is true at any square. -/
import Derived.Test.YtkdbdlkkjkiijaaBlocks
import Derived.Test.YtkdbdlkkjkiijaaDesigns
import Derived.Test.YtkdbdlkkjkiijaaSquares
import Derived.Test.YtkdbdlkkjkiijaaArgSquare
namespace Go.Proofs.Ytkdbdlkkjkiijaa
open Go.RowKit

/-- Blocks and SignsBlocks answer alike at a matrix. -/
theorem blocks_mat (n : Nat) (xs : List Int) (hm : IsMat n xs) (ho : Orth n xs) : ∃ (p : Int) (l : Nat) (q : Int) (bs : List (List Int)), bs.length = l ∧ l ≤ 24 ∧
    (∀ (ao : Option Addr) (len cap : Nat) (w : World), xs.length = len → Reads w ao (ints xs) → Calls Try.prog 13 #[.agg #[.int .i64 n, .slice ao len cap]] w fun e w' =>
      ∃ ao' cap', e = .returned (.tuple #[.agg #[.int .i64 p, .slice ao' l cap'], .int .i64 q]) ∧ ReadsL w' ao' bs ∧ Ext w w') ∧
    (∀ (ao : Option Addr) (len cap : Nat) (w : World), xs.length = len → Reads w ao (ints xs) → Calls Try.prog 17 #[.agg #[.int .i64 n, .slice ao len cap]] w fun e w' =>
      ∃ ao' cap', e = .returned (.tuple #[.agg #[.int .i64 p, .slice ao' l cap'], .int .i64 q]) ∧ ReadsL w' ao' bs ∧ Ext w w') := by
  by_cases h : n < 4
  · refine ⟨0, 0, 2, [], rfl, by omega, fun ao len cap w hl hr => (blocks_small n ao len cap xs w hl hr hm ho h).mono ?_, fun ao len cap w hl hr => (signsBlocks_small n ao len cap w h).mono ?_⟩
    · rintro e w' ⟨rfl, hx⟩; exact ⟨none, 0, rfl, ReadsL.nil _ _, hx⟩
    · rintro e w' ⟨rfl, hx⟩; exact ⟨none, 0, rfl, ReadsL.nil _ _, hx⟩
  · refine ⟨(n : Int) - 1, n - 1, 0, blocksOf n (evenOf n xs), blocksTo_length _ _ _, by have := hm.big; omega, fun ao len cap w hl hr => blocks_ok n ao len cap xs w hl hr hm ho (by omega), fun ao len cap w hl hr => signsBlocks_any n ao len cap xs w hl hr hm (by omega)⟩

set_option maxHeartbeats 1000000 in
theorem hadaChecks_bad (m : Int) (ao : Option Addr) (len cap : Nat) (xs : List Int) (w : World) (hl : xs.length = len) (hr : Reads w ao (ints xs)) (hbad : signsFaultOf m xs ≠ 0) :
    Calls Try.prog 3 #[.agg #[.int .i64 m, .slice ao len cap]] w fun e w' => e = .returned (.bool true) ∧ Below w.heap.size w w' := by
  have X := Lib.hid (Blk.new w #[.int .i64 m, .slice ao len cap] 24)
  have E := Lib.hid (ext_box w #[.int .i64 m, .slice ao len cap] 24)
  have H1 : Hid (∀ w1, Ext w w1 → _) := fun w1 (hx : Ext w w1) => fault_any m ao len cap xs w1 hl (hx.reads hr)
  have H2 : Hid (∀ w1, Ext w w1 → _) := fun w1 (hx : Ext w w1) => check_any m ao len cap xs w1 hl (hx.reads hr)
  have H3 : Hid (∀ w1, Ext w w1 → _) := fun w1 (hx : Ext w w1) => evenTop_bad m ao len cap xs w1 hl (hx.reads hr) hbad
  have H4 : Hid (∀ w1, Ext w w1 → _) := fun w1 (hx : Ext w w1) => excess_bad m ao len cap xs w1 hl (hx.reads hr) hbad
  have H5 : Hid (∀ w1, Ext w w1 → _) := fun w1 (hx : Ext w w1) => blocks_bad m ao len cap xs w1 hl (hx.reads hr) hbad
  obtain ⟨f, hf⟩ : ∃ f, signsFaultOf m xs = f := ⟨_, rfl⟩
  rw [hf] at H1 H2 H3 H4 H5 hbad
  have b0 : (f != 0) = true := by rw [bne_iff_ne]; exact hbad
  have b1 : (f != f) = false := by simp
  clear hl hr hf hbad
  go_enter Try.func3, Try.ntmps3
  go_wp2_with fail
  refine Calls.mono (H1.out _ E.out) ?_
  rintro e w1 ⟨rfl, hx⟩
  have E1 := Lib.hid (E.out.trans hx)
  have X1 := Lib.hid (X.out.ext hx)
  have k1 := X1.out.two
  clear hx
  go_wp2_with fail
  refine Calls.mono (H2.out _ E1.out) ?_
  rintro e w2 ⟨rfl, hx⟩
  have E2 := Lib.hid (E1.out.trans hx)
  have X2 := Lib.hid (X1.out.ext hx)
  have k2 := X2.out.two
  clear hx k1
  go_wp2_with fail
  refine Calls.mono (H3.out _ E2.out) ?_
  rintro e w3 ⟨rfl, hx⟩
  have E3 := Lib.hid ((E2.out.trans hx).alloc (.cells #[.int .i64 0, .slice none 0 0] 24))
  have X3 := Lib.hid ((X2.out.ext hx).alloc (.cells #[.int .i64 0, .slice none 0 0] 24))
  have Y3 := Lib.hid (Blk.new w3 #[.int .i64 0, .slice none 0 0] 24)
  have k3 := (X2.out.ext hx).two
  have l3 := (X2.out.ext hx).lt
  clear hx k2
  go_wp2_with fail
  refine Calls.mono (H4.out _ E3.out) ?_
  rintro e w4 ⟨rfl, hx⟩
  have E4 := Lib.hid (E3.out.trans hx)
  have X4 := Lib.hid (X3.out.ext hx)
  have Y4 := Lib.hid (Y3.out.ext hx)
  have k4 := X4.out.two
  clear hx k3 l3
  go_wp2_with fail
  refine Calls.mono (H5.out _ E4.out) ?_
  rintro e w5 ⟨rfl, hx⟩
  have E5 := Lib.hid ((E4.out.trans hx).alloc (.cells #[.int .i64 0, .slice none 0 0] 33))
  have Z5 := Lib.hid (Blk.new w5 #[.int .i64 0, .slice none 0 0] 33)
  have Y5 := Lib.hid (Y4.out.ext hx)
  have k5 := Y5.out.two
  have l5 := Y5.out.lt
  clear hx k4
  go_wp2_with fail
  refine Calls.mono (squares_any 0 0 none none 0 0 0 0 [] [] _ rfl rfl (by decide) (by decide) (.inl rfl) (.inl rfl)) ?_
  rintro e w6 ⟨rfl, hx⟩
  have E6 := Lib.hid (E5.out.trans hx)
  have Z6 := Lib.hid (Z5.out.ext hx)
  have k6 := Z6.out.two
  clear hx k5 l5
  go_wp2_with fail
  refine Calls.mono (designs_any 0 0 none none 0 0 0 0 [] [] _ rfl rfl (by decide) (by decide) (ReadsL.nil _ _) (ReadsL.nil _ _)) ?_
  rintro e w7 ⟨rfl, hx⟩
  have E7 := Lib.hid (E6.out.trans hx)
  clear hx k6
  go_wp2
  go_ret
  exact ⟨by simp, E7.out⟩

set_option maxHeartbeats 2000000 in
theorem hadaChecks_ok (n : Nat) (ao : Option Addr) (len cap : Nat) (xs : List Int) (w : World) (hl : xs.length = len) (hr : Reads w ao (ints xs)) (hm : IsMat n xs) (ho : Orth n xs) :
    Calls Try.prog 3 #[.agg #[.int .i64 n, .slice ao len cap]] w fun e w' => e = .returned (.bool true) ∧ Below w.heap.size w w' := by
  have X := Lib.hid (Blk.new w #[.int .i64 n, .slice ao len cap] 24)
  have E := Lib.hid (ext_box w #[.int .i64 n, .slice ao len cap] 24)
  obtain ⟨p, l, q, bs, hbl, hbs, h5, h6⟩ := blocks_mat n xs hm ho
  have H1 : Hid (∀ w1, Ext w w1 → _) := fun w1 (hx : Ext w w1) => fault_any n ao len cap xs w1 hl (hx.reads hr)
  have H2 : Hid (∀ w1, Ext w w1 → _) := fun w1 (hx : Ext w w1) => check_any n ao len cap xs w1 hl (hx.reads hr)
  rw [signsFaultOf_mat hm ho] at H1 H2
  have H3 : Hid (∀ w1, Ext w w1 → _) := fun w1 (hx : Ext w w1) => evenTop_ok n ao len cap xs w1 hl (hx.reads hr) hm ho
  have H4 : Hid (∀ w1, Ext w w1 → _) := fun w1 (hx : Ext w w1) => excess_ok n ao len cap xs w1 hl (hx.reads hr) hm ho
  have H5 : Hid (∀ w1, Ext w w1 → _) := fun w1 (hx : Ext w w1) => h5 ao len cap w1 hl (hx.reads hr)
  have H6 : Hid (∀ w1, Ext w w1 → _) := fun w1 (hx : Ext w w1) => h6 ao len cap w1 hl (hx.reads hr)
  have H7 : Hid (∀ w1, Ext w w1 → _) := fun w1 (hx : Ext w w1) => evenOf_any n ao len cap xs w1 hl (hx.reads hr) hm
  have HYS : Hid (tab (flat n (evenCell xs n)) (n * n) = evenOf n xs) := rfl
  rw [HYS.out] at H3
  have HL := Lib.hid (evenOf_length n xs)
  obtain ⟨ys, hys⟩ : ∃ ys, evenOf n xs = ys := ⟨_, rfl⟩
  rw [hys] at HL H3 H7
  have hlen : len ≤ 576 := by have := hm.len; have := sq_bound hm.big; omega
  have hnn : n * n ≤ 576 := sq_bound hm.big
  have HSB : Hid (∀ j, j ≤ len → -(j : Int) ≤ sumTo xs j ∧ sumTo xs j ≤ j) := fun j hj => sumTo_bound hm j (by have := hm.len; omega)
  have HSG : Hid (∀ j, j < len → nth xs j = 1 ∨ nth xs j = -1) := fun j hj => nth_sign hm j (by have := hm.len; omega)
  have hlen0 : 0 < len := by have := hm.len; have := Nat.mul_pos hm.one hm.one; omega
  obtain ⟨b, off, rfl, hb, hc⟩ := Reads.int hr (by omega)
  rw [hl] at hc
  have HC := Lib.hid hc
  have HBL := Lib.hid hbl
  clear hl hr hm ho h5 h6 hys hc HYS hbl
  go_enter Try.func3, Try.ntmps3
  go_wp2_with fail
  refine Calls.mono (H1.out _ E.out) ?_
  rintro e w1 ⟨rfl, hx⟩
  have E1 := Lib.hid (E.out.trans hx)
  have X1 := Lib.hid (X.out.ext hx)
  have k1 := X1.out.two
  clear hx
  go_wp2_with fail
  refine Calls.mono (H2.out _ E1.out) ?_
  rintro e w2 ⟨rfl, hx⟩
  have E2 := Lib.hid (E1.out.trans hx)
  have X2 := Lib.hid (X1.out.ext hx)
  have k2 := X2.out.two
  clear hx k1
  go_wp2_with fail
  refine Calls.mono (H3.out _ E2.out) ?_
  rintro e w3 ⟨ao1, cap1, rfl, hrow, hx⟩
  have E3 := Lib.hid ((E2.out.trans hx).alloc (.cells #[.int .i64 n, .slice ao1 (n * n) cap1] 24))
  have X3 := Lib.hid ((X2.out.ext hx).alloc (.cells #[.int .i64 n, .slice ao1 (n * n) cap1] 24))
  have Y3 := Lib.hid (Blk.new w3 #[.int .i64 n, .slice ao1 (n * n) cap1] 24)
  have R3 := Lib.hid (((Ext.refl w3).alloc (.cells #[.int .i64 n, .slice ao1 (n * n) cap1] 24)).reads (RowOf.reads hrow))
  have k3 := (X2.out.ext hx).two
  have l3 := (X2.out.ext hx).lt
  clear hx k2 hrow
  go_wp2_with fail
  refine Calls.mono (H4.out _ E3.out) ?_
  rintro e w4 ⟨rfl, hx⟩
  have E4 := Lib.hid (E3.out.trans hx)
  have X4 := Lib.hid (X3.out.ext hx)
  have Y4 := Lib.hid (Y3.out.ext hx)
  have R4 := Lib.hid (Ext.reads hx R3.out)
  have k4 := X4.out.two
  clear hx k3 l3
  go_wp2_with fail
  refine Calls.mono (H5.out _ E4.out) ?_
  rintro e w5 ⟨ao2, cap2, rfl, hrl, hx⟩
  have E5 := Lib.hid ((E4.out.trans hx).alloc (.cells #[.int .i64 p, .slice ao2 l cap2] 33))
  have X5 := Lib.hid ((X4.out.ext hx).alloc (.cells #[.int .i64 p, .slice ao2 l cap2] 33))
  have Y5 := Lib.hid ((Y4.out.ext hx).alloc (.cells #[.int .i64 p, .slice ao2 l cap2] 33))
  have Z5 := Lib.hid (Blk.new w5 #[.int .i64 p, .slice ao2 l cap2] 33)
  have R5 := Lib.hid (((Ext.refl w5).alloc (.cells #[.int .i64 p, .slice ao2 l cap2] 33)).reads (Ext.reads hx R4.out))
  have S5 := Lib.hid (hrl.ext ((Ext.refl w5).alloc (.cells #[.int .i64 p, .slice ao2 l cap2] 33)))
  have k5 := (X4.out.ext hx).two
  have l5 := (X4.out.ext hx).lt
  clear hx k4 hrl
  go_wp2_with fail
  refine Calls.mono (H7.out _ E5.out) ?_
  rintro e w6 ⟨ao3, cap3, rfl, hrow, hx⟩
  have E6 := Lib.hid ((E5.out.trans hx).alloc (.cells #[.int .i64 n, .slice ao3 (n * n) cap3] 24))
  have X6 := Lib.hid ((X5.out.ext hx).alloc (.cells #[.int .i64 n, .slice ao3 (n * n) cap3] 24))
  have Z6 := Lib.hid ((Z5.out.ext hx).alloc (.cells #[.int .i64 n, .slice ao3 (n * n) cap3] 24))
  have R6 := Lib.hid (((Ext.refl w6).alloc (.cells #[.int .i64 n, .slice ao3 (n * n) cap3] 24)).reads (Ext.reads hx R5.out))
  have Q6 := Lib.hid (((Ext.refl w6).alloc (.cells #[.int .i64 n, .slice ao3 (n * n) cap3] 24)).reads (RowOf.reads hrow))
  have S6 := Lib.hid ((S5.out.ext hx).ext ((Ext.refl w6).alloc (.cells #[.int .i64 n, .slice ao3 (n * n) cap3] 24)))
  have k6 := (Y5.out.ext hx).two
  have l6 := (Y5.out.ext hx).lt
  clear hx k5 l5 hrow
  go_wp2_with fail
  refine Calls.mono (squares_any n n ao1 ao3 (n * n) (n * n) cap1 cap3 ys ys _ HL.out HL.out (by unfold maxLen; omega) (by unfold maxLen; omega) R6.out Q6.out) ?_
  rintro e w7 ⟨rfl, hx⟩
  rw [decide_eq_true (show (n : Int) = n ∧ ys = ys from ⟨rfl, rfl⟩)]
  have E7 := Lib.hid (E6.out.trans hx)
  have X7 := Lib.hid (X6.out.ext hx)
  have Z7 := Lib.hid (Z6.out.ext hx)
  have S7 := Lib.hid (S6.out.ext hx)
  have k7 := X7.out.two
  clear hx k6 l6
  go_wp2
  have HC7 : Hid (∀ j, j < len → w7.cell? ⟨b, off + j, none⟩ = some (.int .i64 (nth xs j))) := fun j hj => by rw [E7.out.cell hb]; exact HC.out j hj
  go_loop [15, 16] (fun s i => ∃ j : Nat, j ≤ len ∧ i = .int .i64 j ∧ s = .int .i64 (sumTo xs j)) (fun _ i => len - (intOf i).toNat)
  case atStart => exact ⟨0, by omega, rfl, rfl⟩
  case round =>
    obtain ⟨j, hj, rfl, rfl⟩ := hrel
    have hsb := HSB.out j hj
    by_cases hlt : j < len
    · have hck := HC7.out j hlt
      have hsg := HSG.out j hlt
      have HS : Hid (sumTo xs (j + 1) = sumTo xs j + nth xs j) := rfl
      obtain ⟨x, hx⟩ : ∃ x, nth xs j = x := ⟨_, rfl⟩
      obtain ⟨s, hs⟩ : ∃ s, sumTo xs j = s := ⟨_, rfl⟩
      rw [hx] at hck hsg HS
      rw [hs] at hsb HS ⊢
      have hx1 : -1 ≤ x ∧ x ≤ 1 := by rcases hsg with h | h <;> omega
      obtain ⟨hx2, hx3⟩ := hx1
      obtain ⟨hs1, hs2⟩ := hsb
      clear hx hs hsg
      go_wp2
      go_round
      case rel => exact ⟨j + 1, by omega, by go_num, by rw [HS.out]⟩
      case measure => simp [intOf]; omega
    · obtain rfl : j = len := by omega
      have b1 : (sumTo xs j != sumTo xs j) = false := by simp
      clear HC7
      go_wp2_with fail
      refine Calls.mono (H6.out _ E7.out) ?_
      rintro e w8 ⟨ao4, cap4, rfl, hrl, hx⟩
      have E8 := Lib.hid ((E7.out.trans hx).alloc (.cells #[.int .i64 p, .slice ao4 l cap4] 33))
      have S8 := Lib.hid ((S7.out.ext hx).ext ((Ext.refl w8).alloc (.cells #[.int .i64 p, .slice ao4 l cap4] 33)))
      have T8 := Lib.hid (hrl.ext ((Ext.refl w8).alloc (.cells #[.int .i64 p, .slice ao4 l cap4] 33)))
      have k8 := (Z7.out.ext hx).two
      have l8 := (Z7.out.ext hx).lt
      clear hx hrl
      go_wp2_with fail
      refine Calls.mono (designs_any p p ao2 ao4 l l cap2 cap4 bs bs _ HBL.out HBL.out (by unfold maxLen; omega) (by unfold maxLen; omega) S8.out T8.out) ?_
      rintro e w9 ⟨rfl, hx⟩
      rw [decide_eq_true (show p = p ∧ bs = bs from ⟨rfl, rfl⟩)]
      have E9 := Lib.hid (E8.out.trans hx)
      clear hx
      go_wp2
      go_ret
      exact ⟨by simp, E9.out⟩

theorem hadaChecks_any (m : Int) (ao : Option Addr) (n cap : Nat) (xs : List Int) {w : World} (hx : IntsArg w ao n cap xs) (_ : -9223372036854775808 ≤ m) (_ : m ≤ 9223372036854775807) :
    Calls Try.prog 3 #[.agg #[.int .i64 m, .slice ao n cap]] w fun e w' => e = .returned (.bool true) ∧ Below w.heap.size w w' := by
  by_cases h : signsFaultOf m xs = 0
  · obtain ⟨k, rfl, hm, ho⟩ := signsFaultOf_zero h
    exact hadaChecks_ok k ao n cap xs w hx.len hx.reads hm ho
  · exact hadaChecks_bad m ao n cap xs w hx.len hx.reads h

end Go.Proofs.Ytkdbdlkkjkiijaa
