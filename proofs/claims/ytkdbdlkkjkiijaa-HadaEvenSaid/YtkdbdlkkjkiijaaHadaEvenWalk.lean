/- HadaEven is true at any square. -/
import Derived.Test.YtkdbdlkkjkiijaaEvenTop
import Derived.Test.YtkdbdlkkjkiijaaEvenLaw
import Derived.Test.YtkdbdlkkjkiijaaSquares
import Derived.Test.YtkdbdlkkjkiijaaArgSquare
import Derived.Test.YtkdbdlkkjkiijaaBlk
namespace Go.Proofs.Ytkdbdlkkjkiijaa
open Go.RowKit

set_option maxHeartbeats 400000 in
theorem hadaEven_bad (m : Int) (ao : Option Addr) (len cap : Nat) (xs : List Int) (w : World) (hl : xs.length = len) (hr : Reads w ao (ints xs)) (hbad : signsFaultOf m xs ≠ 0) :
    Calls Try.prog 5 #[.agg #[.int .i64 m, .slice ao len cap]] w fun e w' => e = .returned (.bool true) ∧ Below w.heap.size w w' := by
  have hbel : Below w.heap.size w (w.alloc (.cells #[.int .i64 m, .slice ao len cap] 24)) := (Below.refl _ _).alloc (Nat.le_refl _) _
  have HB := Lib.hid hbel
  have HX : Hid (BoxAt (w.alloc (.cells #[.int .i64 m, .slice ao len cap] 24)) w.heap.size (.int .i64 m) (.slice ao len cap)) := BoxAt.new _ _ _ _
  have HE : Hid (∀ w1, Below w.heap.size w w1 → _) := fun w1 (hb : Below w.heap.size w w1) => evenTop_bad m ao len cap xs w1 hl (hr.below hb (Nat.le_refl _)) hbad
  obtain ⟨f, hf⟩ : ∃ f, signsFaultOf m xs = f := ⟨_, rfl⟩
  rw [hf] at HE hbad
  have b0 : (f != 0) = true := by rw [bne_iff_ne]; exact hbad
  clear hbel hr hf hbad hl
  go_enter Try.func5, Try.ntmps5
  go_wp2_with (first
    | (go_at_call 18; refine (hadaFact_any _).mono ?_; rintro e w1 ⟨rfl, hb⟩; have HB1 := Lib.hid (HB.out.trans (hb.mono (by simp))); have k0 := (HX.out.carry (hb.block w.heap.size (by simp))).c0; have k1 := (HX.out.carry (hb.block w.heap.size (by simp))).c1; clear hb)
    | (go_at_call 11; refine Calls.mono (HE.out _ HB1.out) ?_; rintro e w2 ⟨rfl, hb⟩; have HB2 := Lib.hid (HB1.out.trans (hb.mono HB1.out.size)); clear hb))
  go_ret
  exact ⟨rfl, HB2.out.alloc HB2.out.size _⟩

set_option maxHeartbeats 1000000 in
theorem hadaEven_ok (n : Nat) (ao : Option Addr) (len cap : Nat) (xs : List Int) (w : World) (hl : xs.length = len) (hr : Reads w ao (ints xs)) (hm : IsMat n xs) (ho : Orth n xs) :
    Calls Try.prog 5 #[.agg #[.int .i64 n, .slice ao len cap]] w fun e w' => e = .returned (.bool true) ∧ Below w.heap.size w w' := by
  have HX := Lib.hid (Blk.new w #[.int .i64 n, .slice ao len cap] 24)
  have E0 := Lib.hid (ext_box w #[.int .i64 n, .slice ao len cap] 24)
  have HE : Hid (∀ w1, Ext w w1 → _) := fun w1 (hb : Ext w w1) => evenTop_ok n ao len cap xs w1 hl (hb.reads hr) hm ho
  have HEV : Hid (evenOf n (evenOf n xs) = evenOf n xs) := evenOf_twice hm
  have HM := Lib.hid (isMat_evenOf hm)
  have HO := Lib.hid (orth_evenOf hm ho)
  have HL := Lib.hid (evenOf_length n xs)
  have HR : Hid (∀ j, j < n → nth (evenOf n xs) j = 1 ∧ nth (evenOf n xs) (j * n) = 1) := fun j hj => by
    have h1 := at2_evenOf xs (show 0 < n by omega) hj
    have h2 := at2_evenOf xs hj (show 0 < n by omega)
    unfold at2 at h1 h2
    rw [Nat.zero_mul, Nat.zero_add] at h1
    rw [Nat.add_zero] at h2
    rw [h1, h2]
    exact ⟨evenCell_row hm hj, evenCell_col hm hj⟩
  have n1 : 1 ≤ n := hm.one
  have n24 : n ≤ 24 := hm.big
  have hq := sq_bound hm.big
  clear hr hl hm ho
  go_enter Try.func5, Try.ntmps5
  go_wp2_with fail
  refine Calls.mono (hadaFact_any _) ?_
  rintro e w1 ⟨rfl, hx⟩
  have E1 := Lib.hid (E0.out.trans hx)
  have X1 := Lib.hid (HX.out.ext hx)
  have k0 := X1.out.two
  clear hx
  go_wp2_with fail
  refine Calls.mono (HE.out _ E1.out) ?_
  rintro e w2 ⟨ao', cap', rfl, hrow, hx⟩
  have E2 := Lib.hid (E1.out.trans hx)
  have X2 := Lib.hid (X1.out.ext hx)
  have R2 : Hid (RowOf 3 w2 w1.heap.size ao' (n * n) cap' (ints (evenOf n xs))) := hrow
  clear hx hrow k0
  have k0 := X2.out.two
  obtain ⟨g, hg⟩ := R2.out.opened (Nat.mul_pos n1 n1)
  obtain ⟨rfl, _, hg1, hg2, _⟩ := hg
  have hg3 : ∀ j, j < n * n → w2.cell? ⟨g, j, none⟩ = some (.int .i64 (nth (evenOf n xs) j)) := fun j hj => hg2 j _ (ints_get _ j (by rw [HL.out]; exact hj))
  have HG := Lib.hid hg3
  clear hg2 hg3
  go_wp2_with fail
  refine Calls.mono (check_any n _ (n * n) cap' (evenOf n xs) _ HL.out (((Ext.refl w2).alloc _).reads R2.out.reads)) ?_
  rintro e w3 ⟨rfl, hx⟩
  rw [signsFaultOf_mat HM.out HO.out]
  have X3 := Lib.hid ((X2.out.alloc _).ext hx)
  have Y3 := Lib.hid ((Blk.new w2 _ _).ext hx)
  have E23 := Lib.hid (((Ext.refl w2).alloc _).trans hx)
  clear hx k0
  have k0 := Y3.out.two
  go_wp2_with fail
  refine Calls.mono (evenTop_ok n _ (n * n) cap' (evenOf n xs) _ HL.out (E23.out.reads R2.out.reads) HM.out HO.out) ?_
  rintro e w4 ⟨ao'', cap'', rfl, hrow, hx⟩
  rw [show tab (flat n (evenCell (evenOf n xs) n)) (n * n) = evenOf n (evenOf n xs) from rfl, HEV.out] at hrow
  have X4 := Lib.hid (X3.out.ext hx)
  have Y4 := Lib.hid (Y3.out.ext hx)
  have E24 := Lib.hid (E23.out.trans hx)
  have R4 := Lib.hid (RowOf.reads hrow)
  clear hx k0 hrow
  have k0 := Y4.out.two
  have l0 := Y4.out.lt
  go_wp2_with fail
  refine Calls.mono (squares_any _ _ _ _ (n * n) (n * n) _ _ (evenOf n xs) (evenOf n xs) _ HL.out HL.out (by unfold maxLen; omega) (by unfold maxLen; omega) ((E24.out.alloc _).reads R2.out.reads) (((Ext.refl _).alloc _).reads R4.out)) ?_
  rintro e w5 ⟨rfl, hx⟩
  rw [decide_eq_true (show ((n : Int) = n ∧ evenOf n xs = evenOf n xs) from ⟨rfl, rfl⟩)]
  have X5 := Lib.hid ((X4.out.alloc _).ext hx)
  have Y5 := Lib.hid ((Y4.out.alloc _).ext hx)
  have E25 := Lib.hid ((E24.out.alloc _).trans hx)
  clear hx k0 l0
  have k0 := X5.out.two
  have k1 := Y5.out.two
  go_wp2
  go_loop [10] (fun i => ∃ j : Nat, j ≤ n ∧ i = .int .i64 j) (fun i => n - (intOf i).toNat)
  case atStart => exact ⟨0, by omega, rfl⟩
  case round =>
    obtain ⟨j, hj, rfl⟩ := hrel
    by_cases hlt : j < n
    · have hjn := Nat.mul_le_mul_right n (show j + 1 ≤ n from hlt)
      rw [Nat.succ_mul] at hjn
      have h1 := HR.out j hlt
      have c1 := (E25.out.cell hg1).trans (HG.out j (by omega))
      have c2 := (E25.out.cell hg1).trans (HG.out (j * n) (by omega))
      rw [h1.1] at c1
      rw [h1.2] at c2
      clear h1
      obtain ⟨u, hu⟩ : ∃ u, j * n = u := ⟨_, rfl⟩
      have hu' : (j : Int) * (n : Int) = u := by rw [← hu, Int.natCast_mul]
      rw [hu] at c2 hjn
      clear hu
      go_wp2
      go_round
      case rel => exact ⟨j + 1, by omega, by go_num⟩
      case measure => simp [intOf]; omega
    · go_wp2
      go_ret
      exact ⟨rfl, E2.out.trans E25.out⟩

theorem hadaEven_any (m : Int) (ao : Option Addr) (n cap : Nat) (xs : List Int) {w : World} (hx : IntsArg w ao n cap xs) (_ : -9223372036854775808 ≤ m) (_ : m ≤ 9223372036854775807) :
    Calls Try.prog 5 #[.agg #[.int .i64 m, .slice ao n cap]] w fun e w' => e = .returned (.bool true) ∧ Below w.heap.size w w' := by
  by_cases h : signsFaultOf m xs = 0
  · obtain ⟨k, rfl, hm, ho⟩ := signsFaultOf_zero h
    exact hadaEven_ok k ao n cap xs w hx.len hx.reads hm ho
  · exact hadaEven_bad m ao n cap xs w hx.len hx.reads h

end Go.Proofs.Ytkdbdlkkjkiijaa
