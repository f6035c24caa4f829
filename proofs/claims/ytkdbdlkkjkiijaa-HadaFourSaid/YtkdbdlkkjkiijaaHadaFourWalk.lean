/- What HadaFour answers, where the side and the excess are as the law says. -/
import Derived.Test.YtkdbdlkkjkiijaaHadaFact
namespace Go.Proofs.Ytkdbdlkkjkiijaa
open Go.RowKit

set_option maxHeartbeats 400000 in
theorem hadaFour_bad (m : Int) (ao : Option Addr) (len cap : Nat) (xs : List Int) (w : World) (hl : xs.length = len) (hr : Reads w ao (ints xs)) (hbad : signsFaultOf m xs ≠ 0) :
    Calls Try.prog 4 #[.agg #[.int .i64 m, .slice ao len cap]] w fun e w' => e = .returned (.bool true) ∧ Below w.heap.size w w' := by
  have hbel : Below w.heap.size w (w.alloc (.cells #[.int .i64 m, .slice ao len cap] 24)) := (Below.refl _ _).alloc (Nat.le_refl _) _
  have HB := Lib.hid hbel
  have HX : Hid (BoxAt (w.alloc (.cells #[.int .i64 m, .slice ao len cap] 24)) w.heap.size (.int .i64 m) (.slice ao len cap)) := BoxAt.new _ _ _ _
  have HR := Lib.hid hr
  obtain ⟨f, hf⟩ : ∃ f, signsFaultOf m xs = f := ⟨_, rfl⟩
  have HFF := Lib.hid hf
  rw [hf] at hbad
  have b0 : (f != 0) = true := by rw [bne_iff_ne]; exact hbad
  have HL := Lib.hid hl
  clear hbel hr hf hbad hl
  go_enter Try.func4, Try.ntmps4
  go_wp2_with (first
    | (go_at_call 18; refine (hadaFact_any _).mono ?_; rintro e w1 ⟨rfl, hb⟩; have HB1 := Lib.hid hb; have k0 := (HX.out.carry (hb.block w.heap.size (by simp))).c0; have k1 := (HX.out.carry (hb.block w.heap.size (by simp))).c1; clear hb)
    | (go_at_call 10; refine (check_any m ao len cap xs _ HL.out (HR.out.below (HB.out.trans (HB1.out.mono (by simp))) (Nat.le_refl _))).mono ?_; rintro e w2 ⟨rfl, hb⟩; have HB2 := Lib.hid hb; clear hb; rw [HFF.out]))
  go_ret
  exact ⟨rfl, (HB.out.trans (HB1.out.mono (by simp))).trans (HB2.out.mono (by have := HB1.out.size; simp at this; omega))⟩

set_option maxHeartbeats 1000000 in
theorem hadaFour_ok (n : Nat) (ao : Option Addr) (len cap : Nat) (xs : List Int) (w : World) (hl : xs.length = len) (hr : Reads w ao (ints xs)) (hm : IsMat n xs) (ho : Orth n xs)
    (hside : n = 1 ∨ n = 2 ∨ n % 4 = 0) (hbest : sumTo xs len * sumTo xs len ≤ (n : Int) * n * n) :
    Calls Try.prog 4 #[.agg #[.int .i64 n, .slice ao len cap]] w fun e w' => e = .returned (.bool true) ∧ Below w.heap.size w w' := by
  have hbel : Below w.heap.size w (w.alloc (.cells #[.int .i64 n, .slice ao len cap] 24)) := (Below.refl _ _).alloc (Nat.le_refl _) _
  have HB := Lib.hid hbel
  have HX : Hid (BoxAt (w.alloc (.cells #[.int .i64 n, .slice ao len cap] 24)) w.heap.size (.int .i64 n) (.slice ao len cap)) := BoxAt.new _ _ _ _
  have HR := Lib.hid hr
  have hsb := sumTo_bound hm len (by have := hm.len; omega)
  have hq := sq_bound hm.big
  have hlen : len ≤ 576 := by have := hm.len; omega
  have HZ := Lib.hid (signsFaultOf_mat hm ho)
  have HM := Lib.hid hm
  have HO := Lib.hid ho
  have HL := Lib.hid hl
  obtain ⟨s, hs⟩ : ∃ s, sumTo xs len = s := ⟨_, rfl⟩
  have HSE := Lib.hid hs
  rw [hs] at hsb hbest
  have n1 : 1 ≤ n := hm.one
  have n24 : n ≤ 24 := hm.big
  have p1 : 0 ≤ (n : Int) * n := Int.mul_nonneg (by omega) (by omega)
  have p2 : (n : Int) * n ≤ 24 * 24 := Int.mul_le_mul (by omega) (by omega) (by omega) (by omega)
  have p3 : 0 ≤ (n : Int) * n * n := Int.mul_nonneg p1 (by omega)
  have p4 : (n : Int) * n * n ≤ 24 * 24 * 24 := Int.mul_le_mul p2 (by omega) (by omega) (by omega)
  have p5 : 0 ≤ s * s := by
    rcases Int.le_total 0 s with h | h
    · exact Int.mul_nonneg h h
    · exact Int.mul_nonneg_of_nonpos_of_nonpos h h
  have p6 : s * s ≤ 24 * 24 * 24 := by omega
  have hle : decide (s * s ≤ (n : Int) * n * n) = true := decide_eq_true hbest
  have HBEST := Lib.hid hbest
  clear hbel hr hl hm ho hs hbest hsb hq
  rcases (show n = 1 ∨ n = 2 ∨ (n ≠ 1 ∧ n ≠ 2 ∧ n % 4 = 0) by omega) with h1 | h2 | ⟨h1, h2, h4⟩
  · have b1 : ((n : Int) != 1) = false := by rw [bne_eq_false_iff_eq]; omega
    clear h1 hside
    go_enter Try.func4, Try.ntmps4
    go_wp2_with (first
      | (go_at_call 18; refine (hadaFact_any _).mono ?_; rintro e w1 ⟨rfl, hb⟩; have HB1 := Lib.hid hb; have HX1 := Lib.hid (HX.out.carry (hb.block w.heap.size (by simp))); have k0 := HX1.out.c0; have k1 := HX1.out.c1; clear hb)
      | (go_at_call 10; refine (check_any n ao len cap xs _ HL.out (HR.out.below (HB.out.trans (HB1.out.mono (by simp))) (Nat.le_refl _))).mono ?_; rintro e w2 ⟨rfl, hb⟩; have HB2 := Lib.hid hb; have k2 := (HX1.out.carry (hb.block w.heap.size HX1.out.lt)).c0; have k3 := (HX1.out.carry (hb.block w.heap.size HX1.out.lt)).c1; clear hb; rw [HZ.out])
      | (go_at_call 12; refine (excess_ok n ao len cap xs _ HL.out ((HR.out.below (HB.out.trans (HB1.out.mono (by simp))) (Nat.le_refl _)).below HB2.out (Nat.le_refl _)) HM.out HO.out).mono ?_; rintro e w3 ⟨rfl, hb⟩; have HB3 := Lib.hid hb; clear hb; rw [HSE.out]))
    go_ret
    exact ⟨by simp, ((HB.out.trans (HB1.out.mono (by simp))).trans (HB2.out.mono (by have := HB1.out.size; simp at this; omega))).trans (HB3.out.mono (by have := HB1.out.size; have := HB2.out.size; simp at *; omega))⟩
  · have b1 : ((n : Int) != 1) = true := by rw [bne_iff_ne]; omega
    have b2 : ((n : Int) != 2) = false := by rw [bne_eq_false_iff_eq]; omega
    clear h2 hside
    go_enter Try.func4, Try.ntmps4
    go_wp2_with (first
      | (go_at_call 18; refine (hadaFact_any _).mono ?_; rintro e w1 ⟨rfl, hb⟩; have HB1 := Lib.hid hb; have HX1 := Lib.hid (HX.out.carry (hb.block w.heap.size (by simp))); have k0 := HX1.out.c0; have k1 := HX1.out.c1; clear hb)
      | (go_at_call 10; refine (check_any n ao len cap xs _ HL.out (HR.out.below (HB.out.trans (HB1.out.mono (by simp))) (Nat.le_refl _))).mono ?_; rintro e w2 ⟨rfl, hb⟩; have HB2 := Lib.hid hb; have k2 := (HX1.out.carry (hb.block w.heap.size HX1.out.lt)).c0; have k3 := (HX1.out.carry (hb.block w.heap.size HX1.out.lt)).c1; clear hb; rw [HZ.out])
      | (go_at_call 12; refine (excess_ok n ao len cap xs _ HL.out ((HR.out.below (HB.out.trans (HB1.out.mono (by simp))) (Nat.le_refl _)).below HB2.out (Nat.le_refl _)) HM.out HO.out).mono ?_; rintro e w3 ⟨rfl, hb⟩; have HB3 := Lib.hid hb; clear hb; rw [HSE.out]))
    go_ret
    exact ⟨by simp, ((HB.out.trans (HB1.out.mono (by simp))).trans (HB2.out.mono (by have := HB1.out.size; simp at this; omega))).trans (HB3.out.mono (by have := HB1.out.size; have := HB2.out.size; simp at *; omega))⟩
  · have b1 : ((n : Int) != 1) = true := by rw [bne_iff_ne]; omega
    have b2 : ((n : Int) != 2) = true := by rw [bne_iff_ne]; omega
    have b3 : ((n : Int) % 4 != 0) = false := by rw [bne_eq_false_iff_eq]; omega
    clear h1 h2 h4 hside
    go_enter Try.func4, Try.ntmps4
    go_wp2_with (first
      | (go_at_call 18; refine (hadaFact_any _).mono ?_; rintro e w1 ⟨rfl, hb⟩; have HB1 := Lib.hid hb; have HX1 := Lib.hid (HX.out.carry (hb.block w.heap.size (by simp))); have k0 := HX1.out.c0; have k1 := HX1.out.c1; clear hb)
      | (go_at_call 10; refine (check_any n ao len cap xs _ HL.out (HR.out.below (HB.out.trans (HB1.out.mono (by simp))) (Nat.le_refl _))).mono ?_; rintro e w2 ⟨rfl, hb⟩; have HB2 := Lib.hid hb; have k2 := (HX1.out.carry (hb.block w.heap.size HX1.out.lt)).c0; have k3 := (HX1.out.carry (hb.block w.heap.size HX1.out.lt)).c1; clear hb; rw [HZ.out])
      | (go_at_call 12; refine (excess_ok n ao len cap xs _ HL.out ((HR.out.below (HB.out.trans (HB1.out.mono (by simp))) (Nat.le_refl _)).below HB2.out (Nat.le_refl _)) HM.out HO.out).mono ?_; rintro e w3 ⟨rfl, hb⟩; have HB3 := Lib.hid hb; clear hb; rw [HSE.out]))
    go_ret
    exact ⟨by simp, ((HB.out.trans (HB1.out.mono (by simp))).trans (HB2.out.mono (by have := HB1.out.size; simp at this; omega))).trans (HB3.out.mono (by have := HB1.out.size; have := HB2.out.size; simp at *; omega))⟩

end Go.Proofs.Ytkdbdlkkjkiijaa
