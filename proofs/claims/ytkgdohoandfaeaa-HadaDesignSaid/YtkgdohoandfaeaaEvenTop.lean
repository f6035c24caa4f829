/- What hada.Even answers. -/
import Derived.Test.YtkgdohoandfaeaaEvenAll
namespace Go.Proofs.Ytkgdohoandfaeaa
open Go.RowKit

/-- A boxed square and a new cell for the result. -/
def twoBoxes (w : World) (m : Int) (ao : Option Addr) (len cap : Nat) : World :=
  (w.alloc (.cells #[.int .i64 m, .slice ao len cap] 24)).alloc (.cells #[.int .i64 0, .slice none 0 0] 24)
theorem twoBoxes_size (w : World) (m : Int) (ao : Option Addr) (len cap : Nat) : (twoBoxes w m ao len cap).heap.size = w.heap.size + 2 := by simp [twoBoxes]
theorem twoBoxes_below (w : World) (m : Int) (ao : Option Addr) (len cap : Nat) : Below w.heap.size w (twoBoxes w m ao len cap) :=
  ((Below.refl _ _).alloc (Nat.le_refl _) _).alloc (by simp) _
theorem twoBoxes_box (w : World) (m : Int) (ao : Option Addr) (len cap : Nat) : BoxAt (twoBoxes w m ao len cap) w.heap.size (.int .i64 m) (.slice ao len cap) := (BoxAt.new w _ _ _).alloc _
theorem twoBoxes_res (w : World) (m : Int) (ao : Option Addr) (len cap : Nat) : BoxAt (twoBoxes w m ao len cap) (w.heap.size + 1) (.int .i64 0) (.slice none 0 0) := by
  have h := BoxAt.new (w.alloc (.cells #[.int .i64 m, .slice ao len cap] 24)) (.int .i64 0) (.slice none 0 0) 24
  rwa [show (w.alloc (.cells #[.int .i64 m, .slice ao len cap] 24)).heap.size = w.heap.size + 1 by simp] at h

set_option maxHeartbeats 1000000 in
theorem evenTop_bad (m : Int) (ao : Option Addr) (len cap : Nat) (xs : List Int) (w : World) (hl : xs.length = len) (hr : Reads w ao (ints xs)) (hbad : signsFaultOf m xs ≠ 0) :
    Calls Try.prog 7 #[.agg #[.int .i64 m, .slice ao len cap]] w fun e w' =>
      e = .returned (.tuple #[.agg #[.int .i64 0, .slice none 0 0], .int .i64 (signsFaultOf m xs)]) ∧ Below w.heap.size w w' := by
  have HC := Lib.hid (check_any m ao len cap xs (twoBoxes w m ao len cap) hl (hr.below (twoBoxes_below w m ao len cap) (Nat.le_refl _)))
  have HSZ := Lib.hid (twoBoxes_size w m ao len cap)
  have HBL := Lib.hid (twoBoxes_below w m ao len cap)
  have HX := Lib.hid (twoBoxes_res w m ao len cap)
  obtain ⟨f, hf⟩ : ∃ f, signsFaultOf m xs = f := ⟨_, rfl⟩
  rw [hf] at HC hbad ⊢
  have b0 : (f != 0) = true := by rw [bne_iff_ne]; exact hbad
  clear hl hr hf hbad
  go_enter Try.func7, Try.ntmps7
  go_wp2_with (go_at_call 6; refine Calls.mono HC.out ?_; rintro e w1 ⟨rfl, hb⟩; rw [HSZ.out] at hb; have HX1 := Lib.hid (HX.out.carry (hb.block (w.heap.size + 1) (by omega))); have k0 := HX1.out.c0; have k1 := HX1.out.c1; have k2 := HX1.out.f0; have k3 := HX1.out.f1; have HB := Lib.hid hb; clear hb)
  have HPUT := Lib.hid (HX1.out.put (.int .i64 0) (.slice none 0 0))
  have e0 := HPUT.out.c0
  have e1 := HPUT.out.c1
  refine bodyPost_ret (v := .tuple #[.agg #[.int .i64 0, .slice none 0 0], .int .i64 f]) (by simp [results, Try.results7, go_sem, e0, e1]) rfl ⟨rfl, ?_⟩
  exact ((HBL.out.trans (HB.out.mono (by omega))).setCell (p := ⟨w.heap.size + 1, 0, none⟩) (by simp) _).setCell (p := ⟨w.heap.size + 1, 1, none⟩) (by simp) _

set_option maxHeartbeats 1000000 in
theorem evenTop_ok (n : Nat) (ao : Option Addr) (len cap : Nat) (xs : List Int) (w : World) (hl : xs.length = len) (hr : Reads w ao (ints xs)) (hm : IsMat n xs) (ho : Orth n xs) :
    Calls Try.prog 7 #[.agg #[.int .i64 n, .slice ao len cap]] w fun e w' =>
      ∃ ao' cap', e = .returned (.tuple #[.agg #[.int .i64 n, .slice ao' (n * n) cap'], .int .i64 0]) ∧ RowOf 3 w' w.heap.size ao' (n * n) cap' (ints (tab (flat n (evenCell xs n)) (n * n))) ∧ Below w.heap.size w w' := by
  have hc := check_any n ao len cap xs (twoBoxes w n ao len cap) hl (hr.below (twoBoxes_below w n ao len cap) (Nat.le_refl _))
  rw [signsFaultOf_mat hm ho] at hc
  have HC := Lib.hid hc
  have HE : Hid (∀ w1, Below w.heap.size w w1 → _) := fun w1 (hb : Below w.heap.size w w1) => even_any n ao len cap xs w1 hl (hr.below hb (Nat.le_refl _)) hm
  have HSZ := Lib.hid (twoBoxes_size w n ao len cap)
  have HBL := Lib.hid (twoBoxes_below w n ao len cap)
  have HX := Lib.hid (twoBoxes_res w n ao len cap)
  have HX0 := Lib.hid (twoBoxes_box w n ao len cap)
  clear hl hr hc hm ho
  go_enter Try.func7, Try.ntmps7
  go_wp2_with (first
    | (go_at_call 6; refine Calls.mono HC.out ?_; rintro e w1 ⟨rfl, hb⟩; rw [HSZ.out] at hb; have HX1 := Lib.hid (HX.out.carry (hb.block (w.heap.size + 1) (by omega))); have HX2 := Lib.hid (HX0.out.carry (hb.block w.heap.size (by omega))); have k0 := HX2.out.c0; have k1 := HX2.out.c1; have HB := Lib.hid hb; clear hb)
    | (go_at_call 16; refine Calls.mono (HE.out _ (HBL.out.trans (HB.out.mono (by omega)))) ?_; rintro e w2 ⟨ao', cap', rfl, hrow, hb⟩; have HX3 := Lib.hid (HX1.out.carry (hb.block (w.heap.size + 1) (by have := HB.out.size; have := HSZ.out; omega))); have k2 := HX3.out.c0; have k3 := HX3.out.c1; have k4 := HX3.out.f0; have k5 := HX3.out.f1; have HRW := Lib.hid hrow; have HB2 := Lib.hid hb; clear hrow hb))
  have hs1 := HB.out.size
  have hs2 := HSZ.out
  have HPUT := Lib.hid (HX3.out.put (.int .i64 n) (.slice ao' (n * n) cap'))
  have e0 := HPUT.out.c0
  have e1 := HPUT.out.c1
  refine bodyPost_ret (v := .tuple #[.agg #[.int .i64 n, .slice ao' (n * n) cap'], .int .i64 0]) (by simp [results, Try.results7, go_sem, e0, e1]) rfl ⟨ao', cap', rfl, ?_, ?_⟩
  · exact ((HRW.out.beside ⟨w.heap.size + 1, 0, none⟩ (by simp; omega) _).beside ⟨w.heap.size + 1, 1, none⟩ (by simp; omega) _).mono (by omega)
  · exact (((HBL.out.trans (HB.out.mono (by omega))).trans (HB2.out.mono (by omega))).setCell (p := ⟨w.heap.size + 1, 0, none⟩) (by simp) _).setCell (p := ⟨w.heap.size + 1, 1, none⟩) (by simp) _

end Go.Proofs.Ytkgdohoandfaeaa
