/- What hada.even answers at a matrix of signs. -/
import Derived.Test.YtkgdohoandfaeaaEven
import Derived.Laws.EntriesVeiled
namespace Go.Proofs.Ytkgdohoandfaeaa
open Go.RowKit

theorem enter_even2 : ∀ args w, (callFunc 27 args).run Try.prog w = .ok (.enter 27 args) w := fun _ _ => rfl

/-- The world that stands when the matrix is filled. -/
def evenWorld (w : World) (n : Nat) (ao : Option Addr) (len cap : Nat) : World :=
  (((w.alloc (.cells #[.int .i64 n, .slice ao len cap] 24)).alloc (.cells #[.int .i64 0, .slice none 0 0] 24)).alloc (.cells #[.int .i64 n] 3)).alloc
    (.cells #[.func (.func 25) #[] #[.pointer (some ⟨w.heap.size, 0, none⟩), .pointer (some ⟨w.heap.size + 1 + 1, 0, none⟩)]] 55)

theorem evenWorld_size (w : World) (n : Nat) (ao : Option Addr) (len cap : Nat) : (evenWorld w n ao len cap).heap.size = w.heap.size + 4 := by simp [evenWorld]
theorem evenWorld_below (w : World) (n : Nat) (ao : Option Addr) (len cap : Nat) : Below w.heap.size w (evenWorld w n ao len cap) :=
  ((((Below.refl _ _).alloc (Nat.le_refl _) _).alloc (by simp) _).alloc (by simp; omega) _).alloc (by simp; omega) _
theorem evenWorld_box (w : World) (n : Nat) (ao : Option Addr) (len cap : Nat) : BoxAt (evenWorld w n ao len cap) w.heap.size (.int .i64 n) (.slice ao len cap) :=
  (((BoxAt.new w _ _ _).alloc _).alloc _).alloc _
theorem evenWorld_res (w : World) (n : Nat) (ao : Option Addr) (len cap : Nat) : BoxAt (evenWorld w n ao len cap) (w.heap.size + 1) (.int .i64 0) (.slice none 0 0) := by
  have h := BoxAt.new (w.alloc (.cells #[.int .i64 n, .slice ao len cap] 24)) (.int .i64 0) (.slice none 0 0) 24
  rw [show (w.alloc (.cells #[.int .i64 n, .slice ao len cap] 24)).heap.size = w.heap.size + 1 by simp] at h
  exact (h.alloc _).alloc _
theorem evenWorld_side (w : World) (n : Nat) (ao : Option Addr) (len cap : Nat) : (evenWorld w n ao len cap).cell? ⟨w.heap.size + 1 + 1, 0, none⟩ = some (.int .i64 n) := by
  simp [evenWorld, World.cell?_alloc_at, World.cell?_alloc_old]
theorem evenWorld_fn (w : World) (n : Nat) (ao : Option Addr) (len cap : Nat) : (evenWorld w n ao len cap).cell? ⟨w.heap.size + 1 + 1 + 1, 0, none⟩ = some (.func (.func 25) #[] #[.pointer (some ⟨w.heap.size, 0, none⟩), .pointer (some ⟨w.heap.size + 1 + 1, 0, none⟩)]) := by
  simp [evenWorld, World.cell?_alloc_at]

theorem cellOn_even (w : World) (n : Nat) (ao : Option Addr) (len cap : Nat) (xs : List Int) (hl : xs.length = len) (hr : Reads w ao (ints xs)) (hm : IsMat n xs) :
    CellOn 27 #[.pointer (some ⟨w.heap.size + 1 + 1 + 1, 0, none⟩)] n (evenCell xs n) (evenWorld w n ao len cap) := by
  intro i j hi hj w' hb
  rw [evenWorld_size] at hb
  have hlen : len = n * n := by rw [← hl]; exact hm.len
  obtain ⟨b, off, rfl, hbl, hc⟩ := Reads.int hr (by rw [hm.len]; exact Nat.mul_pos hm.one hm.one)
  refine even2_any (w.heap.size + 1 + 1 + 1) w.heap.size (w.heap.size + 1 + 1) b off n len cap i j xs w' hm hlen hi hj ⟨?_, ?_, fun q hq => ?_⟩ ?_
  · rw [hb.cell (by simp)]; exact (evenWorld_box w n _ len cap).c1
  · rw [hb.cell (by simp)]; exact evenWorld_side w n _ len cap
  · rw [hb.cell (by simp; omega), (evenWorld_below w n _ len cap).cell (by simpa using hbl)]; exact hc q (by omega)
  · rw [hb.cell (by simp)]; exact evenWorld_fn w n _ len cap

set_option maxHeartbeats 1000000 in
theorem even_any (n : Nat) (ao : Option Addr) (len cap : Nat) (xs : List Int) (w : World) (hl : xs.length = len) (hr : Reads w ao (ints xs)) (hm : IsMat n xs) :
    Calls Try.prog 16 #[.agg #[.int .i64 n, .slice ao len cap]] w fun e w' =>
      ∃ ao' cap', e = .returned (.agg #[.int .i64 n, .slice ao' (n * n) cap']) ∧ RowOf 3 w' w.heap.size ao' (n * n) cap' (ints (tab (flat n (evenCell xs n)) (n * n))) ∧ Below w.heap.size w w' := by
  have HF := Lib.hid (filled_any 27 _ n (evenCell xs n) (evenWorld w n ao len cap) hm.big (cellOn_even w n ao len cap xs hl hr hm) enter_even2)
  have HSZ := Lib.hid (evenWorld_size w n ao len cap)
  have HBL := Lib.hid (evenWorld_below w n ao len cap)
  have HX := Lib.hid (evenWorld_res w n ao len cap)
  clear hl hr hm
  go_enter Try.func16, Try.ntmps16
  go_wp2_with (go_at_call 26; refine Calls.mono HF.out ?_; rintro e w1 ⟨ao', cap', rfl, hrow, hb⟩; rw [HSZ.out] at hrow hb; have HX1 := Lib.hid (HX.out.carry (hb.block (w.heap.size + 1) (by omega))); have k0 := HX1.out.c0; have k1 := HX1.out.c1; have k2 := HX1.out.f0; have k3 := HX1.out.f1; have HRW := Lib.hid hrow; have HB := Lib.hid hb; clear hrow hb)
  have HPUT := Lib.hid (HX1.out.put (.int .i64 n) (.slice ao' (n * n) cap'))
  have e0 := HPUT.out.c0
  have e1 := HPUT.out.c1
  refine bodyPost_ret (v := .agg #[.int .i64 n, .slice ao' (n * n) cap']) (by simp [results, Try.results16, go_sem, e0, e1]) rfl ⟨ao', cap', rfl, ?_, ?_⟩
  · exact ((HRW.out.beside ⟨w.heap.size + 1, 0, none⟩ (by simp) _).beside ⟨w.heap.size + 1, 1, none⟩ (by simp) _).mono (by omega)
  · exact ((HBL.out.trans (HB.out.mono (by omega))).setCell (p := ⟨w.heap.size + 1, 0, none⟩) (by simp) _).setCell (p := ⟨w.heap.size + 1, 1, none⟩) (by simp) _

end Go.Proofs.Ytkgdohoandfaeaa
