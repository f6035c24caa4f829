/- What field.Add answers at elements of a field. Condition: the variable of primes holds them. -/
import Derived.Test.YtnfonobdfkpkeaaDoorFAdd
import Derived.Test.YtnfonobdfkpkeaaDoorFWith
namespace Go.Proofs.YtnfonobdfkpkeaaDoor
open Go.RowKit

theorem twoInts (w : World) (a b : Int) {c : Nat} (hc : c = w.heap.size) : Reads (w.alloc (.cells #[.int .i64 a, .int .i64 b] 3)) (some ⟨c, 0, none⟩) (ints [a, b]) := by
  have h := Blk.new' w #[.int .i64 a, .int .i64 b] 3 hc
  refine .inr ⟨c, 0, rfl, h.lt, fun j u hu => ?_⟩
  rw [Nat.zero_add]
  refine h.c j u ?_
  rw [← hu]
  simp [ints]

set_option maxHeartbeats 2000000 in
theorem fieldAdd_ok (p k a b : Nat) (ao : Option Addr) (len cap : Nat) (low : List Int) (w : World) (hP : Primes w) (hF : IsField p k low) (hl : low.length = len) (hr : Reads w ao (ints low)) (ha : a < p ^ k) (hb : b < p ^ k) :
    Calls Tryd.prog 25 #[.agg #[.int .i64 p, .int .i64 k, .slice ao len cap], .int .i64 a, .int .i64 b] w fun e w' => e = .returned (.tuple #[.int .i64 (addF p k a b : Nat), .int .i64 0]) ∧ Ext w w' := by
  obtain ⟨hz, ho⟩ := hF.fault
  have h64 := hF.big
  have hwf : withFault p k low [(a : Int), (b : Int)] = 0 := by
    obtain ⟨q, hq⟩ : ∃ q, p ^ k = q := ⟨_, rfl⟩
    rw [hq] at ha hb ho
    rw [withFault_ok hz, ho, if_neg]
    simp [badDg]
    omega
  have HX0 : Hid (Ext w ((w.alloc (.cells #[.int .i64 p, .int .i64 k, .slice ao len cap] 24)).alloc (.cells #[.int .i64 a, .int .i64 b] 3))) := ((Ext.refl w).alloc _).alloc _
  have HW := Lib.hid (with_any p k ao len cap low [(a : Int), (b : Int)] (some ⟨w.heap.size + 1, 0, none⟩) 2 2 _ (hP.ext HX0.out) hl (HX0.out.reads hr) rfl (by decide) (twoInts (w.alloc (.cells #[.int .i64 p, .int .i64 k, .slice ao len cap] 24)) (a : Int) (b : Int) (by rw [World.size_alloc])))
  have HWF := Lib.hid hwf
  have HOF := Lib.hid ho
  have HM : Hid (∀ w', Ext w w' → _) := fun w' (hx : Ext w w') => add_any p k a b (p ^ k : Nat) ao len cap w' hF.p2 hF.p61 hF.k1 hF.k6 h64 (by omega) (by omega)
  obtain ⟨v, hv⟩ : ∃ v, addF p k a b = v := ⟨_, rfl⟩
  rw [hv] at HM ⊢
  obtain ⟨q, hq⟩ : ∃ q, p ^ k = q := ⟨_, rfl⟩
  rw [hq] at HM HOF
  clear hP hF hl hr ha hb hz ho h64 hwf hv hq
  go_enter Tryd.func25, Tryd.ntmps25
  go_wp2_with fail
  refine Calls.mono HW.out ?_
  rintro e w1 ⟨hwi, hx⟩
  obtain rfl := hwi.2 HWF.out
  rw [HOF.out]
  have HX1 := Lib.hid ((HX0.out.trans hx).alloc (.cells #[.int .i64 p, .int .i64 k, .slice ao len cap, .int .i64 q] 55))
  have HB : Hid (Blk (w1.alloc (.cells #[.int .i64 p, .int .i64 k, .slice ao len cap, .int .i64 q] 55)) w1.heap.size #[.int .i64 p, .int .i64 k, .slice ao len cap, .int .i64 q] 55) := Blk.new _ _ _
  clear hx hwi
  go_wp2_with fail
  refine Calls.mono (HM.out _ HX1.out) ?_
  rintro e w2 ⟨rfl, hx⟩
  have HX2 := Lib.hid (HX1.out.trans hx)
  clear hx
  go_wp2
  go_ret2
  exact ⟨rfl, HX2.out⟩

end Go.Proofs.YtnfonobdfkpkeaaDoor
