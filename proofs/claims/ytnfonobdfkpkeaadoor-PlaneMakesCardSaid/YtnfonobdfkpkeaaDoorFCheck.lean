/- What field.Check answers at any field. Condition: the variable of primes holds them. -/
import Derived.Test.YtnfonobdfkpkeaaDoorFWith
namespace Go.Proofs.YtnfonobdfkpkeaaDoor
open Go.RowKit

set_option maxHeartbeats 1000000 in
theorem fieldCheck_any (p k : Int) (ao : Option Addr) (len cap : Nat) (low : List Int) (w : World) (hP : Primes w) (hl : low.length = len) (hr : Reads w ao (ints low)) :
    Calls Tryd.prog 24 #[.agg #[.int .i64 p, .int .i64 k, .slice ao len cap]] w fun e w' => e = .returned (.int .i64 (fieldFault p k low)) ∧ Ext w w' := by
  have hx0 : Ext w (w.alloc (.cells #[.int .i64 p, .int .i64 k, .slice ao len cap] 24)) := (Ext.refl w).alloc _
  have HX0 := Lib.hid hx0
  have HO := Lib.hid (open_any p k ao len cap low _ (hP.ext hx0) hl (hx0.reads hr))
  clear hP hl hr hx0
  obtain ⟨c, hc⟩ : ∃ c, fieldFault p k low = c := ⟨_, rfl⟩
  have HC := Lib.hid hc
  rw [hc]
  by_cases h0 : c = 0
  · clear hc
    go_enter Tryd.func24, Tryd.ntmps24
    go_wp2_with fail
    refine Calls.mono HO.out ?_
    rintro e w1 ⟨hoi, hx⟩
    obtain rfl := hoi.2 (by rw [HC.out]; exact h0)
    have HX := Lib.hid (HX0.out.trans hx)
    clear hx hoi
    subst h0
    go_wp2
    go_ret
    exact ⟨rfl, HX.out.alloc _⟩
  · clear hc
    go_enter Tryd.func24, Tryd.ntmps24
    go_wp2_with fail
    refine Calls.mono HO.out ?_
    rintro e w1 ⟨hoi, hx⟩
    obtain rfl := hoi.1 (by rw [HC.out]; exact h0)
    rw [HC.out]
    have HX := Lib.hid (HX0.out.trans hx)
    clear hx hoi h0
    go_wp2
    go_ret
    exact ⟨rfl, HX.out.alloc _⟩

end Go.Proofs.YtnfonobdfkpkeaaDoor
