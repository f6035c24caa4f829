/- What parterreref3.timesUp answers. Conditions: both numbers from -1 to 10^18. -/
import Derived.Test.YtfggmgfobcgadaaRows
import Derived.WalkKit
import Derived.Lib.Hide
import Derived.WalkSpells
import Derived.WalkLawsBesides
namespace Go.Proofs.Ytfggmgfobcgadaa
open Go.RowKit

/-- A product of two numbers up to 10^18 (or -1). -/
def tUp (a b : Int) : Int := if a < 0 ∨ b < 0 then -1 else if 0 < b ∧ 1000000000000000000 / b < a then -1 else a * b

set_option maxHeartbeats 400000 in
theorem timesUp_any (a b : Int) (w : World) (ha : -1 ≤ a) (ha' : a ≤ 1000000000000000000) (hb : -1 ≤ b) (hb' : b ≤ 1000000000000000000) :
    Calls Try.prog 25 #[.int .i64 a, .int .i64 b] w fun e w' => e = .returned (.int .i64 (tUp a b)) ∧ w = w' := by
  by_cases h1 : a < 0
  · have HT := Lib.hid (show tUp a b = -1 by simp [tUp, h1])
    go_enter Try.func25, Try.ntmps25
    go_wp2
    go_ret
    exact ⟨by rw [HT.out]; rfl, rfl⟩
  · have h1' : 0 ≤ a := by omega
    by_cases h2 : b < 0
    · have HT := Lib.hid (show tUp a b = -1 by simp [tUp, h2])
      go_enter Try.func25, Try.ntmps25
      go_wp2
      go_ret
      exact ⟨by rw [HT.out]; rfl, rfl⟩
    · have h2' : 0 ≤ b := by omega
      by_cases h3 : 0 < b
      · by_cases h4 : 1000000000000000000 / b < a
        · have HT := Lib.hid (show tUp a b = -1 by simp [tUp, h3, h4])
          go_enter Try.func25, Try.ntmps25
          go_wp2
          go_ret
          exact ⟨by rw [HT.out]; rfl, rfl⟩
        · have HT := Lib.hid (show tUp a b = a * b by simp [tUp, h1, h2, h4])
          have hm : a * b ≤ 1000000000000000000 := by
            have h5 : a ≤ 1000000000000000000 / b := by omega
            have h6 := Int.mul_le_mul_of_nonneg_right h5 h2'
            have h7 := Int.ediv_mul_le 1000000000000000000 (b := b) (by omega)
            omega
          have hm0 : 0 ≤ a * b := Int.mul_nonneg h1' h2'
          go_enter Try.func25, Try.ntmps25
          go_wp2
          go_ret
          exact ⟨by rw [HT.out]; simp, rfl⟩
      · obtain rfl : b = 0 := by omega
        have HT := Lib.hid (show tUp a 0 = 0 by simp [tUp, h1])
        go_enter Try.func25, Try.ntmps25
        go_wp2
        go_ret
        exact ⟨by rw [HT.out]; simp, rfl⟩

end Go.Proofs.Ytfggmgfobcgadaa
