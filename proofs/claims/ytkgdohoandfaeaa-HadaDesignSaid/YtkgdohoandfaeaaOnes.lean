/- What math/bits.OnesCount answers below 256. -/
import Derived.Test.YtkgdohoandfaeaaBase
namespace Go.Proofs.Ytkgdohoandfaeaa
open Go.RowKit

/-- The ones of a number below 256. -/
def onesOf (x : Nat) : Nat := (List.range 8).foldl (fun s t => s + x / 2 ^ t % 2) 0
def ones1 (x : Int) : Int := IntKind.u64.wrap (bits .and .u64 (x / 2) 6148914691236517205 + bits .and .u64 x 6148914691236517205)
def ones2 (x : Int) : Int := IntKind.u64.wrap (bits .and .u64 (x / 4) 3689348814741910323 + bits .and .u64 x 3689348814741910323)
def ones3 (x : Int) : Int := bits .and .u64 (IntKind.u64.wrap (x / 16 + x)) 1085102592571150095
def ones4 (d x : Int) : Int := IntKind.u64.wrap (x + x / d)
def onesAll (x : Int) : Int := bits .and .i64 (wrap64 (ones4 4294967296 (ones4 65536 (ones4 256 (ones3 (ones2 (ones1 x))))))) 127
theorem ones_check : ((List.range 256).all fun x => decide (onesAll x = onesOf x)) = true := by decide +kernel
theorem ones_eq (x : Nat) (hx : x < 256) : onesAll x = onesOf x := by
  have h := ones_check
  rw [List.all_eq_true] at h
  exact of_decide_eq_true (h x (List.mem_range.2 hx))

set_option maxHeartbeats 1000000 in
theorem ones64_any (x : Nat) (w : World) (hx : x < 256) :
    Calls Try.prog 37 #[.int .u64 x] w fun e w' => e = .returned (.int .i64 (onesOf x)) ∧ w = w' := by
  have HE := Lib.hid (ones_eq x hx)
  go_enter Try.func37, Try.ntmps37
  go_wp2
  go_ret
  refine ⟨?_, rfl⟩
  rw [← HE.out]
  simp [onesAll, ones1, ones2, ones3, ones4]

set_option maxHeartbeats 1000000 in
theorem ones_any (x : Nat) (w : World) (hx : x < 256) :
    Calls Try.prog 30 #[.int .u64 x] w fun e w' => e = .returned (.int .i64 (onesOf x)) ∧ w = w' := by
  have HE := Lib.hid (ones64_any x w hx)
  go_enter Try.func30, Try.ntmps30
  go_wp2_with (go_at_call 37; refine HE.out.mono ?_; rintro e w' ⟨rfl, rfl⟩)
  go_ret
  exact ⟨rfl, rfl⟩

end Go.Proofs.Ytkgdohoandfaeaa
