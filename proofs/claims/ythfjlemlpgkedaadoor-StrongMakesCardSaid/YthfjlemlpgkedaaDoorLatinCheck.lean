/- What latin.Check answers at any square. -/
import Derived.Test.YthfjlemlpgkedaaDoorTwice
namespace Go.Proofs.YthfjlemlpgkedaaDoor
open Go.RowKit

/-- Two boxes: a square, and its side. -/
theorem ext_box2 (w : World) (c d : Array Value) (t u : TypeId) : Ext w ((w.alloc (.cells c t)).alloc (.cells d u)) := ((Ext.refl _).alloc _).alloc _

set_option maxHeartbeats 400000 in
theorem latinCheck_side (m : Int) (ao : Option Addr) (len cap : Nat) (w : World) (hm : m < 1 ∨ 8 < m) :
    Calls Tryd.prog 24 #[.agg #[.int .i64 m, .slice ao len cap]] w fun e w' => e = .returned (.int .i64 1) ∧ Ext w w' := by
  have HS := Lib.hid (fun w => side_any m w)
  rw [decide_eq_true hm] at HS
  clear hm
  go_enter Tryd.func24, Tryd.ntmps24
  go_wp2_with (go_at_call 37; refine Calls.mono (HS.out _) ?_; rintro e w1 ⟨rfl, rfl⟩)
  go_ret
  exact ⟨rfl, ext_box2 _ _ _ _ _⟩

set_option maxHeartbeats 400000 in
theorem latinCheck_shape (n : Nat) (ao : Option Addr) (len cap : Nat) (w : World) (h1 : 1 ≤ n) (h8 : n ≤ 8) (hl : len ≠ n * n) :
    Calls Tryd.prog 24 #[.agg #[.int .i64 n, .slice ao len cap]] w fun e w' => e = .returned (.int .i64 2) ∧ Ext w w' := by
  have HS := Lib.hid (fun w => side_any n w)
  rw [decide_eq_false (by omega)] at HS
  have hm1 : 0 ≤ (n : Int) * n := Int.mul_nonneg (by omega) (by omega)
  have hm2 : (n : Int) * n ≤ 8 * 8 := Int.mul_le_mul (by omega) (by omega) (by omega) (by omega)
  have b3 : ((len : Int) != (n : Int) * n) = true := by rw [bne_iff_ne, ← Int.natCast_mul]; omega
  clear hl
  go_enter Tryd.func24, Tryd.ntmps24
  go_wp2_with (go_at_call 37; refine Calls.mono (HS.out _) ?_; rintro e w1 ⟨rfl, rfl⟩)
  go_ret
  exact ⟨rfl, ext_box2 _ _ _ _ _⟩

set_option maxHeartbeats 1000000 in
theorem latinCheck_cells (n : Nat) (ao : Option Addr) (len cap : Nat) (xs : List Int) (w : World) (h1 : 1 ≤ n) (h8 : n ≤ 8) (hl : xs.length = len) (hln : len = n * n) (hr : Reads w ao (ints xs)) (hv : xs.any (badCell n) = true) :
    Calls Tryd.prog 24 #[.agg #[.int .i64 n, .slice ao len cap]] w fun e w' => e = .returned (.int .i64 1) ∧ Ext w w' := by
  have HS := Lib.hid (fun w => side_any n w)
  rw [decide_eq_false (by omega)] at HS
  have hm1 : 0 ≤ (n : Int) * n := Int.mul_nonneg (by omega) (by omega)
  have hm2 : (n : Int) * n ≤ 8 * 8 := Int.mul_le_mul (by omega) (by omega) (by omega) (by omega)
  have b3 : ((len : Int) != (n : Int) * n) = false := by rw [hln, Int.natCast_mul]; simp
  have h64 : len ≤ 64 := by rw [hln]; exact Nat.mul_le_mul h8 h8
  have HE : Hid (Ext w ((w.alloc (.cells #[.int .i64 n, .slice ao len cap] 26)).alloc (.cells #[.int .i64 n] 3))) := ext_box2 _ _ _ _ _
  have HC := Lib.hid (containsFunc_any 38 #[.pointer (some ⟨w.heap.size + 1, 0, none⟩)] ao len cap xs (badCell n) _ hl (by unfold maxLen; omega) (HE.out.reads hr) (cell_pred n xs (w.heap.size + 1) _ (Blk.new' _ _ _ (by simp))) (fun _ _ => rfl))
  rw [hv] at HC
  clear hl hln hr hv
  go_enter Tryd.func24, Tryd.ntmps24
  go_wp2_with (first
    | (go_at_call 37; refine Calls.mono (HS.out _) ?_; rintro e w1 ⟨rfl, rfl⟩)
    | (go_at_call 15; refine HC.out.mono ?_; rintro e w1 ⟨rfl, hd⟩; have HD := Lib.hid hd; clear hd))
  go_ret
  exact ⟨rfl, HE.out.drawn HD.out⟩

open Classical in
set_option maxHeartbeats 1000000 in
theorem latinCheck_twice (n : Nat) (ao : Option Addr) (len cap : Nat) (xs : List Int) (w : World) (h1 : 1 ≤ n) (h8 : n ≤ 8) (hl : xs.length = len) (hln : len = n * n) (hr : Reads w ao (ints xs)) (hv : xs.any (badCell n) = false) :
    Calls Tryd.prog 24 #[.agg #[.int .i64 n, .slice ao len cap]] w fun e w' => e = .returned (.int .i64 (if Once n xs len then 0 else 6)) ∧ Ext w w' := by
  have HS := Lib.hid (fun w => side_any n w)
  rw [decide_eq_false (by omega)] at HS
  have hm1 : 0 ≤ (n : Int) * n := Int.mul_nonneg (by omega) (by omega)
  have hm2 : (n : Int) * n ≤ 8 * 8 := Int.mul_le_mul (by omega) (by omega) (by omega) (by omega)
  have b3 : ((len : Int) != (n : Int) * n) = false := by rw [hln, Int.natCast_mul]; simp
  have h64 : len ≤ 64 := by rw [hln]; exact Nat.mul_le_mul h8 h8
  have HE : Hid (Ext w ((w.alloc (.cells #[.int .i64 n, .slice ao len cap] 26)).alloc (.cells #[.int .i64 n] 3))) := ext_box2 _ _ _ _ _
  have HB1 : Hid (Blk ((w.alloc (.cells #[.int .i64 n, .slice ao len cap] 26)).alloc (.cells #[.int .i64 n] 3)) w.heap.size #[.int .i64 n, .slice ao len cap] 26) := (Blk.new _ _ _).alloc _
  have HB2 : Hid (Blk ((w.alloc (.cells #[.int .i64 n, .slice ao len cap] 26)).alloc (.cells #[.int .i64 n] 3)) (w.heap.size + 1) #[.int .i64 n] 3) := Blk.new' _ _ _ (by simp)
  have HC := Lib.hid (containsFunc_any 38 #[.pointer (some ⟨w.heap.size + 1, 0, none⟩)] ao len cap xs (badCell n) _ hl (by unfold maxLen; omega) (HE.out.reads hr) (cell_pred n xs (w.heap.size + 1) _ (Blk.new' _ _ _ (by simp))) (fun _ _ => rfl))
  rw [hv] at HC
  have HT : Hid (∀ w', Ext w w' → _) := fun w' hx => twice_any n ao len cap xs w' h1 h8 hl hln (good_cells (by rw [hv]; simp)) (hx.reads hr)
  have HV : Hid ((if Once n xs len then (0 : Int) else 6) = if decide (¬ Once n xs len) then 6 else 0) := by
    show _ = _
    by_cases h : Once n xs len
    · rw [if_pos h, if_neg (by simp [h])]
    · rw [if_neg h, if_pos (by simp [h])]
  rw [HV.out]
  obtain ⟨v, hv2⟩ : ∃ v, decide (¬ Once n xs len) = v := ⟨_, rfl⟩
  rw [hv2] at HT ⊢
  clear hl hln hr hv hv2 HV
  cases v
  all_goals
    go_enter Tryd.func24, Tryd.ntmps24
    go_wp2_with (first
      | (go_at_call 37; refine Calls.mono (HS.out _) ?_; rintro e w1 ⟨rfl, rfl⟩)
      | (go_at_call 15; refine HC.out.mono ?_; rintro e w1 ⟨rfl, hd⟩; have k1 := (HB1.out.drawn hd).two; have k2 := (HB2.out.drawn hd).one; have HX := Lib.hid (HE.out.drawn hd); have HTT := Lib.hid (HT.out w1 HX.out); clear hd)
      | (go_at_call 39; refine HTT.out.mono ?_; rintro e w2 ⟨rfl, hx⟩; have HX2 := Lib.hid hx; clear hx))
    go_ret
    exact ⟨rfl, HX.out.trans HX2.out⟩

theorem latinCheck_any (m : Int) (ao : Option Addr) (len cap : Nat) (xs : List Int) (w : World) (hl : xs.length = len) (hr : Reads w ao (ints xs)) :
    Calls Tryd.prog 24 #[.agg #[.int .i64 m, .slice ao len cap]] w fun e w' => e = .returned (.int .i64 (latinFaultOf m xs)) ∧ Ext w w' := by
  unfold latinFaultOf
  by_cases hm : m < 1 ∨ 8 < m
  · rw [if_pos hm]; exact latinCheck_side m ao len cap w hm
  · rw [if_neg hm]
    obtain ⟨n, rfl⟩ : ∃ n : Nat, m = n := ⟨m.toNat, by omega⟩
    rw [Int.toNat_natCast]
    by_cases hs : xs.length ≠ n * n
    · rw [if_pos hs]; exact latinCheck_shape n ao len cap w (by omega) (by omega) (by rw [← hl]; exact hs)
    · rw [if_neg hs]
      have hs' : xs.length = n * n := Decidable.not_not.1 hs
      by_cases hv : xs.any (badCell n) = true
      · rw [if_pos hv]; exact latinCheck_cells n ao len cap xs w (by omega) (by omega) hl (by omega) hr hv
      · rw [if_neg hv]
        rw [show n * n = len by omega]
        exact latinCheck_twice n ao len cap xs w (by omega) (by omega) hl (by omega) hr (by simpa using hv)

end Go.Proofs.YthfjlemlpgkedaaDoor
