/- What strong.Other answers, and what strong.Numbers and strong.Other answer where the graph is none. -/
import Derived.Test.YtllfccfpoigigaaGraphCheck
import Derived.Test.YtllfccfpoigigaaJoined
namespace Go.Proofs.Ytllfccfpoigigaa
open Go.RowKit

/-- What is not joined. -/
def notJoined (xs : List Int) (n i j : Nat) : Bool := nth xs (i * n + j) == 0

set_option maxHeartbeats 1000000 in
theorem other_cell (n len b off cap i j r : Nat) (xs : List Int) (w : World) (hi : i < n) (hj : j < n) (ht : TabAt w n len b off xs) (hb : Blk w r #[.int .i64 n, .slice (some ⟨b, off, none⟩) len cap] 30) :
    Calls Try.prog 23 #[.int .i64 i, .int .i64 j, .pointer (some ⟨r, 0, none⟩)] w fun e w' => e = .returned (.bool (notJoined xs n i j)) ∧ Ext w w' := by
  have h24 := ht.tab.big
  have hq := sq_bound h24
  rw [← ht.eq] at hq
  have p1 := place_lt hi hj
  rw [← ht.eq] at p1
  have c1 := ht.cells _ p1
  obtain ⟨u, hu⟩ : ∃ u, i * n = u := ⟨_, rfl⟩
  have hu' : (i : Int) * (n : Int) = u := by rw [← hu, Int.natCast_mul]
  unfold notJoined
  rw [hu] at p1 c1 ⊢
  obtain ⟨x, hx⟩ : ∃ x, nth xs (u + j) = x := ⟨_, rfl⟩
  rw [hx] at c1 ⊢
  obtain ⟨k0, k1⟩ := hb.two
  clear hu hx ht hb
  go_enter Try.func23, Try.ntmps23
  go_wp2
  go_ret
  exact ⟨rfl, Ext.refl _⟩

set_option maxHeartbeats 1000000 in
theorem other_ok (n : Nat) (ao : Option Addr) (len cap : Nat) (xs : List Int) (w : World) (hl : xs.length = len) (hr : Reads w ao (ints xs)) (hm : IsTab n xs) (hs : IsSym n xs) :
    Calls Try.prog 11 #[.agg #[.int .i64 n, .slice ao len cap]] w fun e w' =>
      ∃ ao' cap', e = .returned (.tuple #[.agg #[.int .i64 n, .slice ao' (n * n) cap'], .int .i64 0]) ∧ RowOf 3 w' w.heap.size ao' (n * n) cap' (ints (tab (flat n (joinCell (notJoined xs n))) (n * n))) ∧ Ext w w' := by
  have hl2 : len = n * n := by rw [← hl]; exact hm.len
  obtain ⟨b, off, rfl, ht⟩ := tabAt_of hm hr
  rw [← hl2] at ht
  have hc := fun w' (hx : Ext w w') => check_any n (some ⟨b, off, none⟩) len cap xs w' hl (hx.reads hr)
  rw [graphFaultOf_tab hm hs] at hc
  have HC := Lib.hid hc
  have h24 := hm.big
  have HT := Lib.hid ht
  obtain ⟨N, hN⟩ : ∃ N, N = n * n := ⟨_, rfl⟩
  rw [← hN]
  have HN := Lib.hid hN
  clear hm hs hr hl hl2 hc ht hN
  go_enter Try.func11, Try.ntmps11
  go_wp2_with (first
    | (go_at_call 15; refine Calls.mono (HC.out _ (((Ext.refl w).alloc _).alloc _)) ?_; rintro e w1 ⟨rfl, hx⟩; have HX := Lib.hid hx; have k0 := (((Blk.new w #[.int .i64 n, .slice (some ⟨b, off, none⟩) len cap] 30).alloc (.cells #[.int .i64 0, .slice none 0 0] 30)).ext hx).two; clear hx)
    | (go_at_call 22; refine Calls.mono (joined_any _ _ n (notJoined xs n) w1 h24 (fun i j hi hj w' hx' => other_cell n len b off cap i j w.heap.size xs w' hi hj (HT.out.ext ((((Ext.refl w).alloc _).alloc _).trans (HX.out.trans hx'))) ((((Blk.new w _ _).alloc _).ext HX.out).ext hx')) (fun _ _ => rfl)) ?_; rintro e w2 ⟨ao2, cap2, rfl, hrow, hx2⟩; have HROW := Lib.hid hrow; have HX2 := Lib.hid hx2; rw [← HN.out] at HROW ⊢; have q1 := ((Blk.new' (w.alloc (.cells #[.int .i64 n, .slice (some ⟨b, off, none⟩) len cap] 30)) #[.int .i64 0, .slice none 0 0] 30 (b := w.heap.size + 1) (by simp)).ext HX.out).ext hx2; have q2 := q1.two; have q3 := q1.f 0; have q4 := q1.f 1; clear hrow hx2))
  have HB := Lib.hid ((q1.set 0 (.int .i64 n)).set 1 (.slice ao2 N cap2))
  have e0 := HB.out.c 0 (.int .i64 n) rfl
  have e1 := HB.out.c 1 (.slice ao2 N cap2) rfl
  have hsz := HX.out.size
  simp at hsz
  refine bodyPost_ret (v := .tuple #[.agg #[.int .i64 n, .slice ao2 N cap2], .int .i64 0]) (by simp [results, Try.results11, go_sem, e0, e1]) rfl ⟨ao2, cap2, rfl, ?_, ?_⟩
  · exact ((HROW.out.beside ⟨w.heap.size + 1, 0, none⟩ (by simp; omega) _).beside ⟨w.heap.size + 1, 1, none⟩ (by simp; omega) _).mono (by omega)
  · exact ((((((Ext.refl w).alloc _).alloc _).trans HX.out).trans HX2.out).set (by simp) _).set (by simp) _

set_option maxHeartbeats 1000000 in
theorem other_bad (m : Int) (ao : Option Addr) (len cap : Nat) (xs : List Int) (c : Int) (w : World) (hl : xs.length = len) (hr : Reads w ao (ints xs)) (hc : graphFaultOf m xs = c) (h0 : c ≠ 0) :
    Calls Try.prog 11 #[.agg #[.int .i64 m, .slice ao len cap]] w fun e w' => e = .returned (.tuple #[.agg #[.int .i64 0, .slice none 0 0], .int .i64 c]) ∧ Ext w w' := by
  have hc := fun w' (hx : Ext w w') => hc ▸ check_any m ao len cap xs w' hl (hx.reads hr)
  have HC := Lib.hid hc
  have b1 : (c != 0) = true := by rw [bne_iff_ne]; exact h0
  clear hc hr hl h0
  go_enter Try.func11, Try.ntmps11
  go_wp2_with (go_at_call 15; refine Calls.mono (HC.out _ (((Ext.refl w).alloc _).alloc _)) ?_; rintro e w1 ⟨rfl, hx⟩; have HX := Lib.hid hx; have q1 := (Blk.new' (w.alloc (.cells #[.int .i64 m, .slice ao len cap] 30)) #[.int .i64 0, .slice none 0 0] 30 (b := w.heap.size + 1) (by simp)).ext hx; have q2 := q1.two; have q3 := q1.f 0; have q4 := q1.f 1; clear hx)
  have HB := Lib.hid ((q1.set 0 (.int .i64 0)).set 1 (.slice none 0 0))
  have e0 := HB.out.c 0 (.int .i64 0) rfl
  have e1 := HB.out.c 1 (.slice none 0 0) rfl
  exact bodyPost_ret (v := .tuple #[.agg #[.int .i64 0, .slice none 0 0], .int .i64 c]) (by simp [results, Try.results11, go_sem, e0, e1]) rfl ⟨rfl, (((((Ext.refl w).alloc _).alloc _).trans HX.out).set (by simp) _).set (by simp) _⟩

set_option maxHeartbeats 1000000 in
theorem numbers_bad (m : Int) (ao : Option Addr) (len cap : Nat) (xs : List Int) (c : Int) (w : World) (hl : xs.length = len) (hr : Reads w ao (ints xs)) (hc : graphFaultOf m xs = c) (h0 : c ≠ 0) :
    Calls Try.prog 13 #[.agg #[.int .i64 m, .slice ao len cap]] w fun e w' => e = .returned (.tuple #[.agg #[.int .i64 0, .int .i64 0, .int .i64 0, .int .i64 0], .int .i64 c]) ∧ Ext w w' := by
  have hc := fun w' (hx : Ext w w') => hc ▸ check_any m ao len cap xs w' hl (hx.reads hr)
  have HC := Lib.hid hc
  have b1 : (c != 0) = true := by rw [bne_iff_ne]; exact h0
  clear hc hr hl h0
  go_enter Try.func13, Try.ntmps13
  go_wp2_with (go_at_call 15; refine Calls.mono (HC.out _ (((Ext.refl w).alloc _).alloc _)) ?_; rintro e w1 ⟨rfl, hx⟩; have HX := Lib.hid hx; have q1 := (Blk.new' (w.alloc (.cells #[.int .i64 m, .slice ao len cap] 30)) #[.int .i64 0, .int .i64 0, .int .i64 0, .int .i64 0] 23 (b := w.heap.size + 1) (by simp)).ext hx; have q2 := q1.four; have q3 := q1.f 0; have q4 := q1.f 1; have q5 := q1.f 2; have q6 := q1.f 3; clear hx)
  have HB := Lib.hid ((((q1.set 0 (.int .i64 0)).set 1 (.int .i64 0)).set 2 (.int .i64 0)).set 3 (.int .i64 0))
  obtain ⟨e0, e1, e2, e3⟩ := HB.out.four
  exact bodyPost_ret (v := .tuple #[.agg #[.int .i64 0, .int .i64 0, .int .i64 0, .int .i64 0], .int .i64 c]) (by simp [results, Try.results13, go_sem, e0, e1, e2, e3]) rfl ⟨rfl, (((((((Ext.refl w).alloc _).alloc _).trans HX.out).set (by simp) _).set (by simp) _).set (by simp) _).set (by simp) _⟩

set_option maxHeartbeats 1000000 in
theorem friend_bad (m : Int) (ao : Option Addr) (len cap : Nat) (xs : List Int) (c : Int) (w : World) (hl : xs.length = len) (hr : Reads w ao (ints xs)) (hc : graphFaultOf m xs = c) (h0 : c ≠ 0) :
    Calls Try.prog 16 #[.agg #[.int .i64 m, .slice ao len cap]] w fun e w' => e = .returned (.tuple #[.int .i64 0, .int .i64 c]) ∧ Ext w w' := by
  have hc := fun w' (hx : Ext w w') => hc ▸ check_any m ao len cap xs w' hl (hx.reads hr)
  have HC := Lib.hid hc
  have b1 : (c != 0) = true := by rw [bne_iff_ne]; exact h0
  clear hc hr hl h0
  go_enter Try.func16, Try.ntmps16
  go_wp2_with (go_at_call 15; refine Calls.mono (HC.out _ ((Ext.refl w).alloc _)) ?_; rintro e w1 ⟨rfl, hx⟩; have HX := Lib.hid hx; have k0 := ((Blk.new w #[.int .i64 m, .slice ao len cap] 30).ext hx).two; clear hx)
  exact bodyPost_ret (v := .tuple #[.int .i64 0, .int .i64 c]) (by simp [results, Try.results16, go_sem]) rfl ⟨rfl, ((Ext.refl w).alloc _).trans HX.out⟩

end Go.Proofs.Ytllfccfpoigigaa
