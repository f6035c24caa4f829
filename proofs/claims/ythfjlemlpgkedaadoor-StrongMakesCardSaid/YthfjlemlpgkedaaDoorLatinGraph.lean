/- What strong.Latin answers. -/
import Derived.Test.YthfjlemlpgkedaaDoorLatinCheck
import Derived.Test.YthfjlemlpgkedaaDoorJoined
import Derived.BigQuiet
namespace Go.Proofs.YthfjlemlpgkedaaDoor
open Go.RowKit

/-- Do two cells share a row, a column or a number? -/
def latJoin (n : Nat) (xs : List Int) (i j : Nat) : Bool := ((i / n : Nat) : Int) == ((j / n : Nat) : Int) || (((i % n : Nat) : Int) == ((j % n : Nat) : Int) || nth xs i == nth xs j)

set_option maxHeartbeats 2000000 in
theorem latin_cell (n i j rn rs b off len cap : Nat) (xs : List Int) (w : World) (h1 : 1 ≤ n) (h4 : n ≤ 4) (hi : i < len) (hj : j < len) (h16 : len ≤ 16) (hbn : Blk w rn #[.int .i64 n] 3) (hbs : Blk w rs #[.int .i64 n, .slice (some ⟨b, off, none⟩) len cap] 26)
    (hc : ∀ k, k < len → w.cell? ⟨b, off + k, none⟩ = some (.int .i64 (nth xs k))) :
    Calls Tryd.prog 25 #[.int .i64 i, .int .i64 j, .pointer (some ⟨rn, 0, none⟩), .pointer (some ⟨rs, 0, none⟩)] w fun e w' => e = .returned (.bool (latJoin n xs i j)) ∧ Ext w w' := by
  have k0 := hbn.one
  obtain ⟨k1, k2⟩ := hbs.two
  have c1 := hc i hi
  have c2 := hc j hj
  unfold latJoin
  obtain ⟨d1, e1⟩ : ∃ d, i / n = d := ⟨_, rfl⟩
  obtain ⟨d2, e2⟩ : ∃ d, j / n = d := ⟨_, rfl⟩
  obtain ⟨m1, e3⟩ : ∃ d, i % n = d := ⟨_, rfl⟩
  obtain ⟨m2, e4⟩ : ∃ d, j % n = d := ⟨_, rfl⟩
  have f1 : (i : Int) / n = d1 := by rw [← e1]; simp
  have f2 : (j : Int) / n = d2 := by rw [← e2]; simp
  have f3 : (i : Int) % n = m1 := by rw [← e3]; simp
  have f4 : (j : Int) % n = m2 := by rw [← e4]; simp
  have g1 : d1 ≤ i := by rw [← e1]; exact Nat.div_le_self _ _
  have g2 : d2 ≤ j := by rw [← e2]; exact Nat.div_le_self _ _
  rw [e1, e2, e3, e4]
  obtain ⟨x, hx⟩ : ∃ x, nth xs i = x := ⟨_, rfl⟩
  obtain ⟨y, hy⟩ : ∃ x, nth xs j = x := ⟨_, rfl⟩
  rw [hx] at c1 ⊢
  rw [hy] at c2 ⊢
  clear e1 e2 e3 e4 hx hy hc hbn hbs
  cases b1 : ((d1 : Int) == (d2 : Int)) with
  | true =>
    go_enter Tryd.func25, Tryd.ntmps25
    go_wp2_with fail
    go_quiet (fail)
    go_wp2
    go_ret
    exact ⟨by simp, (Ext.refl w).drewN _⟩
  | false =>
    cases b2 : ((m1 : Int) == (m2 : Int)) with
    | true =>
      go_enter Tryd.func25, Tryd.ntmps25
      go_wp2_with fail
      go_quiet (fail)
      go_wp2
      go_ret
      exact ⟨by simp, (Ext.refl w).drewN _⟩
    | false =>
      go_enter Tryd.func25, Tryd.ntmps25
      go_wp2_with fail
      go_quiet (fail)
      go_wp2
      go_ret
      exact ⟨by simp, (Ext.refl w).drewN _⟩

noncomputable def latGraphErr (m : Int) (xs : List Int) : Int := if latinFaultOf m xs ≠ 0 then latinFaultOf m xs else if 4 < m then 3 else 0

set_option maxHeartbeats 1000000 in
theorem latin_no (m : Int) (ao : Option Addr) (len cap : Nat) (xs : List Int) (w : World) (hl : xs.length = len) (hr : Reads w ao (ints xs)) (h0 : latinFaultOf m xs ≠ 0) :
    Calls Tryd.prog 9 #[.agg #[.int .i64 m, .slice ao len cap]] w fun e w' => e = .returned (.tuple #[.agg #[.int .i64 0, .slice none 0 0], .int .i64 (latinFaultOf m xs)]) ∧ Ext w w' := by
  have HX0 : Hid (Ext w ((w.alloc (.cells #[.int .i64 m, .slice ao len cap] 26)).alloc (.cells #[.int .i64 0, .slice none 0 0] 26))) := ((Ext.refl w).alloc _).alloc _
  have HB : Hid (Blk ((w.alloc (.cells #[.int .i64 m, .slice ao len cap] 26)).alloc (.cells #[.int .i64 0, .slice none 0 0] 26)) (w.heap.size + 1) #[.int .i64 0, .slice none 0 0] 26) := Blk.new' _ _ _ (by simp)
  have HO := Lib.hid (latinCheck_any m ao len cap xs _ hl (HX0.out.reads hr))
  obtain ⟨c, hc⟩ : ∃ c, latinFaultOf m xs = c := ⟨_, rfl⟩
  rw [hc] at h0 HO ⊢
  have b1 : (c != 0) = true := by rw [bne_iff_ne]; exact h0
  clear hc hl hr h0
  go_enter Tryd.func9, Tryd.ntmps9
  go_wp2_with fail
  refine Calls.mono HO.out ?_
  rintro e w1 ⟨rfl, hx⟩
  have HX := Lib.hid (HX0.out.trans hx)
  have HB1 := Lib.hid (HB.out.ext hx)
  have k2 := HB1.out.f 0
  have k2b := HB1.out.f 1
  have k3 := HB1.out.two
  have HB2 := Lib.hid ((HB1.out.set 0 (.int .i64 0)).set 1 (.slice none 0 0))
  clear hx
  go_wp2
  have e0 := HB2.out.c 0 (.int .i64 0) rfl
  have e1 := HB2.out.c 1 (.slice none 0 0) rfl
  refine bodyPost_ret (v := .tuple #[.agg #[.int .i64 0, .slice none 0 0], .int .i64 c]) (by simp [results, Tryd.results9, go_sem, e0, e1]) rfl ⟨rfl, ?_⟩
  exact (HX.out.set (by simp) _).set (by simp) _

set_option maxHeartbeats 1000000 in
theorem latin_full (m : Int) (ao : Option Addr) (len cap : Nat) (xs : List Int) (w : World) (hl : xs.length = len) (hr : Reads w ao (ints xs)) (h0 : latinFaultOf m xs = 0) (h4 : 4 < m) :
    Calls Tryd.prog 9 #[.agg #[.int .i64 m, .slice ao len cap]] w fun e w' => e = .returned (.tuple #[.agg #[.int .i64 0, .slice none 0 0], .int .i64 3]) ∧ Ext w w' := by
  have HX0 : Hid (Ext w ((w.alloc (.cells #[.int .i64 m, .slice ao len cap] 26)).alloc (.cells #[.int .i64 0, .slice none 0 0] 26))) := ((Ext.refl w).alloc _).alloc _
  have HB : Hid (Blk ((w.alloc (.cells #[.int .i64 m, .slice ao len cap] 26)).alloc (.cells #[.int .i64 0, .slice none 0 0] 26)) (w.heap.size + 1) #[.int .i64 0, .slice none 0 0] 26) := Blk.new' _ _ _ (by simp)
  have HBS : Hid (Blk ((w.alloc (.cells #[.int .i64 m, .slice ao len cap] 26)).alloc (.cells #[.int .i64 0, .slice none 0 0] 26)) w.heap.size #[.int .i64 m, .slice ao len cap] 26) := (Blk.new _ _ _).alloc _
  have HO := Lib.hid (latinCheck_any m ao len cap xs _ hl (HX0.out.reads hr))
  rw [h0] at HO
  have b1 : decide (4 < m) = true := decide_eq_true h4
  clear hl hr h0 h4
  go_enter Tryd.func9, Tryd.ntmps9
  go_wp2_with fail
  refine Calls.mono HO.out ?_
  rintro e w1 ⟨rfl, hx⟩
  have HX := Lib.hid ((HX0.out.trans hx).alloc (.cells #[.int .i64 m] 3))
  have k1 := (HBS.out.ext hx).two
  have HB1 := Lib.hid ((HB.out.ext hx).alloc (.cells #[.int .i64 m] 3))
  have k2 := HB1.out.f 0
  have k2b := HB1.out.f 1
  have k3 := HB1.out.two
  have HB2 := Lib.hid ((HB1.out.set 0 (.int .i64 0)).set 1 (.slice none 0 0))
  clear hx
  go_wp2
  have e0 := HB2.out.c 0 (.int .i64 0) rfl
  have e1 := HB2.out.c 1 (.slice none 0 0) rfl
  refine bodyPost_ret (v := .tuple #[.agg #[.int .i64 0, .slice none 0 0], .int .i64 3]) (by simp [results, Tryd.results9, go_sem, e0, e1]) rfl ⟨rfl, ?_⟩
  exact (HX.out.set (by simp) _).set (by simp) _

set_option maxHeartbeats 2000000 in
theorem latin_ok (n : Nat) (ao : Option Addr) (len cap : Nat) (xs : List Int) (w : World) (hl : xs.length = len) (hr : Reads w ao (ints xs)) (h0 : latinFaultOf n xs = 0) (h4 : n ≤ 4) :
    Calls Tryd.prog 9 #[.agg #[.int .i64 n, .slice ao len cap]] w fun e w' =>
      ∃ ao' cap', e = .returned (.tuple #[.agg #[.int .i64 (n * n : Nat), .slice ao' (n * n * (n * n)) cap'], .int .i64 0]) ∧
        RowOf 3 w' w.heap.size ao' (n * n * (n * n)) cap' (ints (tab (flat (n * n) (joinCell (latJoin n xs))) (n * n * (n * n)))) ∧ Ext w w' := by
  obtain ⟨n', hn', hL⟩ := latinFaultOf_zero h0
  obtain rfl : n = n' := by omega
  have h1 := hL.one
  have hln := hL.len
  rw [hl] at hln
  have h4' : (n : Int) ≤ 4 := by omega
  have h16 : len ≤ 16 := by rw [hln]; exact Nat.mul_le_mul h4 h4
  have hpos : 0 < len := by rw [hln]; exact Nat.mul_pos h1 h1
  have HX0 : Hid (Ext w ((w.alloc (.cells #[.int .i64 n, .slice ao len cap] 26)).alloc (.cells #[.int .i64 0, .slice none 0 0] 26))) := ((Ext.refl w).alloc _).alloc _
  have HO := Lib.hid (latinCheck_any n ao len cap xs _ hl (HX0.out.reads hr))
  rw [h0] at HO
  obtain ⟨b, off, rfl, hb, hc⟩ := Reads.int hr (by omega)
  have HB : Hid (Blk ((w.alloc (.cells #[.int .i64 n, .slice (some ⟨b, off, none⟩) len cap] 26)).alloc (.cells #[.int .i64 0, .slice none 0 0] 26)) (w.heap.size + 1) #[.int .i64 0, .slice none 0 0] 26) := Blk.new' _ _ _ (by simp)
  have HBS : Hid (Blk ((w.alloc (.cells #[.int .i64 n, .slice (some ⟨b, off, none⟩) len cap] 26)).alloc (.cells #[.int .i64 0, .slice none 0 0] 26)) w.heap.size #[.int .i64 n, .slice (some ⟨b, off, none⟩) len cap] 26) := (Blk.new _ _ _).alloc _
  have HC := Lib.hid hc
  have HL := Lib.hid hl
  have b1 : decide (4 < (n : Int)) = false := decide_eq_false (by omega)
  rw [← hln]
  have hm : (n : Int) * n = len := by rw [hln, Int.natCast_mul]
  obtain ⟨N2, hN2⟩ : ∃ N2, len * len = N2 := ⟨_, rfl⟩
  have HN2 := Lib.hid hN2
  clear hl hr h0 h4 hn' hL hln hc hN2
  go_enter Tryd.func9, Tryd.ntmps9
  go_wp2_with fail
  refine Calls.mono HO.out ?_
  rintro e w1 ⟨rfl, hx⟩
  have HX := Lib.hid ((HX0.out.trans hx).alloc (.cells #[.int .i64 n] 3))
  have HBN : Hid (Blk (w1.alloc (.cells #[.int .i64 n] 3)) w1.heap.size #[.int .i64 n] 3) := Blk.new _ _ _
  have HBS1 := Lib.hid (HBS.out.ext hx)
  have HB1 := Lib.hid ((HB.out.ext hx).alloc (.cells #[.int .i64 n] 3))
  have k1 := HBS1.out.two
  have HBS2 := Lib.hid (HBS1.out.alloc (.cells #[.int .i64 n] 3))
  clear hx
  go_wp2_with fail
  refine Calls.mono (joined_any _ _ len (latJoin n xs) _ (by omega) (fun i j hi hj w' hx' => latin_cell n i j w1.heap.size w.heap.size b off len cap xs w' h1 (by omega) hi hj h16 (HBN.out.ext hx') (HBS2.out.ext hx') (fun k hk => ((HX.out.trans hx').cell hb).trans (HC.out k (by rw [HL.out]; exact hk)))) (fun _ _ => rfl)) ?_
  rintro e w3 ⟨ao4, cap4, rfl, hrow, hx3⟩
  have HROW := Lib.hid hrow
  have HX3 := Lib.hid hx3
  have hs2 := HX.out.size
  have q1 := HB1.out.ext hx3
  have q2 := q1.two
  have q3 := q1.f 0
  have q4 := q1.f 1
  rw [HN2.out] at HROW ⊢
  have HB2 := Lib.hid ((q1.set 0 (.int .i64 len)).set 1 (.slice ao4 N2 cap4))
  have hs3 := HB1.out.lt
  clear hrow hx3 q1 k1
  go_wp2
  have e0 := HB2.out.c 0 (.int .i64 len) rfl
  have e1 := HB2.out.c 1 (.slice ao4 N2 cap4) rfl
  refine bodyPost_ret (v := .tuple #[.agg #[.int .i64 len, .slice ao4 N2 cap4], .int .i64 0]) (by simp [results, Tryd.results9, go_sem, e0, e1]) rfl ?_
  rw [HN2.out]
  refine ⟨ao4, cap4, rfl, ?_, ?_⟩
  · exact ((HROW.out.beside ⟨w.heap.size + 1, 0, none⟩ (by simp at hs3 ⊢; omega) (.int .i64 len)).beside ⟨w.heap.size + 1, 1, none⟩ (by simp at hs3 ⊢; omega) (.slice ao4 N2 cap4)).mono hs2
  · exact ((HX.out.trans HX3.out).set (p := ⟨w.heap.size + 1, 0, none⟩) (by simp) (.int .i64 len)).set (p := ⟨w.heap.size + 1, 1, none⟩) (by simp) (.slice ao4 N2 cap4)

end Go.Proofs.YthfjlemlpgkedaaDoor
