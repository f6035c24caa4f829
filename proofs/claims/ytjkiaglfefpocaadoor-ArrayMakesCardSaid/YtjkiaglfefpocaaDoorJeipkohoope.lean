/- What space.Has answers. Conditions: primes; what is read. -/
import Derived.Test.YtjkiaglfefpocaaDoorJljgbdgckcp
namespace Go.Proofs.YtjkiaglfefpocaaDoor
open Go.RowKit
set_option linter.unusedSectionVars false
set_option linter.unusedVariables false

/-- As many, and a part: the same. -/
theorem card_all {α : Type} {S T : α → Prop} {m : Nat} (hS : Card S m) (hT : Card T m) (h : ∀ x, S x → T x) : ∀ x, T x → S x := by
  intro x hx
  refine Classical.byContradiction fun hn => ?_
  obtain ⟨l, h1, h2, h3⟩ := hS
  obtain ⟨r, g1, g2, g3⟩ := hT
  have hl : (x :: l).Nodup := List.nodup_cons.2 ⟨fun hm => hn ((h2 x).1 hm), h1⟩
  have := nodup_le id (x :: l) r hl (fun y hy => by
    rcases List.mem_cons.1 hy with rfl | hy
    · exact (g2 _).2 hx
    · exact (g2 y).2 (h y ((h2 y).1 hy))) (fun _ _ _ _ e => e)
  simp only [List.length_cons] at this
  omega

section
variable {p k : Nat} {low : List Int} [hI : FldP p k low]
/-- One row. -/
def vec1 (v : List Int) : Nat → El p k low := vecOf fun j => (nth v j).toNat
theorem vecs_one (v : List Int) : vecs (p := p) (k := k) (low := low) [v] = [vec1 v] := rfl
theorem rowsFault_one {q n : Nat} {v : List Int} (h : rowFault q n v = 0) : rowsFault q n [v] = 0 := by
  unfold rowsFault
  rw [if_neg (by simp)]
  unfold rowsFault1
  rw [if_neg (fun h' => h' h)]
  rfl
theorem len_iff {n : Nat} {xs ys : List (List Int)} {V : List (Nat → El p k low)} {r : Nat → El p k low} (hx : BasisI n xs (Span (V ++ [r]))) (hy : BasisI n ys (Span V)) : xs.length = ys.length ↔ Span V r := by
  constructor
  · intro he
    obtain ⟨L, P, rfl, rL, sL⟩ := hx
    obtain ⟨M, Q, rfl, rM, sM⟩ := hy
    simp only [rowsN_length, List.length_map] at he
    have h1 := (card_span (card_el low) rL).congr sL
    have h2 := (card_span (card_el low) rM).congr sM
    rw [he] at h1
    exact card_all h2 h1 (fun x hx => span_sublist (fun _ h => List.mem_append_left _ h) hx) r (span_mem (by simp))
  · intro hr
    have hs : ∀ v, Span (V ++ [r]) v ↔ Span V v := fun v => span_same (fun x hx => by
      rcases List.mem_append.1 hx with h | h
      · exact span_mem h
      · obtain rfl : x = r := by simpa using h
        exact hr) (fun x hx => span_mem (List.mem_append_left _ hx)) v
    rw [hx.unique hy hs]
end

set_option maxHeartbeats 4000000 in
theorem spHas_no (p k : Int) (ao bo vo : Option Addr) (len cap mc vl vc : Nat) (low : List Int) (n : Int) (xss : List (List Int)) (w : World) (hP : Primes w) (hl : low.length = len) (hr : Reads w ao (ints low)) (hbig : xss.length ≤ maxLen) (hx : ReadsL w bo xss) (h0 : withAll p k low n [(bo, mc, xss)] ≠ 0) :
    Calls Tryd.prog 24 #[.agg #[.int .i64 p, .int .i64 k, .slice ao len cap], .int .i64 n, .slice bo xss.length mc, .slice vo vl vc] w fun e w' => e = .returned (.tuple #[.bool false, .int .i64 (withAll p k low n [(bo, mc, xss)])]) ∧ Ext w w' := by
  have HXA : Hid (Ext w (w.alloc (.cells #[.int .i64 p, .int .i64 k, .slice ao len cap] 24))) := (Ext.refl w).alloc _
  have HXB := Lib.hid (HXA.out.alloc (.cells #[.slice bo xss.length mc] 25))
  have HW := Lib.hid (withs_no p k ao len cap low n (w.heap.size + 1) 0 1 1 [(bo, mc, xss)] _ (hP.ext HXB.out) hl (HXB.out.reads hr) rfl (by omega) (readsAll_one (by simp) (hx.ext HXA.out) hbig) h0)
  obtain ⟨c, hc⟩ : ∃ c, withAll p k low n [(bo, mc, xss)] = c := ⟨_, rfl⟩
  obtain ⟨m, hm⟩ : ∃ m, xss.length = m := ⟨_, rfl⟩
  rw [hc] at HW h0 ⊢
  rw [hm] at HW HXB ⊢
  have b1 : (c != 0) = true := by rw [bne_iff_ne]; exact h0
  have b2 : (c == 0) = false := by rw [beq_eq_false_iff_ne]; exact h0
  clear hc hm hP hl hr hx hbig h0
  go_enter Tryd.func24, Tryd.ntmps24
  go_wp2_with fail
  refine Calls.mono HW.out ?_
  rintro e w1 ⟨rfl, hx1⟩
  have HX1 := Lib.hid (HXB.out.trans hx1)
  clear hx1
  go_wp2
  exact bodyPost_ret (v := .tuple #[.bool false, .int .i64 c]) (by simp [results, Tryd.results24, go_sem]) rfl ⟨rfl, HX1.out⟩

set_option maxHeartbeats 4000000 in
theorem spHas_row (p k n : Nat) (ao bo vo : Option Addr) (cap mc vl vc : Nat) (low : List Int) (xss : List (List Int)) (v : List Int) (w : World) (hP : Primes w) (hR : IsRoom p k low n) (hr : Reads w ao (ints low)) (hx : ReadsL w bo xss) (hq : rowsFault (p ^ k) n xss = 0) (hvl : v.length = vl) (hvb : vl ≤ maxLen) (hv : Reads w vo (ints v)) (hf : rowFault (p ^ k) n v ≠ 0) :
    Calls Tryd.prog 24 #[.agg #[.int .i64 p, .int .i64 k, .slice ao k cap], .int .i64 n, .slice bo xss.length mc, .slice vo vl vc] w fun e w' => e = .returned (.tuple #[.bool false, .int .i64 (rowFault (p ^ k) n v)]) ∧ Ext w w' := by
  have hbig := (rowsFault_zero hq).1
  have HXA : Hid (Ext w (w.alloc (.cells #[.int .i64 p, .int .i64 k, .slice ao k cap] 24))) := (Ext.refl w).alloc _
  have HXB := Lib.hid (HXA.out.alloc (.cells #[.slice bo xss.length mc] 25))
  have HW := Lib.hid (withs_ok p k n ao cap low (w.heap.size + 1) 0 1 1 [(bo, mc, xss)] _ (hP.ext HXB.out) hR (HXB.out.reads hr) rfl (by omega) (readsAll_one (by simp) (hx.ext HXA.out) (by unfold maxLen; omega)) (fun t ht => by obtain rfl : t = (bo, mc, xss) := (by simpa using ht); exact hq))
  have HC : Hid (∀ b w', Ext w w' → RoomAt w' b p k low n → _) := fun b w' (h1 : Ext w w') (h2 : RoomAt w' b p k low n) => checkRow_any p k n b low vo vl vc v w' h2 hvl hvb (h1.reads hv)
  obtain ⟨c, hc⟩ : ∃ c, rowFault (p ^ k) n v = c := ⟨_, rfl⟩
  obtain ⟨m, hm⟩ : ∃ m, xss.length = m := ⟨_, rfl⟩
  rw [hc] at HC hf ⊢
  rw [hm] at HW HXB ⊢
  have b1 : (c != 0) = true := by rw [bne_iff_ne]; exact hf
  clear hc hm hP hr hx hbig hf hq hv hvl
  go_enter Tryd.func24, Tryd.ntmps24
  go_wp2_with fail
  refine Calls.mono HW.out ?_
  rintro e w1 ⟨r, rfl, hra, hx1⟩
  have HX1 := Lib.hid (HXB.out.trans hx1)
  have HC1 := Lib.hid (HC.out r w1 HX1.out hra)
  clear hx1 hra
  go_wp2_with fail
  refine Calls.mono HC1.out ?_
  rintro e w2 ⟨rfl, hx2⟩
  have HX2 := Lib.hid (HX1.out.trans hx2)
  clear hx2
  go_wp2
  exact bodyPost_ret (v := .tuple #[.bool false, .int .i64 c]) (by simp [results, Tryd.results24, go_sem]) rfl ⟨rfl, HX2.out⟩

set_option maxHeartbeats 8000000 in
theorem spHas_ok (p k n : Nat) (low : List Int) [hI : FldP p k low] (ao bo vo : Option Addr) (cap mc vc : Nat) (xss : List (List Int)) (v : List Int) (w : World) (hP : Primes w) (hR : IsRoom p k low n) (hr : Reads w ao (ints low)) (hx : ReadsL w bo xss) (hq : rowsFault (p ^ k) n xss = 0) (hv : Reads w vo (ints v)) (hf : rowFault (p ^ k) n v = 0) :
    Calls Tryd.prog 24 #[.agg #[.int .i64 p, .int .i64 k, .slice ao k cap], .int .i64 n, .slice bo xss.length mc, .slice vo v.length vc] w fun e w' => ∃ b : Bool, e = .returned (.tuple #[.bool b, .int .i64 0]) ∧ (b = true ↔ Span (vecs (p := p) (k := k) (low := low) xss) (vec1 v)) ∧ Ext w w' := by
  have hbig := (rowsFault_zero hq).1
  have hfo := rowsFault_one hf
  have hvn : v.length = n := ((rowsFault_zero hfo).2 v (by simp)).1
  have hn1 := hR.n1
  have hn6 := hR.n6
  have HXA : Hid (Ext w (w.alloc (.cells #[.int .i64 p, .int .i64 k, .slice ao k cap] 24))) := (Ext.refl w).alloc _
  have HXB := Lib.hid (HXA.out.alloc (.cells #[.slice bo xss.length mc] 25))
  have HW := Lib.hid (withs_ok p k n ao cap low (w.heap.size + 1) 0 1 1 [(bo, mc, xss)] _ (hP.ext HXB.out) hR (HXB.out.reads hr) rfl (by omega) (readsAll_one (by simp) (hx.ext HXA.out) (by unfold maxLen; omega)) (fun t ht => by obtain rfl : t = (bo, mc, xss) := (by simpa using ht); exact hq))
  have HC : Hid (∀ b w', Ext w w' → RoomAt w' b p k low n → _) := fun b w' (h1 : Ext w w') (h2 : RoomAt w' b p k low n) => checkRow_any p k n b low vo n vc v w' h2 hvn (by unfold maxLen; omega) (h1.reads hv)
  rw [hf] at HC
  have hzV := vecs_zero (p := p) (k := k) (low := low) hq
  have hz1 := vecs_zero (p := p) (k := k) (low := low) hfo
  rw [vecs_one] at hz1
  have HBA : Hid (∀ b w', Ext w w' → RoomAt w' b p k low n → _) := fun b w' (h1 : Ext w w') (h2 : RoomAt w' b p k low n) => basis_el n b bo xss.length mc (vecs (p := p) (k := k) (low := low) xss) w' h2 hn1 hn6 hzV (vecs_length xss) (by omega) (by rw [vecs_rows hq]; exact hx.ext h1)
  have HBB : Hid (∀ b ro rc w', RoomAt w' b p k low n → ReadsL w' ro (xss ++ [v]) → _) := fun b ro rc w' (h2 : RoomAt w' b p k low n) (h3 : ReadsL w' ro (xss ++ [v])) => basis_el n b ro (xss.length + 1) rc (vecs (p := p) (k := k) (low := low) xss ++ [vec1 v]) w' h2 hn1 hn6 (hzV.append hz1) (by rw [List.length_append, vecs_length]; rfl) (by omega) (reads_append (by rw [vecs_rows hq]; have := vecs_rows (p := p) (k := k) (low := low) hfo; rw [vecs_one] at this; rw [this]; exact h3))
  have HLI : Hid (∀ xs ys, BasisI n xs (Span (vecs (p := p) (k := k) (low := low) xss ++ [vec1 v])) → BasisI n ys (Span (vecs (p := p) (k := k) (low := low) xss)) → (xs.length = ys.length ↔ Span (vecs (p := p) (k := k) (low := low) xss) (vec1 v))) := fun xs ys h1 h2 => len_iff h1 h2
  obtain ⟨vs0, hr0, hrows⟩ := hx
  have hvl : vs0.length = xss.length := hrows.1
  have HCL : Hid (∀ W, Ext w W → _) := fun W (h : Ext w W) => clone_rows bo xss.length mc vs0 W hvl (by omega) hrows.one (h.reads hr0)
  have HRR := Lib.hid hrows
  have HV := Lib.hid hv
  obtain ⟨V, hV⟩ : ∃ V, vecs (p := p) (k := k) (low := low) xss = V := ⟨_, rfl⟩
  rw [hV] at HBA HBB HLI ⊢
  obtain ⟨m, hm⟩ : ∃ m, xss.length = m := ⟨_, rfl⟩
  rw [hm] at HW HXB HBA HBB HCL hbig ⊢
  rw [hvn]
  have HVN := Lib.hid hvn
  clear hm hP hr hq hv hvn hf hfo hR hV hzV hz1 hr0 hrows hvl
  go_enter Tryd.func24, Tryd.ntmps24
  go_wp2_with fail
  refine Calls.mono HW.out ?_
  rintro e w1 ⟨r, rfl, hra, hx1⟩
  have HX1 := Lib.hid (HXB.out.trans hx1)
  have HRA := Lib.hid hra
  have HC1 := Lib.hid (HC.out r w1 HX1.out hra)
  clear hx1 hra
  go_wp2_with fail
  refine Calls.mono HC1.out ?_
  rintro e w2 ⟨rfl, hx2⟩
  have HX2 := Lib.hid (HX1.out.trans hx2)
  have HRA2 := Lib.hid (HRA.out.ext hx2)
  have HCL2 := Lib.hid (HCL.out w2 HX2.out)
  clear hx2
  go_wp2_with fail
  refine Calls.mono HCL2.out ?_
  rintro e w3 ⟨co, cc, rfl, hrow, hx3⟩
  have HRO := Lib.hid hrow
  have HX3 := Lib.hid hx3
  have hsz := hx3.size
  have HRB : Hid (RowOf 22 (w3.alloc (.cells #[.slice vo n vc] 22)) w2.heap.size co m cc vs0) := (ext_box w3 #[.slice vo n vc] 22).row hrow
  have hwz : w2.heap.size ≤ (w3.alloc (.cells #[.slice vo n vc] 22)).heap.size := by simp; omega
  clear hrow hx3
  go_wp2_with (at_builtin; refine wpList_one eRow (w := w3.alloc (.cells #[.slice vo n vc] 22)) rfl (.tmp 30) (.tmp 32) rfl w2.heap.size (by rfl) HRB.out ⟨w3.heap.size, 0, none⟩ (.slice vo n vc) (by rfl) (by simp [World.cell?_alloc_at]) rfl (by omega) hwz ?_; intro ao4 cap4 w4 hr4 hg4 hat4; have HR4 := Lib.hid hr4; have HX4 : Hid (Ext w2 w4) := Below.grown (HX3.out.alloc _) hg4 hwz (fun b hb => (HRO.out.block b hb).1); clear hr4 hg4 hat4)
  have hrl : ReadsL w4 ao4 (xss ++ [v]) := ⟨_, HR4.out.reads, (HRR.out.ext (HX2.out.trans HX4.out)).snoc ⟨vo, vc, by rw [HVN.out], (HX2.out.trans HX4.out).reads HV.out, by rw [HVN.out]; unfold maxLen; omega⟩⟩
  have HB4 := Lib.hid (HBB.out r ao4 cap4 w4 (HRA2.out.ext HX4.out) hrl)
  clear hrl
  refine Calls.mono HB4.out ?_
  rintro e w5 ⟨b5, l5, c5, xs, rfl, hxl, _, hxb, hx5⟩
  have XB := Lib.hid hxb
  have XL := Lib.hid hxl
  have HX5 := Lib.hid ((HX2.out.trans HX4.out).trans hx5)
  have HB5 := Lib.hid (HBA.out r w5 HX5.out ((HRA2.out.ext HX4.out).ext hx5))
  have hxn := hxb.len
  clear hxb hxl hx5
  go_wp2_with fail
  refine Calls.mono HB5.out ?_
  rintro e w6 ⟨b6, l6, c6, ys, rfl, hyl, _, hyb, hx6⟩
  have HX6 := Lib.hid (HX5.out.trans hx6)
  have hiff := HLI.out xs ys XB.out hyb
  rw [XL.out, hyl] at hiff
  have HIFF := Lib.hid hiff
  clear hyb hyl hx6 hiff
  go_wp2
  refine bodyPost_ret (v := .tuple #[.bool ((l5 : Int) == (l6 : Int)), .int .i64 0]) (by simp [results, Tryd.results24, go_sem]) rfl ⟨_, rfl, ?_, HX6.out⟩
  rw [← HIFF.out, beq_iff_eq]
  omega

end Go.Proofs.YtjkiaglfefpocaaDoor
