/- Lists of rows, one behind the other, as they are read. No conditions. -/
import Derived.Test.YtnhdngnolepkcaaDoorJndpfkjicgi
import Derived.Test.YtnhdngnolepkcaaDoorJmanplccnef
import Derived.Test.YtnhdngnolepkcaaDoorJlmibflkdfk
namespace Go.Proofs.YtnhdngnolepkcaaDoor
open Go.RowKit
set_option linter.unusedSectionVars false

theorem row_append_right (xss yss : List (List Int)) (j : Nat) (h : xss.length ≤ j) : row (xss ++ yss) j = row yss (j - xss.length) := by
  unfold row; rw [List.getD_eq_getElem?_getD, List.getD_eq_getElem?_getD, List.getElem?_append_right h]
theorem Rows2.append {w : World} {vs us : List Value} {xss yss : List (List Int)} (h : Rows2 w vs xss) (g : Rows2 w us yss) : Rows2 w (vs ++ us) (xss ++ yss) := by
  refine ⟨by rw [List.length_append, List.length_append, h.1, g.1], fun j v hv => ?_⟩
  by_cases hj : j < vs.length
  · rw [List.getElem?_append_left hj] at hv
    rw [row_append_left _ _ _ (by rw [← h.1]; exact hj)]
    exact h.2 j v hv
  · rw [List.getElem?_append_right (by omega)] at hv
    rw [row_append_right _ _ _ (by rw [← h.1]; omega), ← h.1]
    exact g.2 _ v hv
theorem Rows2.one {w : World} {vs : List Value} {xss : List (List Int)} (h : Rows2 w vs xss) : ∀ v ∈ vs, v.oneCell' = true := fun v hv => by
  obtain ⟨j, hj, rfl⟩ := List.mem_iff_getElem.1 hv
  obtain ⟨a, c, e, _⟩ := h.2 j _ (List.getElem?_eq_getElem hj)
  rw [e]; rfl

section
variable {p k : Nat} {low : List Int} [hI : FldP p k low]
theorem rowsN_append (n : Nat) (L M : List (Nat → Nat)) : rowsN n (L ++ M) = rowsN n L ++ rowsN n M := by unfold rowsN; rw [List.map_append]
theorem reads_append {n : Nat} {A B : List (Nat → El p k low)} {w : World} {ao : Option Addr} (h : ReadsL w ao (rowsN n (A.map toN) ++ rowsN n (B.map toN))) : ReadsL w ao (rowsN n ((A ++ B).map toN)) := by rw [List.map_append, rowsN_append]; exact h
end


end Go.Proofs.YtnhdngnolepkcaaDoor

/- What space.Has answers. Conditions: primes; what is read. -/
namespace Go.Proofs.YtnhdngnolepkcaaDoor
open Go.RowKit
set_option linter.unusedSectionVars false
set_option linter.unusedVariables false

/-- As many, and a part: the same. -/
theorem card_all {α : Type} {S T : α → Prop} {m : Nat} (hS : Card S m) (hT : Card T m) (h : ∀ x, S x → T x) : ∀ x, T x → S x := by
  intro x hx
  refine Classical.byContradiction fun hn => ?_
  obtain ⟨l, h1, h2, h3⟩ := hS
  obtain ⟨r, g1, g2, g3⟩ := hT
  have hl : (x :: l).Nodup := List.nodup_cons.2 ⟨fun hm => hn ((h2 x).1 hm), h1⟩
  have := nodup_le id (x :: l) r hl (fun y hy => by
    rcases List.mem_cons.1 hy with rfl | hy
    · exact (g2 _).2 hx
    · exact (g2 y).2 (h y ((h2 y).1 hy))) (fun _ _ _ _ e => e)
  simp only [List.length_cons] at this
  omega

section
variable {p k : Nat} {low : List Int} [hI : FldP p k low]
/-- One row. -/
def vec1 (v : List Int) : Nat → El p k low := vecOf fun j => (nth v j).toNat
theorem vecs_one (v : List Int) : vecs (p := p) (k := k) (low := low) [v] = [vec1 v] := rfl
theorem rowsFault_one {q n : Nat} {v : List Int} (h : rowFault q n v = 0) : rowsFault q n [v] = 0 := by
  unfold rowsFault
  rw [if_neg (by simp)]
  unfold rowsFault1
  rw [if_neg (fun h' => h' h)]
  rfl
theorem len_iff {n : Nat} {xs ys : List (List Int)} {V : List (Nat → El p k low)} {r : Nat → El p k low} (hx : BasisI n xs (Span (V ++ [r]))) (hy : BasisI n ys (Span V)) : xs.length = ys.length ↔ Span V r := by
  constructor
  · intro he
    obtain ⟨L, P, rfl, rL, sL⟩ := hx
    obtain ⟨M, Q, rfl, rM, sM⟩ := hy
    simp only [rowsN_length, List.length_map] at he
    have h1 := (card_span (card_el low) rL).congr sL
    have h2 := (card_span (card_el low) rM).congr sM
    rw [he] at h1
    exact card_all h2 h1 (fun x hx => span_sublist (fun _ h => List.mem_append_left _ h) hx) r (span_mem (by simp))
  · intro hr
    have hs : ∀ v, Span (V ++ [r]) v ↔ Span V v := fun v => span_same (fun x hx => by
      rcases List.mem_append.1 hx with h | h
      · exact span_mem h
      · obtain rfl : x = r := by simpa using h
        exact hr) (fun x hx => span_mem (List.mem_append_left _ hx)) v
    rw [hx.unique hy hs]
end

set_option maxHeartbeats 4000000 in
theorem spHas_no (p k : Int) (ao bo vo : Option Addr) (len cap mc vl vc : Nat) (low : List Int) (n : Int) (xss : List (List Int)) (w : World) (hP : Primes w) (hl : low.length = len) (hr : Reads w ao (ints low)) (hbig : xss.length ≤ maxLen) (hx : ReadsL w bo xss) (h0 : withAll p k low n [(bo, mc, xss)] ≠ 0) :
    Calls Tryd.prog 24 #[.agg #[.int .i64 p, .int .i64 k, .slice ao len cap], .int .i64 n, .slice bo xss.length mc, .slice vo vl vc] w fun e w' => e = .returned (.tuple #[.bool false, .int .i64 (withAll p k low n [(bo, mc, xss)])]) ∧ Ext w w' := by
  have HXA : Hid (Ext w (w.alloc (.cells #[.int .i64 p, .int .i64 k, .slice ao len cap] 24))) := (Ext.refl w).alloc _
  have HXB := Lib.hid (HXA.out.alloc (.cells #[.slice bo xss.length mc] 25))
  have HW := Lib.hid (withs_no p k ao len cap low n (w.heap.size + 1) 0 1 1 [(bo, mc, xss)] _ (hP.ext HXB.out) hl (HXB.out.reads hr) rfl (by omega) (readsAll_one (by simp) (hx.ext HXA.out) hbig) h0)
  obtain ⟨c, hc⟩ : ∃ c, withAll p k low n [(bo, mc, xss)] = c := ⟨_, rfl⟩
  obtain ⟨m, hm⟩ : ∃ m, xss.length = m := ⟨_, rfl⟩
  rw [hc] at HW h0 ⊢
  rw [hm] at HW HXB ⊢
  have b1 : (c != 0) = true := by rw [bne_iff_ne]; exact h0
  have b2 : (c == 0) = false := by rw [beq_eq_false_iff_ne]; exact h0
  clear hc hm hP hl hr hx hbig h0
  go_enter Tryd.func24, Tryd.ntmps24
  go_wp2_with fail
  refine Calls.mono HW.out ?_
  rintro e w1 ⟨rfl, hx1⟩
  have HX1 := Lib.hid (HXB.out.trans hx1)
  clear hx1
  go_wp2
  exact bodyPost_ret (v := .tuple #[.bool false, .int .i64 c]) (by simp [results, Tryd.results24, go_sem]) rfl ⟨rfl, HX1.out⟩

set_option maxHeartbeats 4000000 in
theorem spHas_row (p k n : Nat) (ao bo vo : Option Addr) (cap mc vl vc : Nat) (low : List Int) (xss : List (List Int)) (v : List Int) (w : World) (hP : Primes w) (hR : IsRoom p k low n) (hr : Reads w ao (ints low)) (hx : ReadsL w bo xss) (hq : rowsFault (p ^ k) n xss = 0) (hvl : v.length = vl) (hvb : vl ≤ maxLen) (hv : Reads w vo (ints v)) (hf : rowFault (p ^ k) n v ≠ 0) :
    Calls Tryd.prog 24 #[.agg #[.int .i64 p, .int .i64 k, .slice ao k cap], .int .i64 n, .slice bo xss.length mc, .slice vo vl vc] w fun e w' => e = .returned (.tuple #[.bool false, .int .i64 (rowFault (p ^ k) n v)]) ∧ Ext w w' := by
  have hbig := (rowsFault_zero hq).1
  have HXA : Hid (Ext w (w.alloc (.cells #[.int .i64 p, .int .i64 k, .slice ao k cap] 24))) := (Ext.refl w).alloc _
  have HXB := Lib.hid (HXA.out.alloc (.cells #[.slice bo xss.length mc] 25))
  have HW := Lib.hid (withs_ok p k n ao cap low (w.heap.size + 1) 0 1 1 [(bo, mc, xss)] _ (hP.ext HXB.out) hR (HXB.out.reads hr) rfl (by omega) (readsAll_one (by simp) (hx.ext HXA.out) (by unfold maxLen; omega)) (fun t ht => by obtain rfl : t = (bo, mc, xss) := (by simpa using ht); exact hq))
  have HC : Hid (∀ b w', Ext w w' → RoomAt w' b p k low n → _) := fun b w' (h1 : Ext w w') (h2 : RoomAt w' b p k low n) => checkRow_any p k n b low vo vl vc v w' h2 hvl hvb (h1.reads hv)
  obtain ⟨c, hc⟩ : ∃ c, rowFault (p ^ k) n v = c := ⟨_, rfl⟩
  obtain ⟨m, hm⟩ : ∃ m, xss.length = m := ⟨_, rfl⟩
  rw [hc] at HC hf ⊢
  rw [hm] at HW HXB ⊢
  have b1 : (c != 0) = true := by rw [bne_iff_ne]; exact hf
  clear hc hm hP hr hx hbig hf hq hv hvl
  go_enter Tryd.func24, Tryd.ntmps24
  go_wp2_with fail
  refine Calls.mono HW.out ?_
  rintro e w1 ⟨r, rfl, hra, hx1⟩
  have HX1 := Lib.hid (HXB.out.trans hx1)
  have HC1 := Lib.hid (HC.out r w1 HX1.out hra)
  clear hx1 hra
  go_wp2_with fail
  refine Calls.mono HC1.out ?_
  rintro e w2 ⟨rfl, hx2⟩
  have HX2 := Lib.hid (HX1.out.trans hx2)
  clear hx2
  go_wp2
  exact bodyPost_ret (v := .tuple #[.bool false, .int .i64 c]) (by simp [results, Tryd.results24, go_sem]) rfl ⟨rfl, HX2.out⟩

set_option maxHeartbeats 8000000 in
theorem spHas_ok (p k n : Nat) (low : List Int) [hI : FldP p k low] (ao bo vo : Option Addr) (cap mc vc : Nat) (xss : List (List Int)) (v : List Int) (w : World) (hP : Primes w) (hR : IsRoom p k low n) (hr : Reads w ao (ints low)) (hx : ReadsL w bo xss) (hq : rowsFault (p ^ k) n xss = 0) (hv : Reads w vo (ints v)) (hf : rowFault (p ^ k) n v = 0) :
    Calls Tryd.prog 24 #[.agg #[.int .i64 p, .int .i64 k, .slice ao k cap], .int .i64 n, .slice bo xss.length mc, .slice vo v.length vc] w fun e w' => ∃ b : Bool, e = .returned (.tuple #[.bool b, .int .i64 0]) ∧ (b = true ↔ Span (vecs (p := p) (k := k) (low := low) xss) (vec1 v)) ∧ Ext w w' := by
  have hbig := (rowsFault_zero hq).1
  have hfo := rowsFault_one hf
  have hvn : v.length = n := ((rowsFault_zero hfo).2 v (by simp)).1
  have hn1 := hR.n1
  have hn6 := hR.n6
  have HXA : Hid (Ext w (w.alloc (.cells #[.int .i64 p, .int .i64 k, .slice ao k cap] 24))) := (Ext.refl w).alloc _
  have HXB := Lib.hid (HXA.out.alloc (.cells #[.slice bo xss.length mc] 25))
  have HW := Lib.hid (withs_ok p k n ao cap low (w.heap.size + 1) 0 1 1 [(bo, mc, xss)] _ (hP.ext HXB.out) hR (HXB.out.reads hr) rfl (by omega) (readsAll_one (by simp) (hx.ext HXA.out) (by unfold maxLen; omega)) (fun t ht => by obtain rfl : t = (bo, mc, xss) := (by simpa using ht); exact hq))
  have HC : Hid (∀ b w', Ext w w' → RoomAt w' b p k low n → _) := fun b w' (h1 : Ext w w') (h2 : RoomAt w' b p k low n) => checkRow_any p k n b low vo n vc v w' h2 hvn (by unfold maxLen; omega) (h1.reads hv)
  rw [hf] at HC
  have hzV := vecs_zero (p := p) (k := k) (low := low) hq
  have hz1 := vecs_zero (p := p) (k := k) (low := low) hfo
  rw [vecs_one] at hz1
  have HBA : Hid (∀ b w', Ext w w' → RoomAt w' b p k low n → _) := fun b w' (h1 : Ext w w') (h2 : RoomAt w' b p k low n) => basis_el n b bo xss.length mc (vecs (p := p) (k := k) (low := low) xss) w' h2 hn1 hn6 hzV (vecs_length xss) (by omega) (by rw [vecs_rows hq]; exact hx.ext h1)
  have HBB : Hid (∀ b ro rc w', RoomAt w' b p k low n → ReadsL w' ro (xss ++ [v]) → _) := fun b ro rc w' (h2 : RoomAt w' b p k low n) (h3 : ReadsL w' ro (xss ++ [v])) => basis_el n b ro (xss.length + 1) rc (vecs (p := p) (k := k) (low := low) xss ++ [vec1 v]) w' h2 hn1 hn6 (hzV.append hz1) (by rw [List.length_append, vecs_length]; rfl) (by omega) (reads_append (by rw [vecs_rows hq]; have := vecs_rows (p := p) (k := k) (low := low) hfo; rw [vecs_one] at this; rw [this]; exact h3))
  have HLI : Hid (∀ xs ys, BasisI n xs (Span (vecs (p := p) (k := k) (low := low) xss ++ [vec1 v])) → BasisI n ys (Span (vecs (p := p) (k := k) (low := low) xss)) → (xs.length = ys.length ↔ Span (vecs (p := p) (k := k) (low := low) xss) (vec1 v))) := fun xs ys h1 h2 => len_iff h1 h2
  obtain ⟨vs0, hr0, hrows⟩ := hx
  have hvl : vs0.length = xss.length := hrows.1
  have HCL : Hid (∀ W, Ext w W → _) := fun W (h : Ext w W) => clone_rows bo xss.length mc vs0 W hvl (by omega) hrows.one (h.reads hr0)
  have HRR := Lib.hid hrows
  have HV := Lib.hid hv
  obtain ⟨V, hV⟩ : ∃ V, vecs (p := p) (k := k) (low := low) xss = V := ⟨_, rfl⟩
  rw [hV] at HBA HBB HLI ⊢
  obtain ⟨m, hm⟩ : ∃ m, xss.length = m := ⟨_, rfl⟩
  rw [hm] at HW HXB HBA HBB HCL hbig ⊢
  rw [hvn]
  have HVN := Lib.hid hvn
  clear hm hP hr hq hv hvn hf hfo hR hV hzV hz1 hr0 hrows hvl
  go_enter Tryd.func24, Tryd.ntmps24
  go_wp2_with fail
  refine Calls.mono HW.out ?_
  rintro e w1 ⟨r, rfl, hra, hx1⟩
  have HX1 := Lib.hid (HXB.out.trans hx1)
  have HRA := Lib.hid hra
  have HC1 := Lib.hid (HC.out r w1 HX1.out hra)
  clear hx1 hra
  go_wp2_with fail
  refine Calls.mono HC1.out ?_
  rintro e w2 ⟨rfl, hx2⟩
  have HX2 := Lib.hid (HX1.out.trans hx2)
  have HRA2 := Lib.hid (HRA.out.ext hx2)
  have HCL2 := Lib.hid (HCL.out w2 HX2.out)
  clear hx2
  go_wp2_with fail
  refine Calls.mono HCL2.out ?_
  rintro e w3 ⟨co, cc, rfl, hrow, hx3⟩
  have HRO := Lib.hid hrow
  have HX3 := Lib.hid hx3
  have hsz := hx3.size
  have HRB : Hid (RowOf 22 (w3.alloc (.cells #[.slice vo n vc] 22)) w2.heap.size co m cc vs0) := (ext_box w3 #[.slice vo n vc] 22).row hrow
  have hwz : w2.heap.size ≤ (w3.alloc (.cells #[.slice vo n vc] 22)).heap.size := by simp; omega
  clear hrow hx3
  go_wp2_with (at_builtin; refine wpList_one eRow (w := w3.alloc (.cells #[.slice vo n vc] 22)) rfl (.tmp 30) (.tmp 32) rfl w2.heap.size (by rfl) HRB.out ⟨w3.heap.size, 0, none⟩ (.slice vo n vc) (by rfl) (by simp [World.cell?_alloc_at]) rfl (by omega) hwz ?_; intro ao4 cap4 w4 hr4 hg4 hat4; have HR4 := Lib.hid hr4; have HX4 : Hid (Ext w2 w4) := Below.grown (HX3.out.alloc _) hg4 hwz (fun b hb => (HRO.out.block b hb).1); clear hr4 hg4 hat4)
  have hrl : ReadsL w4 ao4 (xss ++ [v]) := ⟨_, HR4.out.reads, (HRR.out.ext (HX2.out.trans HX4.out)).snoc ⟨vo, vc, by rw [HVN.out], (HX2.out.trans HX4.out).reads HV.out, by rw [HVN.out]; unfold maxLen; omega⟩⟩
  have HB4 := Lib.hid (HBB.out r ao4 cap4 w4 (HRA2.out.ext HX4.out) hrl)
  clear hrl
  refine Calls.mono HB4.out ?_
  rintro e w5 ⟨b5, l5, c5, xs, rfl, hxl, _, hxb, hx5⟩
  have XB := Lib.hid hxb
  have XL := Lib.hid hxl
  have HX5 := Lib.hid ((HX2.out.trans HX4.out).trans hx5)
  have HB5 := Lib.hid (HBA.out r w5 HX5.out ((HRA2.out.ext HX4.out).ext hx5))
  have hxn := hxb.len
  clear hxb hxl hx5
  go_wp2_with fail
  refine Calls.mono HB5.out ?_
  rintro e w6 ⟨b6, l6, c6, ys, rfl, hyl, _, hyb, hx6⟩
  have HX6 := Lib.hid (HX5.out.trans hx6)
  have hiff := HLI.out xs ys XB.out hyb
  rw [XL.out, hyl] at hiff
  have HIFF := Lib.hid hiff
  clear hyb hyl hx6 hiff
  go_wp2
  refine bodyPost_ret (v := .tuple #[.bool ((l5 : Int) == (l6 : Int)), .int .i64 0]) (by simp [results, Tryd.results24, go_sem]) rfl ⟨_, rfl, ?_, HX6.out⟩
  rw [← HIFF.out, beq_iff_eq]
  omega

end Go.Proofs.YtnhdngnolepkcaaDoor

/- A space seen in some columns only: when it fills them (duality), and how often each row stands there. Plain but for the words of the walk. -/
namespace Go.Proofs.YtnhdngnolepkcaaDoor
open Go.RowKit
set_option linter.unusedSectionVars false

section
variable {p k : Nat} {low : List Int} [hI : FldP p k low]
open Fld

/-- A row in some columns. -/
noncomputable def res (C : Nat → Bool) (v : Nat → El p k low) : Nat → El p k low := fun i => if C i = true then v i else 0
/-- Rows that stand in some columns only. -/
def InC (n : Nat) (C : Nat → Bool) (v : Nat → El p k low) : Prop := (∀ i, n ≤ i → v i = 0) ∧ ∀ i, C i = false → v i = 0
theorem res_lin (C : Nat → Bool) (u : Nat → El p k low) (a : El p k low) (r : Nat → El p k low) : res C (lin u a r) = lin (res C u) a (res C r) := by
  funext i
  show (if C i = true then u i + a * r i else 0) = (if C i = true then u i else 0) + a * (if C i = true then r i else 0)
  by_cases h : C i = true
  · rw [if_pos h, if_pos h, if_pos h]
  · rw [if_neg h, if_neg h, if_neg h, mul_zero, add_zero]
theorem res_vz (C : Nat → Bool) : res C (vz : Nat → El p k low) = vz := by
  funext i
  show (if C i = true then (0 : El p k low) else 0) = 0
  split <;> rfl
theorem res_in {n : Nat} {C : Nat → Bool} {v : Nat → El p k low} (h : ∀ i, n ≤ i → v i = 0) : InC n C (res C v) := by
  refine ⟨fun i hi => ?_, fun i hi => ?_⟩
  · show (if C i = true then v i else 0) = 0
    rw [h i hi]; split <;> rfl
  · show (if C i = true then v i else 0) = 0
    rw [if_neg (by rw [hi]; simp)]
theorem res_self {n : Nat} {C : Nat → Bool} {v : Nat → El p k low} (h : InC n C v) : res C v = v := by
  funext i
  show (if C i = true then v i else 0) = v i
  by_cases hc : C i = true
  · rw [if_pos hc]
  · rw [if_neg hc, h.2 i (by simpa using hc)]
theorem dot_res (n : Nat) (C : Nat → Bool) (r y : Nat → El p k low) : dot n (res C r) y = dot n r (res C y) := by
  unfold dot
  refine ks_congr n fun i _ => ?_
  show (if C i = true then r i else 0) * y i = r i * (if C i = true then y i else 0)
  by_cases h : C i = true
  · rw [if_pos h, if_pos h]
  · rw [if_neg h, if_neg h, mul_zero, zero_mul]
theorem span_res {C : Nat → Bool} {V : List (Nat → El p k low)} (x : Nat → El p k low) : Span (V.map (res C)) x ↔ ∃ v, Span V v ∧ res C v = x := by
  constructor
  · refine span_le_of (S := fun x => ∃ v, Span V v ∧ res C v = x) ⟨vz, span_zero V, res_vz C⟩ (fun u a r hu hr => ?_) (fun r hr => ?_)
    · obtain ⟨u', h1, rfl⟩ := hu
      obtain ⟨r', h2, rfl⟩ := hr
      exact ⟨lin u' a r', span_lin V _ _ _ h1 h2, res_lin C _ _ _⟩
    · obtain ⟨v, hv, rfl⟩ := List.mem_map.1 hr
      exact ⟨v, span_mem hv, rfl⟩
  · rintro ⟨v, hv, rfl⟩
    refine span_le_of (S := fun v => Span (V.map (res C)) (res C v)) (by rw [res_vz]; exact span_zero _) (fun u a r hu hr => by rw [res_lin]; exact span_lin _ _ _ _ hu hr) (fun r hr => span_mem (List.mem_map.2 ⟨r, hr, rfl⟩)) hv
theorem zero_res {n : Nat} {C : Nat → Bool} {V : List (Nat → El p k low)} (hz : Zero n V) : Zero n (V.map (res C)) := fun r hr j hj => by
  obtain ⟨v, hv, rfl⟩ := List.mem_map.1 hr
  exact (res_in fun i hi => hz v hv i hi).1 j hj

/-- The columns are filled if, and only if, no row of the normal but 0 stands in them alone. -/
theorem onto_iff {n : Nat} {C : Nat → Bool} {V : List (Nat → El p k low)} (hz : Zero n V) : (∀ x, InC n C x → Span (V.map (res C)) x) ↔ ∀ y, Nul n (Span V) y → InC n C y → y = vz := by
  constructor
  · intro h y hy hc
    funext j
    by_cases hj : j < n
    · by_cases hcj : C j = true
      · have he : InC n C (fun i => if i = j then (1 : El p k low) else 0) := ⟨fun i hi => if_neg (by omega), fun i hi => if_neg (fun e => by subst e; rw [hcj] at hi; cases hi)⟩
        obtain ⟨v, hv, e⟩ := (span_res _).1 (h _ he)
        have h1 := hy.2 v hv
        rw [← res_self hc, ← dot_res, e, dot_comm] at h1
        unfold dot at h1
        rw [ks_pick y hj] at h1
        exact h1
      · exact hc.2 j (by simpa using hcj)
    · exact hc.1 j (by omega)
  · intro h x hx
    rw [← nul_nul' (zero_res hz)]
    refine ⟨hx.1, fun r hr => ?_⟩
    have h1 : res C r = vz := h _ ⟨(res_in hr.1).1, fun v hv => by rw [← dot_res]; exact hr.2 _ ((span_res _).2 ⟨v, hv, rfl⟩)⟩ (res_in hr.1)
    rw [← res_self hx, ← dot_res, h1]
    unfold dot
    refine ks_nil n fun i _ => ?_
    show (0 : El p k low) * _ = 0
    rw [zero_mul]

/-- How many columns. -/
def cntC (C : Nat → Bool) : Nat → Nat
  | 0 => 0
  | n + 1 => cntC C n + (if C n = true then 1 else 0)
theorem card_inC (C : Nat → Bool) : ∀ n, Card (InC (p := p) (k := k) (low := low) n C) ((p ^ k) ^ cntC C n)
  | 0 => Card.one vz fun v => ⟨fun h => funext fun i => h.1 i (Nat.zero_le i), fun h => by rw [h]; exact ⟨fun _ _ => rfl, fun _ _ => rfl⟩⟩
  | n + 1 => by
    by_cases hc : C n = true
    · rw [cntC, if_pos hc, Nat.pow_succ]
      refine ((card_inC C n).pairs (card_el low)).bij (fun x => fun i => if i = n then x.2 else x.1 i) (fun x hx => ⟨fun i hi => ?_, fun i hi => ?_⟩) (fun x y hx hy e => ?_) (fun v hv => ?_)
      · show (if i = n then x.2 else x.1 i) = 0
        rw [if_neg (by omega)]; exact hx.1.1 i (by omega)
      · show (if i = n then x.2 else x.1 i) = 0
        rw [if_neg (fun e => by subst e; rw [hc] at hi; cases hi)]; exact hx.1.2 i hi
      · have h1 := congrFun e n
        simp only [if_true] at h1
        refine Prod.ext (funext fun i => ?_) h1
        have h2 := congrFun e i
        by_cases hi : i = n
        · subst hi; rw [hx.1.1 i (Nat.le_refl _), hy.1.1 i (Nat.le_refl _)]
        · simpa only [if_neg hi] using h2
      · refine ⟨(fun i => if i = n then 0 else v i, v n), ⟨⟨fun i hi => ?_, fun i hi => ?_⟩, trivial⟩, funext fun i => ?_⟩
        · show (if i = n then 0 else v i) = 0
          by_cases e : i = n
          · rw [if_pos e]
          · rw [if_neg e]; exact hv.1 i (by omega)
        · show (if i = n then 0 else v i) = 0
          by_cases e : i = n
          · rw [if_pos e]
          · rw [if_neg e]; exact hv.2 i hi
        · show (if i = n then v n else if i = n then 0 else v i) = v i
          by_cases e : i = n
          · rw [if_pos e, e]
          · rw [if_neg e, if_neg e]
    · rw [cntC, if_neg hc, Nat.add_zero]
      refine (card_inC C n).congr fun v => ⟨fun h => ⟨fun i hi => h.1 i (by omega), h.2⟩, fun h => ⟨fun i hi => ?_, h.2⟩⟩
      by_cases e : i = n
      · exact h.2 i (by subst e; simpa using hc)
      · exact h.1 i (by omega)

theorem lin_back (s z : Nat → El p k low) : lin s 1 (lin z (-1) s) = z := by
  funext i
  unfold lin
  rw [one_mul, neg_mul, one_mul]
  have : s i + (z i + -(s i)) = z i + (s i + -(s i)) := by ac_rfl
  rw [this, add_neg, add_zero]
theorem lin_cancel {s z y : Nat → El p k low} (h : lin s 1 z = lin s 1 y) : z = y := by
  funext i
  have a1 := congrFun h i
  unfold lin at a1
  rw [one_mul, one_mul] at a1
  exact add_cancel a1
theorem lin_self (s : Nat → El p k low) : lin s (-1) s = vz := by
  funext i
  unfold lin
  rw [neg_mul, one_mul, add_neg]; rfl
theorem lin_vz (s : Nat → El p k low) : lin s 1 vz = s := by
  funext i
  unfold lin vz
  rw [mul_zero, add_zero]

/-- Those that are 0 in the columns. -/
def Ker (C : Nat → Bool) (V : List (Nat → El p k low)) (v : Nat → El p k low) : Prop := Span V v ∧ res C v = vz
/-- The rows are as many as those seen times those not seen. -/
theorem card_seen {C : Nat → Bool} {V : List (Nat → El p k low)} {I K : Nat} (hi : Card (Span (V.map (res C))) I) (hk : Card (Ker C V) K) : Card (Span V) (I * K) := by
  have hch : ∀ x, ∃ v : Nat → El p k low, Span (V.map (res C)) x → Span V v ∧ res C v = x := fun x => by
    by_cases h : Span (V.map (res C)) x
    · obtain ⟨v, hv⟩ := (span_res x).1 h; exact ⟨v, fun _ => hv⟩
    · exact ⟨vz, fun g => absurd g h⟩
  obtain ⟨s, hs⟩ := Classical.axiomOfChoice hch
  refine (hi.pairs hk).bij (fun x => lin (s x.1) 1 x.2) (fun x hx => span_lin V _ _ _ (hs x.1 hx.1).1 hx.2.1) (fun x y hx hy e => ?_) (fun v hv => ?_)
  · have h1 : ∀ z : (Nat → El p k low) × (Nat → El p k low), Span (V.map (res C)) z.1 ∧ Ker C V z.2 → res C (lin (s z.1) 1 z.2) = z.1 := fun z hz => by
      rw [res_lin, hz.2.2, lin_vz]; exact (hs z.1 hz.1).2
    have h2 : x.1 = y.1 := by rw [← h1 x hx, ← h1 y hy]; exact congrArg (res C) e
    refine Prod.ext h2 ?_
    have e' : lin (s x.1) 1 x.2 = lin (s y.1) 1 y.2 := e
    rw [← h2] at e'
    exact lin_cancel e'
  · have hx := (span_res (res C v)).2 ⟨v, hv, rfl⟩
    obtain ⟨g1, g2⟩ := hs _ hx
    refine ⟨(res C v, lin v (-1) (s (res C v))), ⟨hx, span_lin V _ _ _ hv g1, ?_⟩, lin_back _ _⟩
    show res C (lin v (-1) (s (res C v))) = vz
    rw [res_lin, g2]; exact lin_self _
/-- Each row is seen as often as 0 is. -/
theorem card_fiber {C : Nat → Bool} {V : List (Nat → El p k low)} {K : Nat} (hk : Card (Ker C V) K) {u : Nat → El p k low} (hu : Span V u) : Card (fun v => Span V v ∧ res C v = res C u) K := by
  refine hk.bij (fun z => lin u 1 z) (fun z hz => ⟨span_lin V _ _ _ hu hz.1, by rw [res_lin, hz.2, lin_vz]⟩) (fun x y _ _ e => lin_cancel e) (fun v hv => ⟨lin v (-1) u, ⟨span_lin V _ _ _ hv.1 hu, ?_⟩, lin_back _ _⟩)
  rw [res_lin, hv.2]; exact lin_self _

/-- Alike often: if, and only if, no row of the normal but 0 stands in the columns alone. -/
theorem seen_iff {n : Nat} {C : Nat → Bool} {V : List (Nat → El p k low)} {I K : Nat} (hz : Zero n V) (hi : Card (Span (V.map (res C))) I) (hk : Card (Ker C V) K) :
    K * (p ^ k) ^ cntC C n = I * K ↔ ∀ y, Nul n (Span V) y → InC n C y → y = vz := by
  rw [← onto_iff hz]
  have hK : 0 < K := by
    obtain ⟨l, _, h2, h3⟩ := hk
    have : vz ∈ l := (h2 vz).2 ⟨span_zero V, res_vz C⟩
    rw [← h3]; exact List.length_pos_of_mem this
  have hsub : ∀ x, Span (V.map (res C)) x → InC n C x := fun x hx => by
    obtain ⟨v, hv, rfl⟩ := (span_res x).1 hx
    exact res_in ((span_sub hz).sup v hv)
  constructor
  · intro h
    have e : I = (p ^ k) ^ cntC C n := by
      rw [Nat.mul_comm K] at h
      exact (Nat.eq_of_mul_eq_mul_right hK h).symm
    subst e
    exact card_all hi (card_inC C n) hsub
  · intro h
    have e : I = (p ^ k) ^ cntC C n := (hi.congr fun x => ⟨hsub x, h x⟩).unique (card_inC C n)
    rw [e, Nat.mul_comm]
end

end Go.Proofs.YtnhdngnolepkcaaDoor
