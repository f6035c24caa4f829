/- Lists of rows, one behind the other, as they are read. No conditions. -/
import Derived.Test.YthkafhmciapipaaDoorJndfgjdfomd
import Derived.Test.YthkafhmciapipaaDoorJgcdkbgjmfo
import Derived.Test.YthkafhmciapipaaDoorJemkcfcceid
import Derived.Test.YthkafhmciapipaaDoorJkoajahjkag
import Derived.Test.YthkafhmciapipaaDoorJfnnifeinhl
import Derived.Test.YthkafhmciapipaaDoorJibjalifbim
namespace Go.Proofs.YthkafhmciapipaaDoor
open Go.RowKit
set_option linter.unusedSectionVars false

theorem row_append_right (xss yss : List (List Int)) (j : Nat) (h : xss.length ≤ j) : row (xss ++ yss) j = row yss (j - xss.length) := by
  unfold row; rw [List.getD_eq_getElem?_getD, List.getD_eq_getElem?_getD, List.getElem?_append_right h]
theorem Rows2.append {w : World} {vs us : List Value} {xss yss : List (List Int)} (h : Rows2 w vs xss) (g : Rows2 w us yss) : Rows2 w (vs ++ us) (xss ++ yss) := by
  refine ⟨by rw [List.length_append, List.length_append, h.1, g.1], fun j v hv => ?_⟩
  by_cases hj : j < vs.length
  · rw [List.getElem?_append_left hj] at hv
    rw [row_append_left _ _ _ (by rw [← h.1]; exact hj)]
    exact h.2 j v hv
  · rw [List.getElem?_append_right (by omega)] at hv
    rw [row_append_right _ _ _ (by rw [← h.1]; omega), ← h.1]
    exact g.2 _ v hv
theorem Rows2.one {w : World} {vs : List Value} {xss : List (List Int)} (h : Rows2 w vs xss) : ∀ v ∈ vs, v.oneCell' = true := fun v hv => by
  obtain ⟨j, hj, rfl⟩ := List.mem_iff_getElem.1 hv
  obtain ⟨a, c, e, _⟩ := h.2 j _ (List.getElem?_eq_getElem hj)
  rw [e]; rfl

section
variable {p k : Nat} {low : List Int} [hI : FldP p k low]
theorem rowsN_append (n : Nat) (L M : List (Nat → Nat)) : rowsN n (L ++ M) = rowsN n L ++ rowsN n M := by unfold rowsN; rw [List.map_append]
theorem reads_append {n : Nat} {A B : List (Nat → El p k low)} {w : World} {ao : Option Addr} (h : ReadsL w ao (rowsN n (A.map toN) ++ rowsN n (B.map toN))) : ReadsL w ao (rowsN n ((A ++ B).map toN)) := by rw [List.map_append, rowsN_append]; exact h
end


end Go.Proofs.YthkafhmciapipaaDoor

/- What space.Join and space.Meet answer. Conditions: primes; what is read. -/
namespace Go.Proofs.YthkafhmciapipaaDoor
open Go.RowKit
set_option linter.unusedSectionVars false

/-- slices.Concat of two lists. -/
theorem concat_lists (b off cap : Nat) (ao bo : Option Addr) (ac bc m l : Nat) (xss yss : List (List Int)) (w : World) (hm : xss.length = m) (hl : yss.length = l) (hb : b < w.heap.size) (h0 : w.cell? ⟨b, off, none⟩ = some (.slice ao m ac)) (h1 : w.cell? ⟨b, off + 1, none⟩ = some (.slice bo l bc)) (hx : ReadsL w ao xss) (hy : ReadsL w bo yss) (lx : m ≤ 1000) (ly : l ≤ 1000) :
    Calls Tryd.prog 39 #[.slice (some ⟨b, off, none⟩) 2 cap] w fun e w' => ∃ ao' cap', e = .returned (.slice ao' (m + l) cap') ∧ ReadsL w' ao' (xss ++ yss) ∧ Ext w w' := by
  subst hm hl
  obtain ⟨vs, r1, r2⟩ := hx
  obtain ⟨us, s1, s2⟩ := hy
  refine (concat_any b off 2 cap (fun j => if j = 0 then vs else us) w (by omega) hb fun j hj => ?_).mono ?_
  · match j, hj with
    | 0, _ => exact ⟨ao, ac, by rw [if_pos rfl, r2.1]; exact h0, by rw [if_pos rfl]; exact r1, by rw [if_pos rfl, r2.1]; exact lx, by rw [if_pos rfl]; exact r2.one⟩
    | 1, _ => exact ⟨bo, bc, by rw [if_neg (by omega), s2.1]; exact h1, by rw [if_neg (by omega)]; exact s1, by rw [if_neg (by omega), s2.1]; exact ly, by rw [if_neg (by omega)]; exact s2.one⟩
  · rintro e w' ⟨ao', cap', rfl, h2, h3⟩
    have e1 : catV (fun j => if j = 0 then vs else us) 2 = vs ++ us := rfl
    rw [e1] at h2 ⊢
    have e2 : (vs ++ us).length = xss.length + yss.length := by rw [List.length_append, r2.1, s2.1]
    rw [e2] at h2 ⊢
    exact ⟨ao', cap', rfl, ⟨_, h2.reads, (r2.append s2).ext h3⟩, h3⟩

set_option maxHeartbeats 4000000 in
theorem spJoin_no (p k : Int) (ao bo do' : Option Addr) (len cap mc lc : Nat) (low : List Int) (n : Int) (xss yss : List (List Int)) (w : World) (hP : Primes w) (hl : low.length = len) (hr : Reads w ao (ints low)) (hbig : xss.length ≤ maxLen) (hx : ReadsL w bo xss) (hbig2 : yss.length ≤ maxLen) (hy : ReadsL w do' yss) (h0 : withAll p k low n [(bo, mc, xss), (do', lc, yss)] ≠ 0) :
    SaysNo 21 #[.agg #[.int .i64 p, .int .i64 k, .slice ao len cap], .int .i64 n, .slice bo xss.length mc, .slice do' yss.length lc] w (withAll p k low n [(bo, mc, xss), (do', lc, yss)]) := by
  have HXA : Hid (Ext w (w.alloc (.cells #[.int .i64 p, .int .i64 k, .slice ao len cap] 29))) := (Ext.refl w).alloc _
  have HXB := Lib.hid (HXA.out.alloc (.cells #[.slice bo xss.length mc, .slice do' yss.length lc] 30))
  have HW := Lib.hid (withs_no p k ao len cap low n (w.heap.size + 1) 0 2 2 [(bo, mc, xss), (do', lc, yss)] _ (hP.ext HXB.out) hl (HXB.out.reads hr) rfl (by omega) (readsAll_two (by simp) (hx.ext HXA.out) (hy.ext HXA.out) hbig hbig2) h0)
  obtain ⟨c, hc⟩ : ∃ c, withAll p k low n [(bo, mc, xss), (do', lc, yss)] = c := ⟨_, rfl⟩
  obtain ⟨m, hm⟩ : ∃ m, xss.length = m := ⟨_, rfl⟩
  obtain ⟨l, hl2⟩ : ∃ l, yss.length = l := ⟨_, rfl⟩
  unfold SaysNo
  rw [hc] at HW h0 ⊢
  rw [hm, hl2] at HW HXB ⊢
  have b1 : (c != 0) = true := by rw [bne_iff_ne]; exact h0
  clear hc hm hl2 hP hl hr hx hy hbig hbig2 h0
  go_enter Tryd.func21, Tryd.ntmps21
  go_wp2_with fail
  refine Calls.mono HW.out ?_
  rintro e w1 ⟨rfl, hx1⟩
  have HX1 := Lib.hid (HXB.out.trans hx1)
  clear hx1
  go_wp2
  exact bodyPost_ret (v := .tuple #[.slice none 0 0, .int .i64 c]) (by simp [results, Tryd.results21, go_sem]) rfl ⟨rfl, HX1.out⟩

set_option maxHeartbeats 4000000 in
theorem spMeet_no (p k : Int) (ao bo do' : Option Addr) (len cap mc lc : Nat) (low : List Int) (n : Int) (xss yss : List (List Int)) (w : World) (hP : Primes w) (hl : low.length = len) (hr : Reads w ao (ints low)) (hbig : xss.length ≤ maxLen) (hx : ReadsL w bo xss) (hbig2 : yss.length ≤ maxLen) (hy : ReadsL w do' yss) (h0 : withAll p k low n [(bo, mc, xss), (do', lc, yss)] ≠ 0) :
    SaysNo 22 #[.agg #[.int .i64 p, .int .i64 k, .slice ao len cap], .int .i64 n, .slice bo xss.length mc, .slice do' yss.length lc] w (withAll p k low n [(bo, mc, xss), (do', lc, yss)]) := by
  have HXA : Hid (Ext w (w.alloc (.cells #[.int .i64 p, .int .i64 k, .slice ao len cap] 29))) := (Ext.refl w).alloc _
  have HXB := Lib.hid (HXA.out.alloc (.cells #[.slice bo xss.length mc, .slice do' yss.length lc] 30))
  have HW := Lib.hid (withs_no p k ao len cap low n (w.heap.size + 1) 0 2 2 [(bo, mc, xss), (do', lc, yss)] _ (hP.ext HXB.out) hl (HXB.out.reads hr) rfl (by omega) (readsAll_two (by simp) (hx.ext HXA.out) (hy.ext HXA.out) hbig hbig2) h0)
  obtain ⟨c, hc⟩ : ∃ c, withAll p k low n [(bo, mc, xss), (do', lc, yss)] = c := ⟨_, rfl⟩
  obtain ⟨m, hm⟩ : ∃ m, xss.length = m := ⟨_, rfl⟩
  obtain ⟨l, hl2⟩ : ∃ l, yss.length = l := ⟨_, rfl⟩
  unfold SaysNo
  rw [hc] at HW h0 ⊢
  rw [hm, hl2] at HW HXB ⊢
  have b1 : (c != 0) = true := by rw [bne_iff_ne]; exact h0
  clear hc hm hl2 hP hl hr hx hy hbig hbig2 h0
  go_enter Tryd.func22, Tryd.ntmps22
  go_wp2_with fail
  refine Calls.mono HW.out ?_
  rintro e w1 ⟨rfl, hx1⟩
  have HX1 := Lib.hid (HXB.out.trans hx1)
  clear hx1
  go_wp2
  exact bodyPost_ret (v := .tuple #[.slice none 0 0, .int .i64 c]) (by simp [results, Tryd.results22, go_sem]) rfl ⟨rfl, HX1.out⟩

section
variable {p k : Nat} {low : List Int} [hI : FldP p k low]

set_option maxHeartbeats 4000000 in
theorem spJoin_ok (n : Nat) (ao bo do' : Option Addr) (cap mc lc : Nat) (xss yss : List (List Int)) (w : World) (hP : Primes w) (hR : IsRoom p k low n) (hr : Reads w ao (ints low)) (hx : ReadsL w bo xss) (hq : rowsFault (p ^ k) n xss = 0) (hy : ReadsL w do' yss) (hq2 : rowsFault (p ^ k) n yss = 0) :
    SaysBasis 21 #[.agg #[.int .i64 p, .int .i64 k, .slice ao k cap], .int .i64 n, .slice bo xss.length mc, .slice do' yss.length lc] w n (Span (vecs (p := p) (k := k) (low := low) xss ++ vecs yss)) := by
  have hbig := (rowsFault_zero hq).1
  have hbig2 := (rowsFault_zero hq2).1
  have HXA : Hid (Ext w (w.alloc (.cells #[.int .i64 p, .int .i64 k, .slice ao k cap] 29))) := (Ext.refl w).alloc _
  have HXB := Lib.hid (HXA.out.alloc (.cells #[.slice bo xss.length mc, .slice do' yss.length lc] 30))
  have HW := Lib.hid (withs_ok p k n ao cap low (w.heap.size + 1) 0 2 2 [(bo, mc, xss), (do', lc, yss)] _ (hP.ext HXB.out) hR (HXB.out.reads hr) rfl (by omega) (readsAll_two (by simp) (hx.ext HXA.out) (hy.ext HXA.out) (by unfold maxLen; omega) (by unfold maxLen; omega)) (fun t ht => by
    have ht2 : t = (bo, mc, xss) ∨ t = (do', lc, yss) := (by simpa using ht)
    rcases ht2 with rfl | rfl
    · exact hq
    · exact hq2))
  have HCO : Hid (∀ w', Ext w w' → _) := fun w' (h1 : Ext w w') => concat_lists w'.heap.size 0 2 bo do' mc lc xss.length yss.length xss yss (w'.alloc (.cells #[.slice bo xss.length mc, .slice do' yss.length lc] 30)) rfl rfl (by simp) (Blk.new _ _ _).two.1 (Blk.new _ _ _).two.2 ((hx.ext h1).ext (ext_box _ _ _)) ((hy.ext h1).ext (ext_box _ _ _)) (by omega) (by omega)
  have HB : Hid (∀ b ro rc w', Ext w w' → RoomAt w' b p k low n → ReadsL w' ro (xss ++ yss) → _) := fun b ro rc w' (h1 : Ext w w') (h2 : RoomAt w' b p k low n) (h3 : ReadsL w' ro (xss ++ yss)) => basis_el n b ro (xss.length + yss.length) rc (vecs (p := p) (k := k) (low := low) xss ++ vecs yss) w' h2 hR.n1 hR.n6 ((vecs_zero hq).append (vecs_zero hq2)) (by rw [List.length_append, vecs_length, vecs_length]) (by omega) (reads_append (by rw [vecs_rows hq, vecs_rows hq2]; exact h3))
  obtain ⟨S, hS⟩ : ∃ S, Span (vecs (p := p) (k := k) (low := low) xss ++ vecs yss) = S := ⟨_, rfl⟩
  obtain ⟨m, hm⟩ : ∃ m, xss.length = m := ⟨_, rfl⟩
  obtain ⟨l, hl2⟩ : ∃ l, yss.length = l := ⟨_, rfl⟩
  unfold SaysBasis
  rw [hm, hl2] at HW HXB HB HCO ⊢
  rw [hS] at HB ⊢
  clear hP hr hx hbig hq hy hq2 hbig2 hS hm hl2 hR
  go_enter Tryd.func21, Tryd.ntmps21
  go_wp2_with fail
  refine Calls.mono HW.out ?_
  rintro e w1 ⟨r, rfl, hra, hx1⟩
  have HX1 := Lib.hid (HXB.out.trans hx1)
  have HRA := Lib.hid hra
  have HC1 := Lib.hid (HCO.out w1 HX1.out)
  clear hx1 hra
  go_wp2_with fail
  refine Calls.mono HC1.out ?_
  rintro e w2 ⟨ro, rc, rfl, h1, h2⟩
  have HX2 := Lib.hid (HX1.out.trans ((ext_box _ _ _).trans h2))
  have HB1 := Lib.hid (HB.out r ro rc w2 HX2.out (HRA.out.ext ((ext_box _ _ _).trans h2)) h1)
  clear h1 h2
  go_wp2_with fail
  refine Calls.mono HB1.out ?_
  rintro e w3 ⟨ro, rl, rc, out, rfl, h1, h2, h3, h4⟩
  have HE := Lib.hid (And.intro h1 (And.intro h2 (And.intro h3 (HX2.out.trans h4))))
  clear h1 h2 h3 h4
  go_wp2
  exact bodyPost_ret (v := .tuple #[.slice ro rl rc, .int .i64 0]) (by simp [results, Tryd.results21, go_sem]) rfl ⟨ro, rl, rc, out, rfl, HE.out⟩

/-- A normal that was found, as a list over the field. -/
theorem basisI_list {n : Nat} {xss : List (List Int)} {S : (Nat → El p k low) → Prop} (h : BasisI n xss S) : ∃ V, xss = rowsN n (V.map toN) ∧ Zero n V ∧ (∀ v, Span V v ↔ S v) ∧ V.length ≤ n := by
  have hl := h.len
  obtain ⟨L, P, rfl, h1, h2⟩ := h
  rw [rowsN_length, List.length_map] at hl
  exact ⟨L, rfl, h1.zero, h2, hl⟩

set_option maxHeartbeats 4000000 in
theorem spMeet_ok (n : Nat) (ao bo do' : Option Addr) (cap mc lc : Nat) (xss yss : List (List Int)) (w : World) (hP : Primes w) (hR : IsRoom p k low n) (hr : Reads w ao (ints low)) (hx : ReadsL w bo xss) (hq : rowsFault (p ^ k) n xss = 0) (hy : ReadsL w do' yss) (hq2 : rowsFault (p ^ k) n yss = 0) :
    SaysBasis 22 #[.agg #[.int .i64 p, .int .i64 k, .slice ao k cap], .int .i64 n, .slice bo xss.length mc, .slice do' yss.length lc] w n (fun v => Span (vecs (p := p) (k := k) (low := low) xss) v ∧ Span (vecs yss) v) := by
  have hbig := (rowsFault_zero hq).1
  have hbig2 := (rowsFault_zero hq2).1
  have HXA : Hid (Ext w (w.alloc (.cells #[.int .i64 p, .int .i64 k, .slice ao k cap] 29))) := (Ext.refl w).alloc _
  have HXB := Lib.hid (HXA.out.alloc (.cells #[.slice bo xss.length mc, .slice do' yss.length lc] 30))
  have HW := Lib.hid (withs_ok p k n ao cap low (w.heap.size + 1) 0 2 2 [(bo, mc, xss), (do', lc, yss)] _ (hP.ext HXB.out) hR (HXB.out.reads hr) rfl (by omega) (readsAll_two (by simp) (hx.ext HXA.out) (hy.ext HXA.out) (by unfold maxLen; omega) (by unfold maxLen; omega)) (fun t ht => by
    have ht2 : t = (bo, mc, xss) ∨ t = (do', lc, yss) := (by simpa using ht)
    rcases ht2 with rfl | rfl
    · exact hq
    · exact hq2))
  have hn1 := hR.n1
  have hn6 := hR.n6
  have HNA : Hid (∀ b w', Ext w w' → RoomAt w' b p k low n → _) := fun b w' (h1 : Ext w w') (h2 : RoomAt w' b p k low n) => normal_el n b bo xss.length mc (vecs (p := p) (k := k) (low := low) xss) w' h2 hn1 hn6 (vecs_zero hq) (vecs_length xss) (by omega) (by rw [vecs_rows hq]; exact hx.ext h1)
  have HNB : Hid (∀ b w', Ext w w' → RoomAt w' b p k low n → _) := fun b w' (h1 : Ext w w') (h2 : RoomAt w' b p k low n) => normal_el n b do' yss.length lc (vecs (p := p) (k := k) (low := low) yss) w' h2 hn1 hn6 (vecs_zero hq2) (vecs_length yss) (by omega) (by rw [vecs_rows hq2]; exact hy.ext h1)
  have HMI : Hid (∀ NA NB : List (Nat → El p k low), _ → _ → _) := fun NA NB h1 h2 => meet_is (n := n) (NA := NA) (NB := NB) (vecs_zero (p := p) (k := k) (low := low) hq) (vecs_zero (p := p) (k := k) (low := low) hq2) h1 h2
  obtain ⟨SA, hSA⟩ : ∃ S, Span (vecs (p := p) (k := k) (low := low) xss) = S := ⟨_, rfl⟩
  obtain ⟨SB, hSB⟩ : ∃ S, Span (vecs (p := p) (k := k) (low := low) yss) = S := ⟨_, rfl⟩
  obtain ⟨m, hm⟩ : ∃ m, xss.length = m := ⟨_, rfl⟩
  obtain ⟨l, hl2⟩ : ∃ l, yss.length = l := ⟨_, rfl⟩
  unfold SaysBasis
  rw [hm, hl2] at HW HXB ⊢
  rw [hm] at HNA
  rw [hl2] at HNB
  rw [hSA] at HNA
  rw [hSB] at HNB
  rw [hSA, hSB] at HMI
  rw [hSA, hSB]
  clear hP hr hx hbig hq hy hq2 hbig2 hSA hSB hm hl2 hR
  go_enter Tryd.func22, Tryd.ntmps22
  go_wp2_with fail
  refine Calls.mono HW.out ?_
  rintro e w1 ⟨r, rfl, hra, hx1⟩
  have HX1 := Lib.hid (HXB.out.trans hx1)
  have HRA := Lib.hid hra
  have HC1 := Lib.hid (HNA.out r w1 HX1.out hra)
  clear hx1 hra
  go_wp2_with fail
  refine Calls.mono HC1.out ?_
  rintro e w2 ⟨uo, ul, uc, us, rfl, h1, h2, h3, h4⟩
  obtain ⟨U, rfl, hUz, hUs, hUl⟩ := basisI_list h3
  rw [rowsN_length, List.length_map] at h1
  have HU := Lib.hid h2
  have HUZ := Lib.hid hUz
  have HUS := Lib.hid hUs
  have HX2 := Lib.hid (HX1.out.trans h4)
  have HRA2 := Lib.hid (HRA.out.ext h4)
  have HC2 := Lib.hid (HNB.out r w2 HX2.out HRA2.out)
  obtain rfl := h1
  clear h2 h3 h4 hUz hUs
  go_wp2_with fail
  refine Calls.mono HC2.out ?_
  rintro e w3 ⟨vo, vl, vc, vs, rfl, h1, h2, h3, h4⟩
  obtain ⟨V, rfl, hVz, hVs, hVl⟩ := basisI_list h3
  rw [rowsN_length, List.length_map] at h1
  have HVS := Lib.hid hVs
  have HX3 := Lib.hid (HX2.out.trans h4)
  have HRA3 := Lib.hid (HRA2.out.ext h4)
  have HCO := Lib.hid (concat_lists w3.heap.size 0 2 uo vo uc vc U.length vl (rowsN n (U.map toN)) (rowsN n (V.map toN)) (w3.alloc (.cells #[.slice uo U.length uc, .slice vo vl vc] 30)) (by rw [rowsN_length, List.length_map]) (by rw [rowsN_length, List.length_map]; exact h1) (by simp) (Blk.new _ _ _).two.1 (Blk.new _ _ _).two.2 ((HU.out.ext h4).ext (ext_box _ _ _)) (h2.ext (ext_box _ _ _)) (by omega) (by omega))
  have HB : Hid (∀ ro rc w', Ext w3 w' → ReadsL w' ro (rowsN n (U.map toN) ++ rowsN n (V.map toN)) → _) := fun ro rc w' (h9 : Ext w3 w') (h8 : ReadsL w' ro (rowsN n (U.map toN) ++ rowsN n (V.map toN))) => normal_el n r ro (U.length + vl) rc (U ++ V) w' (HRA3.out.ext h9) hn1 hn6 (HUZ.out.append hVz) (by rw [List.length_append, h1]) (by omega) (reads_append h8)
  clear h1 h2 h3 h4 hVz hVs
  go_wp2_with fail
  refine Calls.mono HCO.out ?_
  rintro e w4 ⟨ro, rc, rfl, h1, h2⟩
  have HX4 := Lib.hid ((ext_box _ _ _).trans h2)
  have HB1 := Lib.hid (HB.out ro rc w4 HX4.out h1)
  clear h1 h2
  go_wp2_with fail
  refine Calls.mono HB1.out ?_
  rintro e w5 ⟨ro, rl, rc, out, rfl, h1, h2, h3, h4⟩
  have HE := Lib.hid (And.intro h1 (And.intro h2 (And.intro (h3.congr (HMI.out U V HUS.out HVS.out)) (HX3.out.trans (HX4.out.trans h4)))))
  clear h1 h2 h3 h4
  go_wp2
  exact bodyPost_ret (v := .tuple #[.slice ro rl rc, .int .i64 0]) (by simp [results, Tryd.results22, go_sem]) rfl ⟨ro, rl, rc, out, rfl, HE.out⟩
end

end Go.Proofs.YthkafhmciapipaaDoor

/- What parterreref1.Ints answers: are two lists the same? Conditions: both can be read. -/
namespace Go.Proofs.YthkafhmciapipaaDoor
open Go.RowKit

set_option maxHeartbeats 400000 in
theorem ints_yes (ao bo : Option Addr) (n cap cap' : Nat) (xs : List Int) (w : World) (hx : xs.length = n) (hbig : n ≤ maxLen) (ra : Reads w ao (ints xs)) (rb : Reads w bo (ints xs)) :
    Calls Tryd.prog 36 #[.slice ao n cap, .slice bo n cap'] w fun e w' => e = .returned (.bool true) ∧ Drawn w w' := by
  unfold maxLen at hbig
  have HX := Lib.hid hx
  have RA := Lib.hid ra
  have RB := Lib.hid rb
  clear hx ra rb
  go_enter Tryd.func36, Tryd.ntmps36
  go_wp2
  go_loopw [5] (fun i wr => ∃ k : Nat, k ≤ n ∧ i = .int .i64 k ∧ Drawn w wr) (fun i _ => n - (intOf i).toNat)
  case atStart => exact ⟨0, by omega, rfl, Drawn.refl _⟩
  case round =>
    obtain ⟨k, hk, rfl, hd⟩ := hrel
    by_cases hlt : k < n
    · obtain ⟨b, off, rfl, hb, hc⟩ := Reads.int RA.out (by rw [HX.out]; omega)
      obtain ⟨b', off', rfl, hb', hc'⟩ := Reads.int RB.out (by rw [HX.out]; omega)
      have c1 : wr.cell? ⟨b, off + k, none⟩ = some (.int .i64 (nth xs k)) := by rw [hd.cell]; exact hc k (by rw [HX.out]; omega)
      have c2 : wr.cell? ⟨b', off' + k, none⟩ = some (.int .i64 (nth xs k)) := by rw [hd.cell]; exact hc' k (by rw [HX.out]; omega)
      have HD := Lib.hid hd
      clear hc hc' hd
      go_wp2_with fail
      go_quiet (fail)
      go_wp2
      go_roundw
      case rel => exact ⟨k + 1, by omega, by go_num, HD.out.trans (Drawn.drewN _ _)⟩
      case measure => simp [intOf]; omega
    · go_wp2
      go_ret
      exact ⟨rfl, hd⟩

set_option maxHeartbeats 400000 in
/-- Lists that part somewhere, or that are not as long. -/
theorem ints_no (ao bo : Option Addr) (n m cap cap' : Nat) (xs ys : List Int) (w : World) (hx : xs.length = n) (hy : ys.length = m) (hbig : n ≤ maxLen) (hbig' : m ≤ maxLen) (ra : Reads w ao (ints xs)) (rb : Reads w bo (ints ys)) (hne : xs ≠ ys) :
    Calls Tryd.prog 36 #[.slice ao n cap, .slice bo m cap'] w fun e w' => e = .returned (.bool false) ∧ Drawn w w' := by
  unfold maxLen at hbig hbig'
  have HX := Lib.hid hx
  have HY := Lib.hid hy
  have RA := Lib.hid ra
  have RB := Lib.hid rb
  have HN := Lib.hid hne
  clear hx ra rb hy hne
  by_cases hnm : n = m
  · subst hnm
    go_enter Tryd.func36, Tryd.ntmps36
    go_wp2
    go_loopw [5] (fun i wr => ∃ k : Nat, k ≤ n ∧ i = .int .i64 k ∧ Drawn w wr ∧ ∀ j, j < k → nth xs j = nth ys j) (fun i _ => n - (intOf i).toNat)
    case atStart => exact ⟨0, by omega, rfl, Drawn.refl _, fun j hj => by omega⟩
    case round =>
      obtain ⟨k, hk, rfl, hd, hall⟩ := hrel
      have HA := Lib.hid hall
      clear hall
      by_cases hlt : k < n
      · obtain ⟨b, off, rfl, hb, hc⟩ := Reads.int RA.out (by rw [HX.out]; omega)
        obtain ⟨b', off', rfl, hb', hc'⟩ := Reads.int RB.out (by rw [HY.out]; omega)
        have c1 : wr.cell? ⟨b, off + k, none⟩ = some (.int .i64 (nth xs k)) := by rw [hd.cell]; exact hc k (by rw [HX.out]; omega)
        have c2 : wr.cell? ⟨b', off' + k, none⟩ = some (.int .i64 (nth ys k)) := by rw [hd.cell]; exact hc' k (by rw [HY.out]; omega)
        have HD := Lib.hid hd
        clear hc hc' hd
        by_cases he : nth xs k = nth ys k
        · have HE := Lib.hid he
          have hb2 : (nth xs k != nth ys k) = false := by rw [he]; simp
          clear he
          go_wp2_with fail
          go_quiet (fail)
          go_wp2
          go_roundw
          case rel => exact ⟨k + 1, by omega, by go_num, HD.out.trans (Drawn.drewN _ _), fun j hj => by
            rcases Nat.lt_succ_iff_lt_or_eq.1 hj with h | rfl
            · exact HA.out j h
            · exact HE.out⟩
          case measure => simp [intOf]; omega
        · have hb2 : (nth xs k != nth ys k) = true := by rw [bne_iff_ne]; exact he
          clear he
          go_wp2_with fail
          go_quiet (fail)
          go_wp2
          go_ret
          exact ⟨rfl, HD.out.trans (Drawn.drewN _ _)⟩
      · exfalso
        exact HN.out (nth_ext xs ys (by rw [HX.out, HY.out]) fun j hj => HA.out j (by rw [HX.out] at hj; omega))
  · have hb2 : ((n : Int) != (m : Int)) = true := by rw [bne_iff_ne]; omega
    go_enter Tryd.func36, Tryd.ntmps36
    go_wp2
    go_ret
    exact ⟨rfl, Drawn.refl _⟩

theorem ints_any (ao bo : Option Addr) (n m cap cap' : Nat) (xs ys : List Int) (w : World) (hx : xs.length = n) (hy : ys.length = m) (hbig : n ≤ maxLen) (hbig' : m ≤ maxLen) (ra : Reads w ao (ints xs)) (rb : Reads w bo (ints ys)) :
    Calls Tryd.prog 36 #[.slice ao n cap, .slice bo m cap'] w fun e w' => e = .returned (.bool (decide (xs = ys))) ∧ Drawn w w' := by
  by_cases h : xs = ys
  · subst h
    obtain rfl : n = m := by omega
    rw [decide_eq_true rfl]
    exact ints_yes ao bo n cap cap' xs w hx hbig ra rb
  · rw [decide_eq_false h]
    exact ints_no ao bo n m cap cap' xs ys w hx hy hbig hbig' ra rb h

end Go.Proofs.YthkafhmciapipaaDoor
