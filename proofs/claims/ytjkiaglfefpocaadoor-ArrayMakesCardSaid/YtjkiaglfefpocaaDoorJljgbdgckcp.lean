/- What space.Basis and space.Normal answer. Conditions: primes; what is read. -/
import Derived.Test.YtjkiaglfefpocaaDoorJoooopppefh
import Derived.Test.YtjkiaglfefpocaaDoorJbhdbjpkefc
import Derived.Test.YtjkiaglfefpocaaDoorJalhlnaekkh
namespace Go.Proofs.YtjkiaglfefpocaaDoor
open Go.RowKit
set_option linter.unusedSectionVars false

/-- One list of rows, boxed ahead of the call of with. -/
theorem readsAll_one {w : World} {ao : Option Addr} {mc : Nat} {xss : List (List Int)} {b : Nat} (hb : b = w.heap.size) (hx : ReadsL w ao xss) (hbig : xss.length ≤ maxLen) : ReadsAll (w.alloc (.cells #[.slice ao xss.length mc] 25)) b 0 [(ao, mc, xss)] := by
  subst hb
  refine ⟨by simp, fun j t ht => ?_⟩
  cases j with
  | zero =>
    obtain rfl : (ao, mc, xss) = t := by simpa using ht
    exact ⟨(Blk.new' _ _ _ (by simp)).one, hx.ext (ext_box _ _ _), hbig⟩
  | succ j => simp at ht
theorem readsAll_two {w : World} {ao bo : Option Addr} {mc nc : Nat} {xss yss : List (List Int)} {b : Nat} (hb : b = w.heap.size) (hx : ReadsL w ao xss) (hy : ReadsL w bo yss) (hbig : xss.length ≤ maxLen) (hbig2 : yss.length ≤ maxLen) : ReadsAll (w.alloc (.cells #[.slice ao xss.length mc, .slice bo yss.length nc] 25)) b 0 [(ao, mc, xss), (bo, nc, yss)] := by
  subst hb
  have hB := (Blk.new' w #[.slice ao xss.length mc, .slice bo yss.length nc] 25 rfl).two
  refine ⟨by simp, fun j t ht => ?_⟩
  match j, ht with
  | 0, ht =>
    obtain rfl : (ao, mc, xss) = t := by simpa using ht
    exact ⟨hB.1, hx.ext (ext_box _ _ _), hbig⟩
  | 1, ht =>
    obtain rfl : (bo, nc, yss) = t := by simpa using ht
    exact ⟨hB.2, hy.ext (ext_box _ _ _), hbig2⟩
  | j + 2, ht => simp at ht

/-- The room is open. -/
theorem withAll_ok {p k n : Nat} {low : List Int} {ts : List (Option Addr × Nat × List (List Int))} (hR : IsRoom p k low n) (ht : ∀ t, t ∈ ts → rowsFault (p ^ k) n t.2.2 = 0) : withAll p k low n ts = 0 := by
  unfold withAll
  rw [if_neg (fun h => h hR.fault), hR.fld.fault.2]
  exact allFault_zero ts ht
theorem withAll_is {p k n : Int} {low : List Int} {ts : List (Option Addr × Nat × List (List Int))} (h : withAll p k low n ts = 0) : ∃ P K N : Nat, p = P ∧ k = K ∧ n = N ∧ IsRoom P K low N ∧ ∀ t, t ∈ ts → rowsFault (P ^ K) N t.2.2 = 0 := by
  unfold withAll at h
  by_cases h2 : roomFault p k low n = 0
  · rw [if_neg (fun h => h h2)] at h
    obtain ⟨P, K, N, rfl, rfl, rfl, hR⟩ := roomFault_zero h2
    rw [hR.fld.fault.2] at h
    exact ⟨P, K, N, rfl, rfl, rfl, hR, allFault_each h⟩
  · rw [if_pos h2] at h; exact absurd h h2

/-- What with answers where all is right. -/
theorem withs_ok (p k n : Nat) (ao : Option Addr) (cap : Nat) (low : List Int) (b off m mc : Nat) (ts : List (Option Addr × Nat × List (List Int))) (w : World) (hP : Primes w) (hR : IsRoom p k low n) (hr : Reads w ao (ints low)) (hm : ts.length = m) (hm4 : m ≤ 4) (ht : ReadsAll w b off ts) (hq : ∀ t, t ∈ ts → rowsFault (p ^ k) n t.2.2 = 0) :
    Calls Tryd.prog 35 #[.agg #[.int .i64 p, .int .i64 k, .slice ao k cap], .int .i64 n, .slice (some ⟨b, off, none⟩) m mc] w fun e w' => ∃ r, e = .returned (.tuple #[.pointer (some ⟨r, 0, none⟩), .int .i64 0]) ∧ RoomAt w' r p k low n ∧ Ext w w' := by
  refine (withs_any p k ao k cap low n b off m mc ts w hP hR.fld.len hr hm hm4 ht).mono ?_
  rintro e w' ⟨v, rfl, hp, hx⟩
  rw [withAll_ok hR hq] at hp ⊢
  obtain ⟨P, K, N, r, e1, e2, e3, _, rfl, h3, _⟩ := hp.2 rfl
  obtain rfl : p = P := by omega
  obtain rfl : k = K := by omega
  obtain rfl : n = N := by omega
  exact ⟨r, rfl, h3, hx⟩
/-- What with answers where something is wrong. -/
theorem withs_no (p k : Int) (ao : Option Addr) (len cap : Nat) (low : List Int) (n : Int) (b off m mc : Nat) (ts : List (Option Addr × Nat × List (List Int))) (w : World) (hP : Primes w) (hl : low.length = len) (hr : Reads w ao (ints low)) (hm : ts.length = m) (hm4 : m ≤ 4) (ht : ReadsAll w b off ts) (h0 : withAll p k low n ts ≠ 0) :
    Calls Tryd.prog 35 #[.agg #[.int .i64 p, .int .i64 k, .slice ao len cap], .int .i64 n, .slice (some ⟨b, off, none⟩) m mc] w fun e w' => e = .returned (.tuple #[.pointer none, .int .i64 (withAll p k low n ts)]) ∧ Ext w w' := by
  refine (withs_any p k ao len cap low n b off m mc ts w hP hl hr hm hm4 ht).mono ?_
  rintro e w' ⟨v, rfl, hp, hx⟩
  obtain rfl := hp.1 h0
  exact ⟨rfl, hx⟩

section
variable {p k : Nat} {low : List Int} [hI : FldP p k low]

/-- The two walks of a room, over the field. -/
theorem basis_el (n b : Nat) (ao : Option Addr) (len cap : Nat) (V : List (Nat → El p k low)) (w : World) (hb : RoomAt w b p k low n) (hn1 : 1 ≤ n) (hn6 : n ≤ 6) (hz : Zero n V) (hlen : V.length = len) (hbig : len ≤ 100) (hr : ReadsL w ao (rowsN n (V.map toN))) :
    Calls Tryd.prog 44 #[.pointer (some ⟨b, 0, none⟩), .slice ao len cap] w fun e w' => ∃ (bo : Option Addr) (bl bcap : Nat) (xss : List (List Int)), e = .returned (.slice bo bl bcap) ∧ xss.length = bl ∧ ReadsL w' bo xss ∧ BasisI n xss (Span V) ∧ Ext w w' := by
  refine (basis_any p k n b low ao len cap (V.map toN) w hI.out hb hn1 hn6 (by rw [List.length_map, hlen]) hbig (allLt_toN n V) hr).mono ?_
  rintro e w' ⟨bo, bcap, rfl, h1, h2⟩
  exact ⟨bo, _, bcap, _, rfl, rowsN_length _ _, h1, basN_basis hz, h2⟩
theorem normal_el (n b : Nat) (ao : Option Addr) (len cap : Nat) (V : List (Nat → El p k low)) (w : World) (hb : RoomAt w b p k low n) (hn1 : 1 ≤ n) (hn6 : n ≤ 6) (hz : Zero n V) (hlen : V.length = len) (hbig : len ≤ 100) (hr : ReadsL w ao (rowsN n (V.map toN))) :
    Calls Tryd.prog 36 #[.pointer (some ⟨b, 0, none⟩), .slice ao len cap] w fun e w' => ∃ (bo : Option Addr) (bl bcap : Nat) (xss : List (List Int)), e = .returned (.slice bo bl bcap) ∧ xss.length = bl ∧ ReadsL w' bo xss ∧ BasisI n xss (Nul n (Span V)) ∧ Ext w w' := by
  have h := leadP_ok hz
  have hle := lead_el h
  rw [← basN_map] at hle
  refine (normal_any p k n b low ao len cap (V.map toN) (leadP n (basN p k low n (V.map toN))) w hI.out hb hn1 hn6 (by rw [List.length_map, hlen]) hbig (allLt_toN n V) hle hr).mono ?_
  rintro e w' ⟨bo, bcap, rfl, h1, h2⟩
  exact ⟨bo, _, bcap, _, rfl, rowsN_length _ _, h1, normN_basis hz, h2⟩
end

/-- The answers: a fault. -/
def SaysNo (f : FuncId) (args : Array Value) (w : World) (c : Int) : Prop := Calls Tryd.prog f args w fun e w' => e = .returned (.tuple #[.slice none 0 0, .int .i64 c]) ∧ Ext w w'
/-- .. a basis. -/
def SaysBasis {p k : Nat} {low : List Int} [FldP p k low] (f : FuncId) (args : Array Value) (w : World) (n : Nat) (S : (Nat → El p k low) → Prop) : Prop := Calls Tryd.prog f args w fun e w' => ∃ (bo : Option Addr) (bl bcap : Nat) (xss : List (List Int)), e = .returned (.tuple #[.slice bo bl bcap, .int .i64 0]) ∧ xss.length = bl ∧ ReadsL w' bo xss ∧ BasisI n xss S ∧ Ext w w'

set_option maxHeartbeats 4000000 in
theorem spBasis_no (p k : Int) (ao bo : Option Addr) (len cap mc : Nat) (low : List Int) (n : Int) (xss : List (List Int)) (w : World) (hP : Primes w) (hl : low.length = len) (hr : Reads w ao (ints low)) (hbig : xss.length ≤ maxLen) (hx : ReadsL w bo xss) (h0 : withAll p k low n [(bo, mc, xss)] ≠ 0) :
    SaysNo 22 #[.agg #[.int .i64 p, .int .i64 k, .slice ao len cap], .int .i64 n, .slice bo xss.length mc] w (withAll p k low n [(bo, mc, xss)]) := by
  have HXA : Hid (Ext w (w.alloc (.cells #[.int .i64 p, .int .i64 k, .slice ao len cap] 24))) := (Ext.refl w).alloc _
  have HXB := Lib.hid (HXA.out.alloc (.cells #[.slice bo xss.length mc] 25))
  have HW := Lib.hid (withs_no p k ao len cap low n (w.heap.size + 1) 0 1 1 [(bo, mc, xss)] _ (hP.ext HXB.out) hl (HXB.out.reads hr) rfl (by omega) (readsAll_one (by simp) (hx.ext HXA.out) hbig) h0)
  obtain ⟨c, hc⟩ : ∃ c, withAll p k low n [(bo, mc, xss)] = c := ⟨_, rfl⟩
  obtain ⟨m, hm⟩ : ∃ m, xss.length = m := ⟨_, rfl⟩
  unfold SaysNo
  rw [hc] at HW h0 ⊢
  rw [hm] at HW HXB ⊢
  have b1 : (c != 0) = true := by rw [bne_iff_ne]; exact h0
  clear hc hm hP hl hr hx hbig h0
  go_enter Tryd.func22, Tryd.ntmps22
  go_wp2_with fail
  refine Calls.mono HW.out ?_
  rintro e w1 ⟨rfl, hx1⟩
  have HX1 := Lib.hid (HXB.out.trans hx1)
  clear hx1
  go_wp2
  exact bodyPost_ret (v := .tuple #[.slice none 0 0, .int .i64 c]) (by simp [results, Tryd.results22, go_sem]) rfl ⟨rfl, HX1.out⟩

set_option maxHeartbeats 4000000 in
theorem spNormal_no (p k : Int) (ao bo : Option Addr) (len cap mc : Nat) (low : List Int) (n : Int) (xss : List (List Int)) (w : World) (hP : Primes w) (hl : low.length = len) (hr : Reads w ao (ints low)) (hbig : xss.length ≤ maxLen) (hx : ReadsL w bo xss) (h0 : withAll p k low n [(bo, mc, xss)] ≠ 0) :
    SaysNo 16 #[.agg #[.int .i64 p, .int .i64 k, .slice ao len cap], .int .i64 n, .slice bo xss.length mc] w (withAll p k low n [(bo, mc, xss)]) := by
  have HXA : Hid (Ext w (w.alloc (.cells #[.int .i64 p, .int .i64 k, .slice ao len cap] 24))) := (Ext.refl w).alloc _
  have HXB := Lib.hid (HXA.out.alloc (.cells #[.slice bo xss.length mc] 25))
  have HW := Lib.hid (withs_no p k ao len cap low n (w.heap.size + 1) 0 1 1 [(bo, mc, xss)] _ (hP.ext HXB.out) hl (HXB.out.reads hr) rfl (by omega) (readsAll_one (by simp) (hx.ext HXA.out) hbig) h0)
  obtain ⟨c, hc⟩ : ∃ c, withAll p k low n [(bo, mc, xss)] = c := ⟨_, rfl⟩
  obtain ⟨m, hm⟩ : ∃ m, xss.length = m := ⟨_, rfl⟩
  unfold SaysNo
  rw [hc] at HW h0 ⊢
  rw [hm] at HW HXB ⊢
  have b1 : (c != 0) = true := by rw [bne_iff_ne]; exact h0
  clear hc hm hP hl hr hx hbig h0
  go_enter Tryd.func16, Tryd.ntmps16
  go_wp2_with fail
  refine Calls.mono HW.out ?_
  rintro e w1 ⟨rfl, hx1⟩
  have HX1 := Lib.hid (HXB.out.trans hx1)
  clear hx1
  go_wp2
  exact bodyPost_ret (v := .tuple #[.slice none 0 0, .int .i64 c]) (by simp [results, Tryd.results16, go_sem]) rfl ⟨rfl, HX1.out⟩

section
variable {p k : Nat} {low : List Int} [hI : FldP p k low]

set_option maxHeartbeats 4000000 in
theorem spBasis_ok (n : Nat) (ao bo : Option Addr) (cap mc : Nat) (xss : List (List Int)) (w : World) (hP : Primes w) (hR : IsRoom p k low n) (hr : Reads w ao (ints low)) (hx : ReadsL w bo xss) (hq : rowsFault (p ^ k) n xss = 0) :
    SaysBasis 22 #[.agg #[.int .i64 p, .int .i64 k, .slice ao k cap], .int .i64 n, .slice bo xss.length mc] w n (Span (vecs (p := p) (k := k) (low := low) xss)) := by
  have hbig := (rowsFault_zero hq).1
  have HXA : Hid (Ext w (w.alloc (.cells #[.int .i64 p, .int .i64 k, .slice ao k cap] 24))) := (Ext.refl w).alloc _
  have HXB := Lib.hid (HXA.out.alloc (.cells #[.slice bo xss.length mc] 25))
  have HW := Lib.hid (withs_ok p k n ao cap low (w.heap.size + 1) 0 1 1 [(bo, mc, xss)] _ (hP.ext HXB.out) hR (HXB.out.reads hr) rfl (by omega) (readsAll_one (by simp) (hx.ext HXA.out) (by unfold maxLen; omega)) (fun t ht => by obtain rfl : t = (bo, mc, xss) := (by simpa using ht); exact hq))
  have HB : Hid (∀ b w', Ext w w' → RoomAt w' b p k low n → _) := fun b w' (h1 : Ext w w') (h2 : RoomAt w' b p k low n) => basis_el n b bo xss.length mc (vecs (p := p) (k := k) (low := low) xss) w' h2 hR.n1 hR.n6 (vecs_zero hq) (vecs_length xss) (by omega) (by rw [vecs_rows hq]; exact hx.ext h1)
  obtain ⟨S, hS⟩ : ∃ S, Span (vecs (p := p) (k := k) (low := low) xss) = S := ⟨_, rfl⟩
  obtain ⟨m, hm⟩ : ∃ m, xss.length = m := ⟨_, rfl⟩
  unfold SaysBasis
  rw [hm] at HW HXB HB ⊢
  rw [hS] at HB ⊢
  clear hP hr hx hbig hq hS hm hR
  go_enter Tryd.func22, Tryd.ntmps22
  go_wp2_with fail
  refine Calls.mono HW.out ?_
  rintro e w1 ⟨r, rfl, hra, hx1⟩
  have HX1 := Lib.hid (HXB.out.trans hx1)
  have HB1 := Lib.hid (HB.out r w1 HX1.out hra)
  clear hx1 hra
  go_wp2_with fail
  refine Calls.mono HB1.out ?_
  rintro e w2 ⟨ro, rl, rc, out, rfl, h1, h2, h3, h4⟩
  have HE := Lib.hid (And.intro h1 (And.intro h2 (And.intro h3 (HX1.out.trans h4))))
  clear h1 h2 h3 h4
  go_wp2
  exact bodyPost_ret (v := .tuple #[.slice ro rl rc, .int .i64 0]) (by simp [results, Tryd.results22, go_sem]) rfl ⟨ro, rl, rc, out, rfl, HE.out⟩

set_option maxHeartbeats 4000000 in
theorem spNormal_ok (n : Nat) (ao bo : Option Addr) (cap mc : Nat) (xss : List (List Int)) (w : World) (hP : Primes w) (hR : IsRoom p k low n) (hr : Reads w ao (ints low)) (hx : ReadsL w bo xss) (hq : rowsFault (p ^ k) n xss = 0) :
    SaysBasis 16 #[.agg #[.int .i64 p, .int .i64 k, .slice ao k cap], .int .i64 n, .slice bo xss.length mc] w n (Nul n (Span (vecs (p := p) (k := k) (low := low) xss))) := by
  have hbig := (rowsFault_zero hq).1
  have HXA : Hid (Ext w (w.alloc (.cells #[.int .i64 p, .int .i64 k, .slice ao k cap] 24))) := (Ext.refl w).alloc _
  have HXB := Lib.hid (HXA.out.alloc (.cells #[.slice bo xss.length mc] 25))
  have HW := Lib.hid (withs_ok p k n ao cap low (w.heap.size + 1) 0 1 1 [(bo, mc, xss)] _ (hP.ext HXB.out) hR (HXB.out.reads hr) rfl (by omega) (readsAll_one (by simp) (hx.ext HXA.out) (by unfold maxLen; omega)) (fun t ht => by obtain rfl : t = (bo, mc, xss) := (by simpa using ht); exact hq))
  have HB : Hid (∀ b w', Ext w w' → RoomAt w' b p k low n → _) := fun b w' (h1 : Ext w w') (h2 : RoomAt w' b p k low n) => normal_el n b bo xss.length mc (vecs (p := p) (k := k) (low := low) xss) w' h2 hR.n1 hR.n6 (vecs_zero hq) (vecs_length xss) (by omega) (by rw [vecs_rows hq]; exact hx.ext h1)
  obtain ⟨S, hS⟩ : ∃ S, Nul n (Span (vecs (p := p) (k := k) (low := low) xss)) = S := ⟨_, rfl⟩
  obtain ⟨m, hm⟩ : ∃ m, xss.length = m := ⟨_, rfl⟩
  unfold SaysBasis
  rw [hm] at HW HXB HB ⊢
  rw [hS] at HB ⊢
  clear hP hr hx hbig hq hS hm hR
  go_enter Tryd.func16, Tryd.ntmps16
  go_wp2_with fail
  refine Calls.mono HW.out ?_
  rintro e w1 ⟨r, rfl, hra, hx1⟩
  have HX1 := Lib.hid (HXB.out.trans hx1)
  have HB1 := Lib.hid (HB.out r w1 HX1.out hra)
  clear hx1 hra
  go_wp2_with fail
  refine Calls.mono HB1.out ?_
  rintro e w2 ⟨ro, rl, rc, out, rfl, h1, h2, h3, h4⟩
  have HE := Lib.hid (And.intro h1 (And.intro h2 (And.intro h3 (HX1.out.trans h4))))
  clear h1 h2 h3 h4
  go_wp2
  exact bodyPost_ret (v := .tuple #[.slice ro rl rc, .int .i64 0]) (by simp [results, Tryd.results16, go_sem]) rfl ⟨ro, rl, rc, out, rfl, HE.out⟩
end

end Go.Proofs.YtjkiaglfefpocaaDoor

/- Lists of rows, one behind the other, as they are read. No conditions. -/
namespace Go.Proofs.YtjkiaglfefpocaaDoor
open Go.RowKit
set_option linter.unusedSectionVars false

theorem row_append_right (xss yss : List (List Int)) (j : Nat) (h : xss.length ≤ j) : row (xss ++ yss) j = row yss (j - xss.length) := by
  unfold row; rw [List.getD_eq_getElem?_getD, List.getD_eq_getElem?_getD, List.getElem?_append_right h]
theorem Rows2.append {w : World} {vs us : List Value} {xss yss : List (List Int)} (h : Rows2 w vs xss) (g : Rows2 w us yss) : Rows2 w (vs ++ us) (xss ++ yss) := by
  refine ⟨by rw [List.length_append, List.length_append, h.1, g.1], fun j v hv => ?_⟩
  by_cases hj : j < vs.length
  · rw [List.getElem?_append_left hj] at hv
    rw [row_append_left _ _ _ (by rw [← h.1]; exact hj)]
    exact h.2 j v hv
  · rw [List.getElem?_append_right (by omega)] at hv
    rw [row_append_right _ _ _ (by rw [← h.1]; omega), ← h.1]
    exact g.2 _ v hv
theorem Rows2.one {w : World} {vs : List Value} {xss : List (List Int)} (h : Rows2 w vs xss) : ∀ v ∈ vs, v.oneCell' = true := fun v hv => by
  obtain ⟨j, hj, rfl⟩ := List.mem_iff_getElem.1 hv
  obtain ⟨a, c, e, _⟩ := h.2 j _ (List.getElem?_eq_getElem hj)
  rw [e]; rfl

section
variable {p k : Nat} {low : List Int} [hI : FldP p k low]
theorem rowsN_append (n : Nat) (L M : List (Nat → Nat)) : rowsN n (L ++ M) = rowsN n L ++ rowsN n M := by unfold rowsN; rw [List.map_append]
theorem reads_append {n : Nat} {A B : List (Nat → El p k low)} {w : World} {ao : Option Addr} (h : ReadsL w ao (rowsN n (A.map toN) ++ rowsN n (B.map toN))) : ReadsL w ao (rowsN n ((A ++ B).map toN)) := by rw [List.map_append, rowsN_append]; exact h
end


end Go.Proofs.YtjkiaglfefpocaaDoor

/- The laws of spaces, plainly: Grassmann; normal and normal again; join and meet. Plain but for the words of the walk. -/
namespace Go.Proofs.YtjkiaglfefpocaaDoor
open Go.RowKit
set_option linter.unusedSectionVars false

section
variable {p k : Nat} {low : List Int} [hI : FldP p k low]

theorem nul_append {n : Nat} {A B : List (Nat → El p k low)} (v : Nat → El p k low) : Nul n (Span (A ++ B)) v ↔ Nul n (Span A) v ∧ Nul n (Span B) v := by
  rw [nul_span, nul_span, nul_span]
  constructor
  · intro h
    exact ⟨⟨h.1, fun r hr => h.2 r (List.mem_append_left _ hr)⟩, ⟨h.1, fun r hr => h.2 r (List.mem_append_right _ hr)⟩⟩
  · intro h
    exact ⟨h.1.1, fun r hr => (List.mem_append.1 hr).elim (h.1.2 r) (h.2.2 r)⟩
/-- Normal to the normal, of any rows. -/
theorem nul_nul' {n : Nat} {V : List (Nat → El p k low)} (hz : Zero n V) (v : Nat → El p k low) : Nul n (Nul n (Span V)) v ↔ Span V v := by
  obtain ⟨P, h1, h2⟩ := basV_ok hz
  rw [← h2 v, ← nul_nul h1 v]
  exact nul_congr (nul_congr fun v => (h2 v).symm) v
/-- What the meet is: normal to both normals. -/
theorem meet_is {n : Nat} {A B NA NB : List (Nat → El p k low)} (hA : Zero n A) (hB : Zero n B) (h1 : ∀ v, Span NA v ↔ Nul n (Span A) v) (h2 : ∀ v, Span NB v ↔ Nul n (Span B) v) (v : Nat → El p k low) : Nul n (Span (NA ++ NB)) v ↔ Span A v ∧ Span B v := by
  rw [nul_append, nul_congr h1 v, nul_congr h2 v, nul_nul' hA, nul_nul' hB]

/-- Grassmann, of lists of ints. -/
theorem grassmann_ints {n : Nat} {a b j m : List (List Int)} {A B : List (Nat → El p k low)} (hA : BasisI n a (Span A)) (hB : BasisI n b (Span B)) (hJ : BasisI n j (Span (A ++ B))) (hM : BasisI n m (fun v => Span A v ∧ Span B v)) : j.length + m.length = a.length + b.length := by
  obtain ⟨LA, PA, rfl, rA, sA⟩ := hA
  obtain ⟨LB, PB, rfl, rB, sB⟩ := hB
  obtain ⟨LJ, PJ, rfl, rJ, sJ⟩ := hJ
  obtain ⟨LM, PM, rfl, rM, sM⟩ := hM
  simp only [rowsN_length, List.length_map]
  refine grassmann (card_el low) rA rB rJ rM (fun v => ?_) (fun v => ?_)
  · rw [sJ v, span_append]
    exact ⟨fun ⟨x, y, h1, h2, h3⟩ => ⟨x, y, (sA x).2 h1, (sB y).2 h2, h3⟩, fun ⟨x, y, h1, h2, h3⟩ => ⟨x, y, (sA x).1 h1, (sB y).1 h2, h3⟩⟩
  · rw [sM v, sA v, sB v]
/-- The rows of a space and of its normal are n together. -/
theorem rank_ints {n : Nat} {a u : List (List Int)} {A : List (Nat → El p k low)} (hA : BasisI n a (Span A)) (hU : BasisI n u (Nul n (Span A))) : u.length + a.length = n := by
  obtain ⟨LA, PA, rfl, rA, sA⟩ := hA
  obtain ⟨LU, PU, rfl, rU, sU⟩ := hU
  simp only [rowsN_length, List.length_map]
  exact rank_nul (card_el low) rA rU fun v => (sU v).trans (nul_congr (fun v => (sA v).symm) v)
end

end Go.Proofs.YtjkiaglfefpocaaDoor
