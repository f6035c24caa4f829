/- spaceFact returns true. Condition: primes. -/
import Derived.Test.YthkafhmciapipaaDoorJSpaceGrassmannBA
import Derived.Test.YthkafhmciapipaaDoorJSpaceGrassmannBC
import Derived.Test.YthkafhmciapipaaDoorJSpaceGrassmannAZ
namespace Go.Proofs.YthkafhmciapipaaDoor
open Go.RowKit

def factRows : List (List Int) := [[1, 2, 0], [2, 1, 1]]
theorem field31 : IsField 3 1 [0] := by
  have h : fieldFault (3 : Nat) (1 : Nat) [0] = 0 := by decide +kernel
  obtain ⟨P, K, h1, h2, h3, _⟩ := fieldFault_zero h
  obtain rfl : P = 3 := by omega
  obtain rfl : K = 1 := by omega
  exact h3
theorem room313 : IsRoom 3 1 [0] 3 := ⟨field31, by omega, by omega, by decide⟩
theorem factRows_ok : rowsFault (3 ^ 1) 3 factRows = 0 := by decide +kernel
theorem factRows_two : (basN 3 1 [0] 3 (fnsOf factRows)).length = 2 := by decide +kernel
theorem gauss35 : nth (gaRow 2 4) 2 = 35 := by decide +kernel

theorem inner_lit {w : World} {b : Nat} {cs : Array Value} {xs : List Int} (h : Blk w b cs 3) (hc : cs.toList = ints xs) (hm : xs.length ≤ maxLen) {n : Nat} (hn : n = xs.length) (c : Nat) : Inner w (.slice (some ⟨b, 0, none⟩) n c) xs := by
  subst hn
  refine ⟨_, c, rfl, .inr ⟨b, 0, rfl, h.lt, fun j u hu => ?_⟩, hm⟩
  rw [Nat.zero_add]
  refine h.c j u ?_
  rw [← hc] at hu
  simpa using hu

theorem fact_basis (ao bo : Option Addr) (cap mc : Nat) (w : World) (hP : Primes w) (hr : Reads w ao (ints [0])) (hx : ReadsL w bo factRows) :
    Calls Tryd.prog 12 #[.agg #[.int .i64 3, .int .i64 1, .slice ao 1 cap], .int .i64 3, .slice bo 2 mc] w fun e w' => ∃ ro rc, e = .returned (.tuple #[.slice ro 2 rc, .int .i64 0]) ∧ Ext w w' := by
  haveI : FldP 3 1 [0] := ⟨field31⟩
  have h := spBasis_ok (p := 3) (k := 1) (low := [0]) 3 ao bo cap mc factRows w hP room313 hr hx factRows_ok
  refine Calls.mono h ?_
  rintro e w' ⟨ro, rl, rc, out, rfl, h1, _, h3, h4⟩
  have h5 := basN_basis (vecs_zero (p := 3) (k := 1) (low := [0]) factRows_ok)
  have h6 := h3.unique h5 fun _ => Iff.rfl
  rw [vecs_toN factRows_ok] at h6
  have h7 : out.length = 2 := by rw [h6, rowsN_length, factRows_two]
  obtain rfl : rl = 2 := by omega
  exact ⟨ro, rc, rfl, h4⟩

theorem gauss_val (n k : Nat) (q : Int) (w : World) (hn : n ≤ 30) (hk : k ≤ n) (hq : 2 ≤ q) (hq' : q ≤ 64) (x : Int) (hx : nth (gaRow q n) k = x) (hx0 : x ≤ 1000000000000000000) :
    Calls Tryd.prog 9 #[.int .i64 n, .int .i64 k, .int .i64 q] w fun e w' => e = .returned (.tuple #[.int .i64 x, .int .i64 0]) ∧ Ext w w' := by
  refine (gauss_any n k q w hn hk hq hq' (gaP_ne' q hq hq')).mono ?_
  rintro e w' ⟨rfl, h⟩
  rw [hx]
  exact ⟨by unfold gaussVal; rw [if_neg (by omega)], h⟩
theorem gauss_422 (w : World) : Calls Tryd.prog 9 #[.int .i64 4, .int .i64 2, .int .i64 2] w fun e w' => e = .returned (.tuple #[.int .i64 35, .int .i64 0]) ∧ Ext w w' :=
  gauss_val 4 2 2 w (by omega) (by omega) (by omega) (by omega) 35 gauss35 (by omega)

set_option maxHeartbeats 2000000 in
theorem spaceFact_ok (w : World) (hP : Primes w) : Calls Tryd.prog 8 #[] w fun e w' => e = .returned (.bool true) ∧ Ext w w' := by
  have HG := Lib.hid (gauss_422 w)
  have HP := Lib.hid hP
  clear hP
  go_enter Tryd.func8, Tryd.ntmps8
  go_wp2_with fail
  refine Calls.mono HG.out ?_
  rintro e w1 ⟨rfl, hx1⟩
  have HL := Lib.hid (least31 w1 (HP.out.ext hx1))
  have E1 := Lib.hid hx1
  clear hx1
  go_wp2_with fail
  refine Calls.mono HL.out ?_
  rintro e w2 ⟨ao, cap, rfl, hr, hx⟩
  have HR2 := Lib.hid hr
  have E2 := Lib.hid (E1.out.trans hx)
  have F2 := Lib.hid (Blk.new w2 #[.int .i64 3, .int .i64 1, .slice ao 1 cap] 29)
  obtain ⟨w3, hw3⟩ : ∃ w3, w3 = w2.alloc (.cells #[.int .i64 3, .int .i64 1, .slice ao 1 cap] 29) := ⟨_, rfl⟩
  have E3 : Hid (Ext w2 w3) := by rw [hw3]; exact ext_box _ _ _
  rw [← hw3] at F2
  have k3 := F2.out.three
  have hs3 : w3.heap.size = w2.heap.size + 1 := by rw [hw3]; simp
  clear hr hx
  obtain ⟨w6, hw6⟩ : ∃ w6, w6 = ((w3.alloc (.cells #[.int .i64 1, .int .i64 2, .int .i64 0] 3)).alloc (.cells #[.int .i64 2, .int .i64 1, .int .i64 1] 3)).alloc (.cells #[.slice (some ⟨w3.heap.size, 0, none⟩) 3 3, .slice (some ⟨w3.heap.size + 1, 0, none⟩) 3 3] 27) := ⟨_, rfl⟩
  have E6 : Hid (Ext w3 w6) := by show Ext w3 w6; rw [hw6]; exact (((Ext.refl w3).alloc _).alloc _).alloc _
  have HRL : Hid (ReadsL w6 (some ⟨w3.heap.size + 1 + 1, 0, none⟩) factRows) := by
    have b0 : Blk w6 w3.heap.size #[.int .i64 1, .int .i64 2, .int .i64 0] 3 := by rw [hw6]; exact ((Blk.new w3 _ _).alloc _).alloc _
    have b1 : Blk w6 (w3.heap.size + 1) #[.int .i64 2, .int .i64 1, .int .i64 1] 3 := by rw [hw6]; exact (Blk.new' _ _ _ (by simp)).alloc _
    have b2 : Blk w6 (w3.heap.size + 1 + 1) #[.slice (some ⟨w3.heap.size, 0, none⟩) 3 3, .slice (some ⟨w3.heap.size + 1, 0, none⟩) 3 3] 27 := by rw [hw6]; exact Blk.new' _ _ _ (by simp)
    refine ⟨[.slice (some ⟨w3.heap.size, 0, none⟩) 3 3, .slice (some ⟨w3.heap.size + 1, 0, none⟩) 3 3], .inr ⟨_, 0, rfl, b2.lt, fun j u hu => ?_⟩, rfl, fun j v hv => ?_⟩
    · rw [Nat.zero_add]
      exact b2.c j u (by simpa using hu)
    · match j, hv with
      | 0, hv => obtain rfl : .slice (some ⟨w3.heap.size, 0, none⟩) 3 3 = v := by simpa using hv
                 exact inner_lit (xs := [1, 2, 0]) b0 rfl (by decide) rfl 3
      | 1, hv => obtain rfl : .slice (some ⟨w3.heap.size + 1, 0, none⟩) 3 3 = v := by simpa using hv
                 exact inner_lit (xs := [2, 1, 1]) b1 rfl (by decide) rfl 3
      | j + 2, hv => simp at hv
  have HB := Lib.hid (fact_basis ao (some ⟨w3.heap.size + 1 + 1, 0, none⟩) cap 2 w6 (HP.out.ext (E2.out.trans (E3.out.trans E6.out))) ((E3.out.trans E6.out).reads HR2.out) HRL.out)
  go_wp2_with fail
  rw [← hw3, ← hs3, ← hw6]
  clear hw3 hw6
  refine Calls.mono HB.out ?_
  rintro e w7 ⟨ro, rc, rfl, hx7⟩
  have HE := Lib.hid ((E2.out.trans (E3.out.trans E6.out)).trans hx7)
  clear hx7
  go_wp2
  go_ret
  exact ⟨by simp, HE.out⟩

end Go.Proofs.YthkafhmciapipaaDoor

/- The laws of spaces, plainly: Grassmann; normal and normal again; join and meet. Plain but for the words of the walk. -/
namespace Go.Proofs.YthkafhmciapipaaDoor
open Go.RowKit
set_option linter.unusedSectionVars false

section
variable {p k : Nat} {low : List Int} [hI : FldP p k low]

theorem nul_append {n : Nat} {A B : List (Nat → El p k low)} (v : Nat → El p k low) : Nul n (Span (A ++ B)) v ↔ Nul n (Span A) v ∧ Nul n (Span B) v := by
  rw [nul_span, nul_span, nul_span]
  constructor
  · intro h
    exact ⟨⟨h.1, fun r hr => h.2 r (List.mem_append_left _ hr)⟩, ⟨h.1, fun r hr => h.2 r (List.mem_append_right _ hr)⟩⟩
  · intro h
    exact ⟨h.1.1, fun r hr => (List.mem_append.1 hr).elim (h.1.2 r) (h.2.2 r)⟩
/-- Normal to the normal, of any rows. -/
theorem nul_nul' {n : Nat} {V : List (Nat → El p k low)} (hz : Zero n V) (v : Nat → El p k low) : Nul n (Nul n (Span V)) v ↔ Span V v := by
  obtain ⟨P, h1, h2⟩ := basV_ok hz
  rw [← h2 v, ← nul_nul h1 v]
  exact nul_congr (nul_congr fun v => (h2 v).symm) v
/-- What the meet is: normal to both normals. -/
theorem meet_is {n : Nat} {A B NA NB : List (Nat → El p k low)} (hA : Zero n A) (hB : Zero n B) (h1 : ∀ v, Span NA v ↔ Nul n (Span A) v) (h2 : ∀ v, Span NB v ↔ Nul n (Span B) v) (v : Nat → El p k low) : Nul n (Span (NA ++ NB)) v ↔ Span A v ∧ Span B v := by
  rw [nul_append, nul_congr h1 v, nul_congr h2 v, nul_nul' hA, nul_nul' hB]

/-- Grassmann, of lists of ints. -/
theorem grassmann_ints {n : Nat} {a b j m : List (List Int)} {A B : List (Nat → El p k low)} (hA : BasisI n a (Span A)) (hB : BasisI n b (Span B)) (hJ : BasisI n j (Span (A ++ B))) (hM : BasisI n m (fun v => Span A v ∧ Span B v)) : j.length + m.length = a.length + b.length := by
  obtain ⟨LA, PA, rfl, rA, sA⟩ := hA
  obtain ⟨LB, PB, rfl, rB, sB⟩ := hB
  obtain ⟨LJ, PJ, rfl, rJ, sJ⟩ := hJ
  obtain ⟨LM, PM, rfl, rM, sM⟩ := hM
  simp only [rowsN_length, List.length_map]
  refine grassmann (card_el low) rA rB rJ rM (fun v => ?_) (fun v => ?_)
  · rw [sJ v, span_append]
    exact ⟨fun ⟨x, y, h1, h2, h3⟩ => ⟨x, y, (sA x).2 h1, (sB y).2 h2, h3⟩, fun ⟨x, y, h1, h2, h3⟩ => ⟨x, y, (sA x).1 h1, (sB y).1 h2, h3⟩⟩
  · rw [sM v, sA v, sB v]
/-- The rows of a space and of its normal are n together. -/
theorem rank_ints {n : Nat} {a u : List (List Int)} {A : List (Nat → El p k low)} (hA : BasisI n a (Span A)) (hU : BasisI n u (Nul n (Span A))) : u.length + a.length = n := by
  obtain ⟨LA, PA, rfl, rA, sA⟩ := hA
  obtain ⟨LU, PU, rfl, rU, sU⟩ := hU
  simp only [rowsN_length, List.length_map]
  exact rank_nul (card_el low) rA rU fun v => (sU v).trans (nul_congr (fun v => (sA v).symm) v)
end

end Go.Proofs.YthkafhmciapipaaDoor

/- What space.Join and space.Meet answer. Conditions: primes; what is read. -/
namespace Go.Proofs.YthkafhmciapipaaDoor
open Go.RowKit
set_option linter.unusedSectionVars false

theorem row_append_right (xss yss : List (List Int)) (j : Nat) (h : xss.length ≤ j) : row (xss ++ yss) j = row yss (j - xss.length) := by
  unfold row; rw [List.getD_eq_getElem?_getD, List.getD_eq_getElem?_getD, List.getElem?_append_right h]
theorem Rows2.append {w : World} {vs us : List Value} {xss yss : List (List Int)} (h : Rows2 w vs xss) (g : Rows2 w us yss) : Rows2 w (vs ++ us) (xss ++ yss) := by
  refine ⟨by rw [List.length_append, List.length_append, h.1, g.1], fun j v hv => ?_⟩
  by_cases hj : j < vs.length
  · rw [List.getElem?_append_left hj] at hv
    rw [row_append_left _ _ _ (by rw [← h.1]; exact hj)]
    exact h.2 j v hv
  · rw [List.getElem?_append_right (by omega)] at hv
    rw [row_append_right _ _ _ (by rw [← h.1]; omega), ← h.1]
    exact g.2 _ v hv
theorem Rows2.one {w : World} {vs : List Value} {xss : List (List Int)} (h : Rows2 w vs xss) : ∀ v ∈ vs, v.oneCell' = true := fun v hv => by
  obtain ⟨j, hj, rfl⟩ := List.mem_iff_getElem.1 hv
  obtain ⟨a, c, e, _⟩ := h.2 j _ (List.getElem?_eq_getElem hj)
  rw [e]; rfl

/-- slices.Concat of two lists. -/
theorem concat_lists (b off cap : Nat) (ao bo : Option Addr) (ac bc m l : Nat) (xss yss : List (List Int)) (w : World) (hm : xss.length = m) (hl : yss.length = l) (hb : b < w.heap.size) (h0 : w.cell? ⟨b, off, none⟩ = some (.slice ao m ac)) (h1 : w.cell? ⟨b, off + 1, none⟩ = some (.slice bo l bc)) (hx : ReadsL w ao xss) (hy : ReadsL w bo yss) (lx : m ≤ 1000) (ly : l ≤ 1000) :
    Calls Tryd.prog 39 #[.slice (some ⟨b, off, none⟩) 2 cap] w fun e w' => ∃ ao' cap', e = .returned (.slice ao' (m + l) cap') ∧ ReadsL w' ao' (xss ++ yss) ∧ Ext w w' := by
  subst hm hl
  obtain ⟨vs, r1, r2⟩ := hx
  obtain ⟨us, s1, s2⟩ := hy
  refine (concat_any b off 2 cap (fun j => if j = 0 then vs else us) w (by omega) hb fun j hj => ?_).mono ?_
  · match j, hj with
    | 0, _ => exact ⟨ao, ac, by rw [if_pos rfl, r2.1]; exact h0, by rw [if_pos rfl]; exact r1, by rw [if_pos rfl, r2.1]; exact lx, by rw [if_pos rfl]; exact r2.one⟩
    | 1, _ => exact ⟨bo, bc, by rw [if_neg (by omega), s2.1]; exact h1, by rw [if_neg (by omega)]; exact s1, by rw [if_neg (by omega), s2.1]; exact ly, by rw [if_neg (by omega)]; exact s2.one⟩
  · rintro e w' ⟨ao', cap', rfl, h2, h3⟩
    have e1 : catV (fun j => if j = 0 then vs else us) 2 = vs ++ us := rfl
    rw [e1] at h2 ⊢
    have e2 : (vs ++ us).length = xss.length + yss.length := by rw [List.length_append, r2.1, s2.1]
    rw [e2] at h2 ⊢
    exact ⟨ao', cap', rfl, ⟨_, h2.reads, (r2.append s2).ext h3⟩, h3⟩

section
variable {p k : Nat} {low : List Int} [hI : FldP p k low]
theorem rowsN_append (n : Nat) (L M : List (Nat → Nat)) : rowsN n (L ++ M) = rowsN n L ++ rowsN n M := by unfold rowsN; rw [List.map_append]
theorem reads_append {n : Nat} {A B : List (Nat → El p k low)} {w : World} {ao : Option Addr} (h : ReadsL w ao (rowsN n (A.map toN) ++ rowsN n (B.map toN))) : ReadsL w ao (rowsN n ((A ++ B).map toN)) := by rw [List.map_append, rowsN_append]; exact h
end

set_option maxHeartbeats 4000000 in
theorem spJoin_no (p k : Int) (ao bo do' : Option Addr) (len cap mc lc : Nat) (low : List Int) (n : Int) (xss yss : List (List Int)) (w : World) (hP : Primes w) (hl : low.length = len) (hr : Reads w ao (ints low)) (hbig : xss.length ≤ maxLen) (hx : ReadsL w bo xss) (hbig2 : yss.length ≤ maxLen) (hy : ReadsL w do' yss) (h0 : withAll p k low n [(bo, mc, xss), (do', lc, yss)] ≠ 0) :
    SaysNo 21 #[.agg #[.int .i64 p, .int .i64 k, .slice ao len cap], .int .i64 n, .slice bo xss.length mc, .slice do' yss.length lc] w (withAll p k low n [(bo, mc, xss), (do', lc, yss)]) := by
  have HXA : Hid (Ext w (w.alloc (.cells #[.int .i64 p, .int .i64 k, .slice ao len cap] 29))) := (Ext.refl w).alloc _
  have HXB := Lib.hid (HXA.out.alloc (.cells #[.slice bo xss.length mc, .slice do' yss.length lc] 30))
  have HW := Lib.hid (withs_no p k ao len cap low n (w.heap.size + 1) 0 2 2 [(bo, mc, xss), (do', lc, yss)] _ (hP.ext HXB.out) hl (HXB.out.reads hr) rfl (by omega) (readsAll_two (by simp) (hx.ext HXA.out) (hy.ext HXA.out) hbig hbig2) h0)
  obtain ⟨c, hc⟩ : ∃ c, withAll p k low n [(bo, mc, xss), (do', lc, yss)] = c := ⟨_, rfl⟩
  obtain ⟨m, hm⟩ : ∃ m, xss.length = m := ⟨_, rfl⟩
  obtain ⟨l, hl2⟩ : ∃ l, yss.length = l := ⟨_, rfl⟩
  unfold SaysNo
  rw [hc] at HW h0 ⊢
  rw [hm, hl2] at HW HXB ⊢
  have b1 : (c != 0) = true := by rw [bne_iff_ne]; exact h0
  clear hc hm hl2 hP hl hr hx hy hbig hbig2 h0
  go_enter Tryd.func21, Tryd.ntmps21
  go_wp2_with fail
  refine Calls.mono HW.out ?_
  rintro e w1 ⟨rfl, hx1⟩
  have HX1 := Lib.hid (HXB.out.trans hx1)
  clear hx1
  go_wp2
  exact bodyPost_ret (v := .tuple #[.slice none 0 0, .int .i64 c]) (by simp [results, Tryd.results21, go_sem]) rfl ⟨rfl, HX1.out⟩

set_option maxHeartbeats 4000000 in
theorem spMeet_no (p k : Int) (ao bo do' : Option Addr) (len cap mc lc : Nat) (low : List Int) (n : Int) (xss yss : List (List Int)) (w : World) (hP : Primes w) (hl : low.length = len) (hr : Reads w ao (ints low)) (hbig : xss.length ≤ maxLen) (hx : ReadsL w bo xss) (hbig2 : yss.length ≤ maxLen) (hy : ReadsL w do' yss) (h0 : withAll p k low n [(bo, mc, xss), (do', lc, yss)] ≠ 0) :
    SaysNo 22 #[.agg #[.int .i64 p, .int .i64 k, .slice ao len cap], .int .i64 n, .slice bo xss.length mc, .slice do' yss.length lc] w (withAll p k low n [(bo, mc, xss), (do', lc, yss)]) := by
  have HXA : Hid (Ext w (w.alloc (.cells #[.int .i64 p, .int .i64 k, .slice ao len cap] 29))) := (Ext.refl w).alloc _
  have HXB := Lib.hid (HXA.out.alloc (.cells #[.slice bo xss.length mc, .slice do' yss.length lc] 30))
  have HW := Lib.hid (withs_no p k ao len cap low n (w.heap.size + 1) 0 2 2 [(bo, mc, xss), (do', lc, yss)] _ (hP.ext HXB.out) hl (HXB.out.reads hr) rfl (by omega) (readsAll_two (by simp) (hx.ext HXA.out) (hy.ext HXA.out) hbig hbig2) h0)
  obtain ⟨c, hc⟩ : ∃ c, withAll p k low n [(bo, mc, xss), (do', lc, yss)] = c := ⟨_, rfl⟩
  obtain ⟨m, hm⟩ : ∃ m, xss.length = m := ⟨_, rfl⟩
  obtain ⟨l, hl2⟩ : ∃ l, yss.length = l := ⟨_, rfl⟩
  unfold SaysNo
  rw [hc] at HW h0 ⊢
  rw [hm, hl2] at HW HXB ⊢
  have b1 : (c != 0) = true := by rw [bne_iff_ne]; exact h0
  clear hc hm hl2 hP hl hr hx hy hbig hbig2 h0
  go_enter Tryd.func22, Tryd.ntmps22
  go_wp2_with fail
  refine Calls.mono HW.out ?_
  rintro e w1 ⟨rfl, hx1⟩
  have HX1 := Lib.hid (HXB.out.trans hx1)
  clear hx1
  go_wp2
  exact bodyPost_ret (v := .tuple #[.slice none 0 0, .int .i64 c]) (by simp [results, Tryd.results22, go_sem]) rfl ⟨rfl, HX1.out⟩

section
variable {p k : Nat} {low : List Int} [hI : FldP p k low]

set_option maxHeartbeats 4000000 in
theorem spJoin_ok (n : Nat) (ao bo do' : Option Addr) (cap mc lc : Nat) (xss yss : List (List Int)) (w : World) (hP : Primes w) (hR : IsRoom p k low n) (hr : Reads w ao (ints low)) (hx : ReadsL w bo xss) (hq : rowsFault (p ^ k) n xss = 0) (hy : ReadsL w do' yss) (hq2 : rowsFault (p ^ k) n yss = 0) :
    SaysBasis 21 #[.agg #[.int .i64 p, .int .i64 k, .slice ao k cap], .int .i64 n, .slice bo xss.length mc, .slice do' yss.length lc] w n (Span (vecs (p := p) (k := k) (low := low) xss ++ vecs yss)) := by
  have hbig := (rowsFault_zero hq).1
  have hbig2 := (rowsFault_zero hq2).1
  have HXA : Hid (Ext w (w.alloc (.cells #[.int .i64 p, .int .i64 k, .slice ao k cap] 29))) := (Ext.refl w).alloc _
  have HXB := Lib.hid (HXA.out.alloc (.cells #[.slice bo xss.length mc, .slice do' yss.length lc] 30))
  have HW := Lib.hid (withs_ok p k n ao cap low (w.heap.size + 1) 0 2 2 [(bo, mc, xss), (do', lc, yss)] _ (hP.ext HXB.out) hR (HXB.out.reads hr) rfl (by omega) (readsAll_two (by simp) (hx.ext HXA.out) (hy.ext HXA.out) (by unfold maxLen; omega) (by unfold maxLen; omega)) (fun t ht => by
    have ht2 : t = (bo, mc, xss) ∨ t = (do', lc, yss) := (by simpa using ht)
    rcases ht2 with rfl | rfl
    · exact hq
    · exact hq2))
  have HCO : Hid (∀ w', Ext w w' → _) := fun w' (h1 : Ext w w') => concat_lists w'.heap.size 0 2 bo do' mc lc xss.length yss.length xss yss (w'.alloc (.cells #[.slice bo xss.length mc, .slice do' yss.length lc] 30)) rfl rfl (by simp) (Blk.new _ _ _).two.1 (Blk.new _ _ _).two.2 ((hx.ext h1).ext (ext_box _ _ _)) ((hy.ext h1).ext (ext_box _ _ _)) (by omega) (by omega)
  have HB : Hid (∀ b ro rc w', Ext w w' → RoomAt w' b p k low n → ReadsL w' ro (xss ++ yss) → _) := fun b ro rc w' (h1 : Ext w w') (h2 : RoomAt w' b p k low n) (h3 : ReadsL w' ro (xss ++ yss)) => basis_el n b ro (xss.length + yss.length) rc (vecs (p := p) (k := k) (low := low) xss ++ vecs yss) w' h2 hR.n1 hR.n6 ((vecs_zero hq).append (vecs_zero hq2)) (by rw [List.length_append, vecs_length, vecs_length]) (by omega) (reads_append (by rw [vecs_rows hq, vecs_rows hq2]; exact h3))
  obtain ⟨S, hS⟩ : ∃ S, Span (vecs (p := p) (k := k) (low := low) xss ++ vecs yss) = S := ⟨_, rfl⟩
  obtain ⟨m, hm⟩ : ∃ m, xss.length = m := ⟨_, rfl⟩
  obtain ⟨l, hl2⟩ : ∃ l, yss.length = l := ⟨_, rfl⟩
  unfold SaysBasis
  rw [hm, hl2] at HW HXB HB HCO ⊢
  rw [hS] at HB ⊢
  clear hP hr hx hbig hq hy hq2 hbig2 hS hm hl2 hR
  go_enter Tryd.func21, Tryd.ntmps21
  go_wp2_with fail
  refine Calls.mono HW.out ?_
  rintro e w1 ⟨r, rfl, hra, hx1⟩
  have HX1 := Lib.hid (HXB.out.trans hx1)
  have HRA := Lib.hid hra
  have HC1 := Lib.hid (HCO.out w1 HX1.out)
  clear hx1 hra
  go_wp2_with fail
  refine Calls.mono HC1.out ?_
  rintro e w2 ⟨ro, rc, rfl, h1, h2⟩
  have HX2 := Lib.hid (HX1.out.trans ((ext_box _ _ _).trans h2))
  have HB1 := Lib.hid (HB.out r ro rc w2 HX2.out (HRA.out.ext ((ext_box _ _ _).trans h2)) h1)
  clear h1 h2
  go_wp2_with fail
  refine Calls.mono HB1.out ?_
  rintro e w3 ⟨ro, rl, rc, out, rfl, h1, h2, h3, h4⟩
  have HE := Lib.hid (And.intro h1 (And.intro h2 (And.intro h3 (HX2.out.trans h4))))
  clear h1 h2 h3 h4
  go_wp2
  exact bodyPost_ret (v := .tuple #[.slice ro rl rc, .int .i64 0]) (by simp [results, Tryd.results21, go_sem]) rfl ⟨ro, rl, rc, out, rfl, HE.out⟩

/-- A normal that was found, as a list over the field. -/
theorem basisI_list {n : Nat} {xss : List (List Int)} {S : (Nat → El p k low) → Prop} (h : BasisI n xss S) : ∃ V, xss = rowsN n (V.map toN) ∧ Zero n V ∧ (∀ v, Span V v ↔ S v) ∧ V.length ≤ n := by
  have hl := h.len
  obtain ⟨L, P, rfl, h1, h2⟩ := h
  rw [rowsN_length, List.length_map] at hl
  exact ⟨L, rfl, h1.zero, h2, hl⟩

set_option maxHeartbeats 4000000 in
theorem spMeet_ok (n : Nat) (ao bo do' : Option Addr) (cap mc lc : Nat) (xss yss : List (List Int)) (w : World) (hP : Primes w) (hR : IsRoom p k low n) (hr : Reads w ao (ints low)) (hx : ReadsL w bo xss) (hq : rowsFault (p ^ k) n xss = 0) (hy : ReadsL w do' yss) (hq2 : rowsFault (p ^ k) n yss = 0) :
    SaysBasis 22 #[.agg #[.int .i64 p, .int .i64 k, .slice ao k cap], .int .i64 n, .slice bo xss.length mc, .slice do' yss.length lc] w n (fun v => Span (vecs (p := p) (k := k) (low := low) xss) v ∧ Span (vecs yss) v) := by
  have hbig := (rowsFault_zero hq).1
  have hbig2 := (rowsFault_zero hq2).1
  have HXA : Hid (Ext w (w.alloc (.cells #[.int .i64 p, .int .i64 k, .slice ao k cap] 29))) := (Ext.refl w).alloc _
  have HXB := Lib.hid (HXA.out.alloc (.cells #[.slice bo xss.length mc, .slice do' yss.length lc] 30))
  have HW := Lib.hid (withs_ok p k n ao cap low (w.heap.size + 1) 0 2 2 [(bo, mc, xss), (do', lc, yss)] _ (hP.ext HXB.out) hR (HXB.out.reads hr) rfl (by omega) (readsAll_two (by simp) (hx.ext HXA.out) (hy.ext HXA.out) (by unfold maxLen; omega) (by unfold maxLen; omega)) (fun t ht => by
    have ht2 : t = (bo, mc, xss) ∨ t = (do', lc, yss) := (by simpa using ht)
    rcases ht2 with rfl | rfl
    · exact hq
    · exact hq2))
  have hn1 := hR.n1
  have hn6 := hR.n6
  have HNA : Hid (∀ b w', Ext w w' → RoomAt w' b p k low n → _) := fun b w' (h1 : Ext w w') (h2 : RoomAt w' b p k low n) => normal_el n b bo xss.length mc (vecs (p := p) (k := k) (low := low) xss) w' h2 hn1 hn6 (vecs_zero hq) (vecs_length xss) (by omega) (by rw [vecs_rows hq]; exact hx.ext h1)
  have HNB : Hid (∀ b w', Ext w w' → RoomAt w' b p k low n → _) := fun b w' (h1 : Ext w w') (h2 : RoomAt w' b p k low n) => normal_el n b do' yss.length lc (vecs (p := p) (k := k) (low := low) yss) w' h2 hn1 hn6 (vecs_zero hq2) (vecs_length yss) (by omega) (by rw [vecs_rows hq2]; exact hy.ext h1)
  have HMI : Hid (∀ NA NB : List (Nat → El p k low), _ → _ → _) := fun NA NB h1 h2 => meet_is (n := n) (NA := NA) (NB := NB) (vecs_zero (p := p) (k := k) (low := low) hq) (vecs_zero (p := p) (k := k) (low := low) hq2) h1 h2
  obtain ⟨SA, hSA⟩ : ∃ S, Span (vecs (p := p) (k := k) (low := low) xss) = S := ⟨_, rfl⟩
  obtain ⟨SB, hSB⟩ : ∃ S, Span (vecs (p := p) (k := k) (low := low) yss) = S := ⟨_, rfl⟩
  obtain ⟨m, hm⟩ : ∃ m, xss.length = m := ⟨_, rfl⟩
  obtain ⟨l, hl2⟩ : ∃ l, yss.length = l := ⟨_, rfl⟩
  unfold SaysBasis
  rw [hm, hl2] at HW HXB ⊢
  rw [hm] at HNA
  rw [hl2] at HNB
  rw [hSA] at HNA
  rw [hSB] at HNB
  rw [hSA, hSB] at HMI
  rw [hSA, hSB]
  clear hP hr hx hbig hq hy hq2 hbig2 hSA hSB hm hl2 hR
  go_enter Tryd.func22, Tryd.ntmps22
  go_wp2_with fail
  refine Calls.mono HW.out ?_
  rintro e w1 ⟨r, rfl, hra, hx1⟩
  have HX1 := Lib.hid (HXB.out.trans hx1)
  have HRA := Lib.hid hra
  have HC1 := Lib.hid (HNA.out r w1 HX1.out hra)
  clear hx1 hra
  go_wp2_with fail
  refine Calls.mono HC1.out ?_
  rintro e w2 ⟨uo, ul, uc, us, rfl, h1, h2, h3, h4⟩
  obtain ⟨U, rfl, hUz, hUs, hUl⟩ := basisI_list h3
  rw [rowsN_length, List.length_map] at h1
  have HU := Lib.hid h2
  have HUZ := Lib.hid hUz
  have HUS := Lib.hid hUs
  have HX2 := Lib.hid (HX1.out.trans h4)
  have HRA2 := Lib.hid (HRA.out.ext h4)
  have HC2 := Lib.hid (HNB.out r w2 HX2.out HRA2.out)
  obtain rfl := h1
  clear h2 h3 h4 hUz hUs
  go_wp2_with fail
  refine Calls.mono HC2.out ?_
  rintro e w3 ⟨vo, vl, vc, vs, rfl, h1, h2, h3, h4⟩
  obtain ⟨V, rfl, hVz, hVs, hVl⟩ := basisI_list h3
  rw [rowsN_length, List.length_map] at h1
  have HVS := Lib.hid hVs
  have HX3 := Lib.hid (HX2.out.trans h4)
  have HRA3 := Lib.hid (HRA2.out.ext h4)
  have HCO := Lib.hid (concat_lists w3.heap.size 0 2 uo vo uc vc U.length vl (rowsN n (U.map toN)) (rowsN n (V.map toN)) (w3.alloc (.cells #[.slice uo U.length uc, .slice vo vl vc] 30)) (by rw [rowsN_length, List.length_map]) (by rw [rowsN_length, List.length_map]; exact h1) (by simp) (Blk.new _ _ _).two.1 (Blk.new _ _ _).two.2 ((HU.out.ext h4).ext (ext_box _ _ _)) (h2.ext (ext_box _ _ _)) (by omega) (by omega))
  have HB : Hid (∀ ro rc w', Ext w3 w' → ReadsL w' ro (rowsN n (U.map toN) ++ rowsN n (V.map toN)) → _) := fun ro rc w' (h9 : Ext w3 w') (h8 : ReadsL w' ro (rowsN n (U.map toN) ++ rowsN n (V.map toN))) => normal_el n r ro (U.length + vl) rc (U ++ V) w' (HRA3.out.ext h9) hn1 hn6 (HUZ.out.append hVz) (by rw [List.length_append, h1]) (by omega) (reads_append h8)
  clear h1 h2 h3 h4 hVz hVs
  go_wp2_with fail
  refine Calls.mono HCO.out ?_
  rintro e w4 ⟨ro, rc, rfl, h1, h2⟩
  have HX4 := Lib.hid ((ext_box _ _ _).trans h2)
  have HB1 := Lib.hid (HB.out ro rc w4 HX4.out h1)
  clear h1 h2
  go_wp2_with fail
  refine Calls.mono HB1.out ?_
  rintro e w5 ⟨ro, rl, rc, out, rfl, h1, h2, h3, h4⟩
  have HE := Lib.hid (And.intro h1 (And.intro h2 (And.intro (h3.congr (HMI.out U V HUS.out HVS.out)) (HX3.out.trans (HX4.out.trans h4)))))
  clear h1 h2 h3 h4
  go_wp2
  exact bodyPost_ret (v := .tuple #[.slice ro rl rc, .int .i64 0]) (by simp [results, Tryd.results22, go_sem]) rfl ⟨ro, rl, rc, out, rfl, HE.out⟩
end

end Go.Proofs.YthkafhmciapipaaDoor
