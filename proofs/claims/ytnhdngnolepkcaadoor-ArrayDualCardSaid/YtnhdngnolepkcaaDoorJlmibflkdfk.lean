/- The laws of spaces, plainly: Grassmann; normal and normal again; join and meet. Plain but for the words of the walk. -/
import Derived.Test.YtnhdngnolepkcaaDoorJndpfkjicgi
import Derived.Test.YtnhdngnolepkcaaDoorJdjapdnilio
namespace Go.Proofs.YtnhdngnolepkcaaDoor
open Go.RowKit
set_option linter.unusedSectionVars false

section
variable {p k : Nat} {low : List Int} [hI : FldP p k low]

theorem nul_append {n : Nat} {A B : List (Nat → El p k low)} (v : Nat → El p k low) : Nul n (Span (A ++ B)) v ↔ Nul n (Span A) v ∧ Nul n (Span B) v := by
  rw [nul_span, nul_span, nul_span]
  constructor
  · intro h
    exact ⟨⟨h.1, fun r hr => h.2 r (List.mem_append_left _ hr)⟩, ⟨h.1, fun r hr => h.2 r (List.mem_append_right _ hr)⟩⟩
  · intro h
    exact ⟨h.1.1, fun r hr => (List.mem_append.1 hr).elim (h.1.2 r) (h.2.2 r)⟩
/-- Normal to the normal, of any rows. -/
theorem nul_nul' {n : Nat} {V : List (Nat → El p k low)} (hz : Zero n V) (v : Nat → El p k low) : Nul n (Nul n (Span V)) v ↔ Span V v := by
  obtain ⟨P, h1, h2⟩ := basV_ok hz
  rw [← h2 v, ← nul_nul h1 v]
  exact nul_congr (nul_congr fun v => (h2 v).symm) v
/-- What the meet is: normal to both normals. -/
theorem meet_is {n : Nat} {A B NA NB : List (Nat → El p k low)} (hA : Zero n A) (hB : Zero n B) (h1 : ∀ v, Span NA v ↔ Nul n (Span A) v) (h2 : ∀ v, Span NB v ↔ Nul n (Span B) v) (v : Nat → El p k low) : Nul n (Span (NA ++ NB)) v ↔ Span A v ∧ Span B v := by
  rw [nul_append, nul_congr h1 v, nul_congr h2 v, nul_nul' hA, nul_nul' hB]

/-- Grassmann, of lists of ints. -/
theorem grassmann_ints {n : Nat} {a b j m : List (List Int)} {A B : List (Nat → El p k low)} (hA : BasisI n a (Span A)) (hB : BasisI n b (Span B)) (hJ : BasisI n j (Span (A ++ B))) (hM : BasisI n m (fun v => Span A v ∧ Span B v)) : j.length + m.length = a.length + b.length := by
  obtain ⟨LA, PA, rfl, rA, sA⟩ := hA
  obtain ⟨LB, PB, rfl, rB, sB⟩ := hB
  obtain ⟨LJ, PJ, rfl, rJ, sJ⟩ := hJ
  obtain ⟨LM, PM, rfl, rM, sM⟩ := hM
  simp only [rowsN_length, List.length_map]
  refine grassmann (card_el low) rA rB rJ rM (fun v => ?_) (fun v => ?_)
  · rw [sJ v, span_append]
    exact ⟨fun ⟨x, y, h1, h2, h3⟩ => ⟨x, y, (sA x).2 h1, (sB y).2 h2, h3⟩, fun ⟨x, y, h1, h2, h3⟩ => ⟨x, y, (sA x).1 h1, (sB y).1 h2, h3⟩⟩
  · rw [sM v, sA v, sB v]
/-- The rows of a space and of its normal are n together. -/
theorem rank_ints {n : Nat} {a u : List (List Int)} {A : List (Nat → El p k low)} (hA : BasisI n a (Span A)) (hU : BasisI n u (Nul n (Span A))) : u.length + a.length = n := by
  obtain ⟨LA, PA, rfl, rA, sA⟩ := hA
  obtain ⟨LU, PU, rfl, rU, sU⟩ := hU
  simp only [rowsN_length, List.length_map]
  exact rank_nul (card_el low) rA rU fun v => (sU v).trans (nul_congr (fun v => (sA v).symm) v)
end

end Go.Proofs.YtnhdngnolepkcaaDoor

/- What space.with answers. Condition: the variable of primes holds them. -/
namespace Go.Proofs.YtnhdngnolepkcaaDoor
open Go.RowKit

/-- Lists of rows, side by side: each slice reads. -/
def ReadsAll (w : World) (b off : Nat) (ts : List (Option Addr × Nat × List (List Int))) : Prop :=
  b < w.heap.size ∧ ∀ j t, ts[j]? = some t → w.cell? ⟨b, off + j, none⟩ = some (.slice t.1 t.2.2.length t.2.1) ∧ ReadsL w t.1 t.2.2 ∧ t.2.2.length ≤ maxLen
theorem ReadsAll.ext {w w' : World} {b off : Nat} {ts : List (Option Addr × Nat × List (List Int))} (h : ReadsAll w b off ts) (hx : Ext w w') : ReadsAll w' b off ts :=
  ⟨Nat.lt_of_lt_of_le h.1 hx.size, fun j t ht => by obtain ⟨h1, h2, h3⟩ := h.2 j t ht; exact ⟨(hx.cell h.1).trans h1, h2.ext hx, h3⟩⟩
/-- The fault of all. -/
def allFault (q n : Nat) : List (Option Addr × Nat × List (List Int)) → Int
  | [] => 0
  | t :: r => if rowsFault q n t.2.2 ≠ 0 then rowsFault q n t.2.2 else allFault q n r
theorem allFault_hit {q n : Nat} : ∀ (ts : List (Option Addr × Nat × List (List Int))) (j : Nat) (t : Option Addr × Nat × List (List Int)), ts[j]? = some t → (∀ i u, i < j → ts[i]? = some u → rowsFault q n u.2.2 = 0) → rowsFault q n t.2.2 ≠ 0 → allFault q n ts = rowsFault q n t.2.2
  | x :: r, 0, t, ht, _, h => by
    obtain rfl : x = t := by simpa using ht
    rw [allFault, if_pos h]
  | x :: r, j + 1, t, ht, ha, h => by
    have h0 := ha 0 x (by omega) rfl
    rw [allFault, if_neg (fun h' => h' h0)]
    exact allFault_hit r j t (by simpa using ht) (fun i u hi hu => ha (i + 1) u (by omega) (by simpa using hu)) h
theorem allFault_zero {q n : Nat} : ∀ (ts : List (Option Addr × Nat × List (List Int))), (∀ t ∈ ts, rowsFault q n t.2.2 = 0) → allFault q n ts = 0
  | [], _ => rfl
  | x :: r, ha => by
    rw [allFault, if_neg (fun h' => h' (ha x List.mem_cons_self))]
    exact allFault_zero r fun t ht => ha t (List.mem_cons_of_mem _ ht)
theorem allFault_each {q n : Nat} : ∀ {ts : List (Option Addr × Nat × List (List Int))}, allFault q n ts = 0 → ∀ t ∈ ts, rowsFault q n t.2.2 = 0
  | x :: r, h, t, ht => by
    rw [allFault] at h
    by_cases h0 : rowsFault q n x.2.2 = 0
    · rw [if_neg (fun h' => h' h0)] at h
      rcases List.mem_cons.1 ht with rfl | ht
      · exact h0
      · exact allFault_each h t ht
    · rw [if_pos h0] at h; exact absurd h h0

/-- The fault of a room and its lists. -/
def withAll (p k : Int) (low : List Int) (n : Int) (ts : List (Option Addr × Nat × List (List Int))) : Int :=
  if roomFault p k low n ≠ 0 then roomFault p k low n else allFault (ordF p k) n.toNat ts

set_option maxHeartbeats 2000000 in
theorem withs_any (p k : Int) (ao : Option Addr) (len cap : Nat) (low : List Int) (n : Int) (b off m mc : Nat) (ts : List (Option Addr × Nat × List (List Int))) (w : World) (hP : Primes w) (hl : low.length = len) (hr : Reads w ao (ints low)) (hm : ts.length = m) (hm4 : m ≤ 4) (ht : ReadsAll w b off ts) :
    Calls Tryd.prog 35 #[.agg #[.int .i64 p, .int .i64 k, .slice ao len cap], .int .i64 n, .slice (some ⟨b, off, none⟩) m mc] w fun e w' => ∃ v, e = .returned (.tuple #[.pointer v, .int .i64 (withAll p k low n ts)]) ∧ RoomPtr w w' p k low n (withAll p k low n ts) v ∧ Ext w w' := by
  have HX0 : Hid (Ext w (w.alloc (.cells #[.int .i64 p, .int .i64 k, .slice ao len cap] 24))) := (Ext.refl w).alloc _
  have HO := Lib.hid (open_any' p k ao len cap low n _ (hP.ext HX0.out) hl (HX0.out.reads hr))
  have HT := Lib.hid ht
  have HM := Lib.hid hm
  by_cases h0 : roomFault p k low n = 0
  · obtain ⟨P, K, N, rfl, rfl, rfl, hR⟩ := roomFault_zero h0
    have HW : Hid (withAll P K low N ts = allFault (P ^ K) N ts) := by show _ = _; unfold withAll; rw [if_neg (fun h => h h0), hR.fld.fault.2]; rfl
    rw [HW.out]
    rw [h0] at HO
    clear hP hl hr ht hm HW
    have HH0 := Lib.hid h0
    clear h0
    go_enter Tryd.func35, Tryd.ntmps35
    go_wp2_with fail
    refine Calls.mono HO.out ?_
    rintro e w1 ⟨v, rfl, hv, hx⟩
    obtain ⟨P', K', N', bb, e1, e2, e3, hR', rfl, hat, hbw⟩ := hv.2 rfl
    obtain rfl : P = P' := by omega
    obtain rfl : K = K' := by omega
    obtain rfl : N = N' := by omega
    have HX1 := Lib.hid (HX0.out.trans hx)
    have HA := Lib.hid hat
    have HBW : Hid (w.heap.size ≤ bb) := by show _ ≤ _; simp at hbw; omega
    have HRR := Lib.hid hR
    clear hv hx hat hbw hR' e1 e2 e3 hR
    obtain ⟨q, hq⟩ : ∃ q, P ^ K = q := ⟨_, rfl⟩
    have HQ := Lib.hid hq
    clear hq
    go_wp2
    go_loopw [24] (fun x wr => ∃ j : Nat, j ≤ m ∧ x = .int .i64 j ∧ Ext w1 wr ∧ ∀ i u, i < j → ts[i]? = some u → rowsFault q N u.2.2 = 0) (fun x _ => m - (intOf x).toNat)
    case atStart => exact ⟨0, by omega, rfl, Ext.refl _, fun i u hi => by omega⟩
    case round =>
      obtain ⟨j, hj, rfl, hx, ha⟩ := hrel
      have HX := Lib.hid hx
      have HAL := Lib.hid ha
      clear hx ha
      by_cases hlt : j < m
      · obtain ⟨t, htj⟩ : ∃ t, ts[j]? = some t := ⟨_, List.getElem?_eq_getElem (by rw [HM.out]; exact hlt)⟩
        obtain ⟨k1, k2, k3⟩ := ((HT.out.ext HX1.out).ext HX.out).2 j t htj
        have HJ := check_any P K N bb low t.1 t.2.2.length t.2.1 t.2.2 wr (HA.out.ext HX.out) rfl k3 k2
        rw [HQ.out] at HJ
        have HJ := Lib.hid HJ
        have HTJ := Lib.hid htj
        have HZ : Hid (∀ v, rowsFault q N t.2.2 = v → v ≠ 0 → allFault q N ts = v) := fun v hv h0 => by
          rw [allFault_hit ts j t HTJ.out HAL.out (by rw [hv]; exact h0), hv]
        obtain ⟨v, hv⟩ : ∃ v, rowsFault q N t.2.2 = v := ⟨_, rfl⟩
        have HV := Lib.hid hv
        rw [hv] at HJ
        obtain ⟨t1, t2, t3⟩ := t
        obtain ⟨tl, htl⟩ : ∃ l, t3.length = l := ⟨_, rfl⟩
        simp only [htl] at k1 HJ
        clear hv htj k2 k3 htl
        by_cases h0 : v = 0
        · have b2 : (v != 0) = false := by rw [h0]; rfl
          have H0 := Lib.hid h0
          clear h0
          go_wp2_with fail
          refine Calls.mono HJ.out ?_
          rintro e w2 ⟨rfl, hx2⟩
          have HX2 := Lib.hid (HX.out.trans hx2)
          clear hx2
          go_wp2
          go_roundw
          case rel => exact ⟨j + 1, by omega, by go_num, HX2.out, fun i u hi hu => by
            rcases Nat.lt_succ_iff_lt_or_eq.1 hi with h | rfl
            · exact HAL.out i u h hu
            · obtain rfl := Option.some.inj (HTJ.out.symm.trans hu)
              rw [HV.out]; exact H0.out⟩
          case measure => simp [intOf]; omega
        · have b2 : (v != 0) = true := by rw [bne_iff_ne]; exact h0
          have HE := Lib.hid (HZ.out v HV.out h0)
          have H0 := Lib.hid h0
          clear h0
          go_wp2_with fail
          refine Calls.mono HJ.out ?_
          rintro e w2 ⟨rfl, hx2⟩
          have HX2 := Lib.hid (HX1.out.trans (HX.out.trans hx2))
          clear hx2
          go_wp2
          refine bodyPost_ret (v := .tuple #[.pointer none, .int .i64 v]) (by simp [results, Tryd.results35, go_sem]) rfl ?_
          rw [HQ.out, HE.out]
          exact ⟨none, rfl, ⟨fun _ => rfl, fun h => absurd h H0.out⟩, HX2.out⟩
      · obtain rfl : m = j := by omega
        have HE : Hid (allFault q N ts = 0) := allFault_zero ts fun t ht => by
          obtain ⟨i, hi, e⟩ := List.mem_iff_getElem.1 ht
          exact HAL.out i t (by rw [HM.out] at hi; exact hi) (by rw [List.getElem?_eq_getElem hi, e])
        go_wp2
        refine bodyPost_ret (v := .tuple #[.pointer (some ⟨bb, 0, none⟩), .int .i64 0]) (by simp [results, Tryd.results35, go_sem]) rfl ?_
        rw [HQ.out, HE.out]
        exact ⟨_, rfl, ⟨fun h => absurd rfl h, fun _ => ⟨P, K, N, bb, rfl, rfl, rfl, HRR.out, rfl, HA.out.ext HX.out, HBW.out⟩⟩, HX1.out.trans HX.out⟩
  · have HW : Hid (withAll p k low n ts = roomFault p k low n) := by show _ = _; unfold withAll; rw [if_pos h0]
    rw [HW.out]
    obtain ⟨c, hc⟩ : ∃ c, roomFault p k low n = c := ⟨_, rfl⟩
    rw [hc] at HO h0 ⊢
    have b1 : (c != 0) = true := by rw [bne_iff_ne]; exact h0
    have H0 := Lib.hid h0
    clear hP hl hr ht hm HW hc h0
    go_enter Tryd.func35, Tryd.ntmps35
    go_wp2_with fail
    refine Calls.mono HO.out ?_
    rintro e w1 ⟨v, rfl, hv, hx⟩
    have HX1 := Lib.hid (HX0.out.trans hx)
    clear hv hx
    go_wp2
    go_ret2
    exact ⟨none, rfl, ⟨fun _ => rfl, fun h => absurd h H0.out⟩, HX1.out⟩

end Go.Proofs.YtnhdngnolepkcaaDoor

/- What space.Basis and space.Normal answer. Conditions: primes; what is read. -/
namespace Go.Proofs.YtnhdngnolepkcaaDoor
open Go.RowKit
set_option linter.unusedSectionVars false

/-- One list of rows, boxed ahead of the call of with. -/
theorem readsAll_one {w : World} {ao : Option Addr} {mc : Nat} {xss : List (List Int)} {b : Nat} (hb : b = w.heap.size) (hx : ReadsL w ao xss) (hbig : xss.length ≤ maxLen) : ReadsAll (w.alloc (.cells #[.slice ao xss.length mc] 25)) b 0 [(ao, mc, xss)] := by
  subst hb
  refine ⟨by simp, fun j t ht => ?_⟩
  cases j with
  | zero =>
    obtain rfl : (ao, mc, xss) = t := by simpa using ht
    exact ⟨(Blk.new' _ _ _ (by simp)).one, hx.ext (ext_box _ _ _), hbig⟩
  | succ j => simp at ht
theorem readsAll_two {w : World} {ao bo : Option Addr} {mc nc : Nat} {xss yss : List (List Int)} {b : Nat} (hb : b = w.heap.size) (hx : ReadsL w ao xss) (hy : ReadsL w bo yss) (hbig : xss.length ≤ maxLen) (hbig2 : yss.length ≤ maxLen) : ReadsAll (w.alloc (.cells #[.slice ao xss.length mc, .slice bo yss.length nc] 25)) b 0 [(ao, mc, xss), (bo, nc, yss)] := by
  subst hb
  have hB := (Blk.new' w #[.slice ao xss.length mc, .slice bo yss.length nc] 25 rfl).two
  refine ⟨by simp, fun j t ht => ?_⟩
  match j, ht with
  | 0, ht =>
    obtain rfl : (ao, mc, xss) = t := by simpa using ht
    exact ⟨hB.1, hx.ext (ext_box _ _ _), hbig⟩
  | 1, ht =>
    obtain rfl : (bo, nc, yss) = t := by simpa using ht
    exact ⟨hB.2, hy.ext (ext_box _ _ _), hbig2⟩
  | j + 2, ht => simp at ht

/-- The room is open. -/
theorem withAll_ok {p k n : Nat} {low : List Int} {ts : List (Option Addr × Nat × List (List Int))} (hR : IsRoom p k low n) (ht : ∀ t, t ∈ ts → rowsFault (p ^ k) n t.2.2 = 0) : withAll p k low n ts = 0 := by
  unfold withAll
  rw [if_neg (fun h => h hR.fault), hR.fld.fault.2]
  exact allFault_zero ts ht
theorem withAll_is {p k n : Int} {low : List Int} {ts : List (Option Addr × Nat × List (List Int))} (h : withAll p k low n ts = 0) : ∃ P K N : Nat, p = P ∧ k = K ∧ n = N ∧ IsRoom P K low N ∧ ∀ t, t ∈ ts → rowsFault (P ^ K) N t.2.2 = 0 := by
  unfold withAll at h
  by_cases h2 : roomFault p k low n = 0
  · rw [if_neg (fun h => h h2)] at h
    obtain ⟨P, K, N, rfl, rfl, rfl, hR⟩ := roomFault_zero h2
    rw [hR.fld.fault.2] at h
    exact ⟨P, K, N, rfl, rfl, rfl, hR, allFault_each h⟩
  · rw [if_pos h2] at h; exact absurd h h2

/-- What with answers where all is right. -/
theorem withs_ok (p k n : Nat) (ao : Option Addr) (cap : Nat) (low : List Int) (b off m mc : Nat) (ts : List (Option Addr × Nat × List (List Int))) (w : World) (hP : Primes w) (hR : IsRoom p k low n) (hr : Reads w ao (ints low)) (hm : ts.length = m) (hm4 : m ≤ 4) (ht : ReadsAll w b off ts) (hq : ∀ t, t ∈ ts → rowsFault (p ^ k) n t.2.2 = 0) :
    Calls Tryd.prog 35 #[.agg #[.int .i64 p, .int .i64 k, .slice ao k cap], .int .i64 n, .slice (some ⟨b, off, none⟩) m mc] w fun e w' => ∃ r, e = .returned (.tuple #[.pointer (some ⟨r, 0, none⟩), .int .i64 0]) ∧ RoomAt w' r p k low n ∧ Ext w w' := by
  refine (withs_any p k ao k cap low n b off m mc ts w hP hR.fld.len hr hm hm4 ht).mono ?_
  rintro e w' ⟨v, rfl, hp, hx⟩
  rw [withAll_ok hR hq] at hp ⊢
  obtain ⟨P, K, N, r, e1, e2, e3, _, rfl, h3, _⟩ := hp.2 rfl
  obtain rfl : p = P := by omega
  obtain rfl : k = K := by omega
  obtain rfl : n = N := by omega
  exact ⟨r, rfl, h3, hx⟩
/-- What with answers where something is wrong. -/
theorem withs_no (p k : Int) (ao : Option Addr) (len cap : Nat) (low : List Int) (n : Int) (b off m mc : Nat) (ts : List (Option Addr × Nat × List (List Int))) (w : World) (hP : Primes w) (hl : low.length = len) (hr : Reads w ao (ints low)) (hm : ts.length = m) (hm4 : m ≤ 4) (ht : ReadsAll w b off ts) (h0 : withAll p k low n ts ≠ 0) :
    Calls Tryd.prog 35 #[.agg #[.int .i64 p, .int .i64 k, .slice ao len cap], .int .i64 n, .slice (some ⟨b, off, none⟩) m mc] w fun e w' => e = .returned (.tuple #[.pointer none, .int .i64 (withAll p k low n ts)]) ∧ Ext w w' := by
  refine (withs_any p k ao len cap low n b off m mc ts w hP hl hr hm hm4 ht).mono ?_
  rintro e w' ⟨v, rfl, hp, hx⟩
  obtain rfl := hp.1 h0
  exact ⟨rfl, hx⟩

section
variable {p k : Nat} {low : List Int} [hI : FldP p k low]

/-- The two walks of a room, over the field. -/
theorem basis_el (n b : Nat) (ao : Option Addr) (len cap : Nat) (V : List (Nat → El p k low)) (w : World) (hb : RoomAt w b p k low n) (hn1 : 1 ≤ n) (hn6 : n ≤ 6) (hz : Zero n V) (hlen : V.length = len) (hbig : len ≤ 100) (hr : ReadsL w ao (rowsN n (V.map toN))) :
    Calls Tryd.prog 44 #[.pointer (some ⟨b, 0, none⟩), .slice ao len cap] w fun e w' => ∃ (bo : Option Addr) (bl bcap : Nat) (xss : List (List Int)), e = .returned (.slice bo bl bcap) ∧ xss.length = bl ∧ ReadsL w' bo xss ∧ BasisI n xss (Span V) ∧ Ext w w' := by
  refine (basis_any p k n b low ao len cap (V.map toN) w hI.out hb hn1 hn6 (by rw [List.length_map, hlen]) hbig (allLt_toN n V) hr).mono ?_
  rintro e w' ⟨bo, bcap, rfl, h1, h2⟩
  exact ⟨bo, _, bcap, _, rfl, rowsN_length _ _, h1, basN_basis hz, h2⟩
theorem normal_el (n b : Nat) (ao : Option Addr) (len cap : Nat) (V : List (Nat → El p k low)) (w : World) (hb : RoomAt w b p k low n) (hn1 : 1 ≤ n) (hn6 : n ≤ 6) (hz : Zero n V) (hlen : V.length = len) (hbig : len ≤ 100) (hr : ReadsL w ao (rowsN n (V.map toN))) :
    Calls Tryd.prog 36 #[.pointer (some ⟨b, 0, none⟩), .slice ao len cap] w fun e w' => ∃ (bo : Option Addr) (bl bcap : Nat) (xss : List (List Int)), e = .returned (.slice bo bl bcap) ∧ xss.length = bl ∧ ReadsL w' bo xss ∧ BasisI n xss (Nul n (Span V)) ∧ Ext w w' := by
  have h := leadP_ok hz
  have hle := lead_el h
  rw [← basN_map] at hle
  refine (normal_any p k n b low ao len cap (V.map toN) (leadP n (basN p k low n (V.map toN))) w hI.out hb hn1 hn6 (by rw [List.length_map, hlen]) hbig (allLt_toN n V) hle hr).mono ?_
  rintro e w' ⟨bo, bcap, rfl, h1, h2⟩
  exact ⟨bo, _, bcap, _, rfl, rowsN_length _ _, h1, normN_basis hz, h2⟩
end

/-- The answers: a fault. -/
def SaysNo (f : FuncId) (args : Array Value) (w : World) (c : Int) : Prop := Calls Tryd.prog f args w fun e w' => e = .returned (.tuple #[.slice none 0 0, .int .i64 c]) ∧ Ext w w'
/-- .. a basis. -/
def SaysBasis {p k : Nat} {low : List Int} [FldP p k low] (f : FuncId) (args : Array Value) (w : World) (n : Nat) (S : (Nat → El p k low) → Prop) : Prop := Calls Tryd.prog f args w fun e w' => ∃ (bo : Option Addr) (bl bcap : Nat) (xss : List (List Int)), e = .returned (.tuple #[.slice bo bl bcap, .int .i64 0]) ∧ xss.length = bl ∧ ReadsL w' bo xss ∧ BasisI n xss S ∧ Ext w w'

set_option maxHeartbeats 4000000 in
theorem spBasis_no (p k : Int) (ao bo : Option Addr) (len cap mc : Nat) (low : List Int) (n : Int) (xss : List (List Int)) (w : World) (hP : Primes w) (hl : low.length = len) (hr : Reads w ao (ints low)) (hbig : xss.length ≤ maxLen) (hx : ReadsL w bo xss) (h0 : withAll p k low n [(bo, mc, xss)] ≠ 0) :
    SaysNo 22 #[.agg #[.int .i64 p, .int .i64 k, .slice ao len cap], .int .i64 n, .slice bo xss.length mc] w (withAll p k low n [(bo, mc, xss)]) := by
  have HXA : Hid (Ext w (w.alloc (.cells #[.int .i64 p, .int .i64 k, .slice ao len cap] 24))) := (Ext.refl w).alloc _
  have HXB := Lib.hid (HXA.out.alloc (.cells #[.slice bo xss.length mc] 25))
  have HW := Lib.hid (withs_no p k ao len cap low n (w.heap.size + 1) 0 1 1 [(bo, mc, xss)] _ (hP.ext HXB.out) hl (HXB.out.reads hr) rfl (by omega) (readsAll_one (by simp) (hx.ext HXA.out) hbig) h0)
  obtain ⟨c, hc⟩ : ∃ c, withAll p k low n [(bo, mc, xss)] = c := ⟨_, rfl⟩
  obtain ⟨m, hm⟩ : ∃ m, xss.length = m := ⟨_, rfl⟩
  unfold SaysNo
  rw [hc] at HW h0 ⊢
  rw [hm] at HW HXB ⊢
  have b1 : (c != 0) = true := by rw [bne_iff_ne]; exact h0
  clear hc hm hP hl hr hx hbig h0
  go_enter Tryd.func22, Tryd.ntmps22
  go_wp2_with fail
  refine Calls.mono HW.out ?_
  rintro e w1 ⟨rfl, hx1⟩
  have HX1 := Lib.hid (HXB.out.trans hx1)
  clear hx1
  go_wp2
  exact bodyPost_ret (v := .tuple #[.slice none 0 0, .int .i64 c]) (by simp [results, Tryd.results22, go_sem]) rfl ⟨rfl, HX1.out⟩

set_option maxHeartbeats 4000000 in
theorem spNormal_no (p k : Int) (ao bo : Option Addr) (len cap mc : Nat) (low : List Int) (n : Int) (xss : List (List Int)) (w : World) (hP : Primes w) (hl : low.length = len) (hr : Reads w ao (ints low)) (hbig : xss.length ≤ maxLen) (hx : ReadsL w bo xss) (h0 : withAll p k low n [(bo, mc, xss)] ≠ 0) :
    SaysNo 16 #[.agg #[.int .i64 p, .int .i64 k, .slice ao len cap], .int .i64 n, .slice bo xss.length mc] w (withAll p k low n [(bo, mc, xss)]) := by
  have HXA : Hid (Ext w (w.alloc (.cells #[.int .i64 p, .int .i64 k, .slice ao len cap] 24))) := (Ext.refl w).alloc _
  have HXB := Lib.hid (HXA.out.alloc (.cells #[.slice bo xss.length mc] 25))
  have HW := Lib.hid (withs_no p k ao len cap low n (w.heap.size + 1) 0 1 1 [(bo, mc, xss)] _ (hP.ext HXB.out) hl (HXB.out.reads hr) rfl (by omega) (readsAll_one (by simp) (hx.ext HXA.out) hbig) h0)
  obtain ⟨c, hc⟩ : ∃ c, withAll p k low n [(bo, mc, xss)] = c := ⟨_, rfl⟩
  obtain ⟨m, hm⟩ : ∃ m, xss.length = m := ⟨_, rfl⟩
  unfold SaysNo
  rw [hc] at HW h0 ⊢
  rw [hm] at HW HXB ⊢
  have b1 : (c != 0) = true := by rw [bne_iff_ne]; exact h0
  clear hc hm hP hl hr hx hbig h0
  go_enter Tryd.func16, Tryd.ntmps16
  go_wp2_with fail
  refine Calls.mono HW.out ?_
  rintro e w1 ⟨rfl, hx1⟩
  have HX1 := Lib.hid (HXB.out.trans hx1)
  clear hx1
  go_wp2
  exact bodyPost_ret (v := .tuple #[.slice none 0 0, .int .i64 c]) (by simp [results, Tryd.results16, go_sem]) rfl ⟨rfl, HX1.out⟩

section
variable {p k : Nat} {low : List Int} [hI : FldP p k low]

set_option maxHeartbeats 4000000 in
theorem spBasis_ok (n : Nat) (ao bo : Option Addr) (cap mc : Nat) (xss : List (List Int)) (w : World) (hP : Primes w) (hR : IsRoom p k low n) (hr : Reads w ao (ints low)) (hx : ReadsL w bo xss) (hq : rowsFault (p ^ k) n xss = 0) :
    SaysBasis 22 #[.agg #[.int .i64 p, .int .i64 k, .slice ao k cap], .int .i64 n, .slice bo xss.length mc] w n (Span (vecs (p := p) (k := k) (low := low) xss)) := by
  have hbig := (rowsFault_zero hq).1
  have HXA : Hid (Ext w (w.alloc (.cells #[.int .i64 p, .int .i64 k, .slice ao k cap] 24))) := (Ext.refl w).alloc _
  have HXB := Lib.hid (HXA.out.alloc (.cells #[.slice bo xss.length mc] 25))
  have HW := Lib.hid (withs_ok p k n ao cap low (w.heap.size + 1) 0 1 1 [(bo, mc, xss)] _ (hP.ext HXB.out) hR (HXB.out.reads hr) rfl (by omega) (readsAll_one (by simp) (hx.ext HXA.out) (by unfold maxLen; omega)) (fun t ht => by obtain rfl : t = (bo, mc, xss) := (by simpa using ht); exact hq))
  have HB : Hid (∀ b w', Ext w w' → RoomAt w' b p k low n → _) := fun b w' (h1 : Ext w w') (h2 : RoomAt w' b p k low n) => basis_el n b bo xss.length mc (vecs (p := p) (k := k) (low := low) xss) w' h2 hR.n1 hR.n6 (vecs_zero hq) (vecs_length xss) (by omega) (by rw [vecs_rows hq]; exact hx.ext h1)
  obtain ⟨S, hS⟩ : ∃ S, Span (vecs (p := p) (k := k) (low := low) xss) = S := ⟨_, rfl⟩
  obtain ⟨m, hm⟩ : ∃ m, xss.length = m := ⟨_, rfl⟩
  unfold SaysBasis
  rw [hm] at HW HXB HB ⊢
  rw [hS] at HB ⊢
  clear hP hr hx hbig hq hS hm hR
  go_enter Tryd.func22, Tryd.ntmps22
  go_wp2_with fail
  refine Calls.mono HW.out ?_
  rintro e w1 ⟨r, rfl, hra, hx1⟩
  have HX1 := Lib.hid (HXB.out.trans hx1)
  have HB1 := Lib.hid (HB.out r w1 HX1.out hra)
  clear hx1 hra
  go_wp2_with fail
  refine Calls.mono HB1.out ?_
  rintro e w2 ⟨ro, rl, rc, out, rfl, h1, h2, h3, h4⟩
  have HE := Lib.hid (And.intro h1 (And.intro h2 (And.intro h3 (HX1.out.trans h4))))
  clear h1 h2 h3 h4
  go_wp2
  exact bodyPost_ret (v := .tuple #[.slice ro rl rc, .int .i64 0]) (by simp [results, Tryd.results22, go_sem]) rfl ⟨ro, rl, rc, out, rfl, HE.out⟩

set_option maxHeartbeats 4000000 in
theorem spNormal_ok (n : Nat) (ao bo : Option Addr) (cap mc : Nat) (xss : List (List Int)) (w : World) (hP : Primes w) (hR : IsRoom p k low n) (hr : Reads w ao (ints low)) (hx : ReadsL w bo xss) (hq : rowsFault (p ^ k) n xss = 0) :
    SaysBasis 16 #[.agg #[.int .i64 p, .int .i64 k, .slice ao k cap], .int .i64 n, .slice bo xss.length mc] w n (Nul n (Span (vecs (p := p) (k := k) (low := low) xss))) := by
  have hbig := (rowsFault_zero hq).1
  have HXA : Hid (Ext w (w.alloc (.cells #[.int .i64 p, .int .i64 k, .slice ao k cap] 24))) := (Ext.refl w).alloc _
  have HXB := Lib.hid (HXA.out.alloc (.cells #[.slice bo xss.length mc] 25))
  have HW := Lib.hid (withs_ok p k n ao cap low (w.heap.size + 1) 0 1 1 [(bo, mc, xss)] _ (hP.ext HXB.out) hR (HXB.out.reads hr) rfl (by omega) (readsAll_one (by simp) (hx.ext HXA.out) (by unfold maxLen; omega)) (fun t ht => by obtain rfl : t = (bo, mc, xss) := (by simpa using ht); exact hq))
  have HB : Hid (∀ b w', Ext w w' → RoomAt w' b p k low n → _) := fun b w' (h1 : Ext w w') (h2 : RoomAt w' b p k low n) => normal_el n b bo xss.length mc (vecs (p := p) (k := k) (low := low) xss) w' h2 hR.n1 hR.n6 (vecs_zero hq) (vecs_length xss) (by omega) (by rw [vecs_rows hq]; exact hx.ext h1)
  obtain ⟨S, hS⟩ : ∃ S, Nul n (Span (vecs (p := p) (k := k) (low := low) xss)) = S := ⟨_, rfl⟩
  obtain ⟨m, hm⟩ : ∃ m, xss.length = m := ⟨_, rfl⟩
  unfold SaysBasis
  rw [hm] at HW HXB HB ⊢
  rw [hS] at HB ⊢
  clear hP hr hx hbig hq hS hm hR
  go_enter Tryd.func16, Tryd.ntmps16
  go_wp2_with fail
  refine Calls.mono HW.out ?_
  rintro e w1 ⟨r, rfl, hra, hx1⟩
  have HX1 := Lib.hid (HXB.out.trans hx1)
  have HB1 := Lib.hid (HB.out r w1 HX1.out hra)
  clear hx1 hra
  go_wp2_with fail
  refine Calls.mono HB1.out ?_
  rintro e w2 ⟨ro, rl, rc, out, rfl, h1, h2, h3, h4⟩
  have HE := Lib.hid (And.intro h1 (And.intro h2 (And.intro h3 (HX1.out.trans h4))))
  clear h1 h2 h3 h4
  go_wp2
  exact bodyPost_ret (v := .tuple #[.slice ro rl rc, .int .i64 0]) (by simp [results, Tryd.results16, go_sem]) rfl ⟨ro, rl, rc, out, rfl, HE.out⟩
end

end Go.Proofs.YtnhdngnolepkcaaDoor
