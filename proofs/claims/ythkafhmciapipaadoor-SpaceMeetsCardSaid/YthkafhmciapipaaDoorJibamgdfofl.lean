/- What is known of a list of lists of ints that comes in as an argument. No conditions. -/
import Derived.Test.YthkafhmciapipaaDoorJmadnhhejpk
import Derived.Test.YthkafhmciapipaaDoorJgcdkbgjmfo
import Derived.Deep.Matrix
import Derived.Test.YthkafhmciapipaaDoorJkoajahjkag
import Derived.Test.YthkafhmciapipaaDoorJikemibbpmi
import Derived.Test.YthkafhmciapipaaDoorJohebcdhffd
import Derived.Test.YthkafhmciapipaaDoorRows
import Derived.ProofKit
import Derived.LaidMore
import Derived.OpenShut
import Derived.Lib.LaidTab
import Derived.LaidHandle
import Derived.MakeChecks
namespace Go.Proofs.YthkafhmciapipaaDoor
open Go.ChangeShapes Go.WideShapes Go.ChangeAt Go.RowKit

/-- A list of lists that came in. -/
structure ListsArg (w : World) (ao : Option Addr) (n cap : Nat) (xss : List (List Int)) : Prop where
  len : xss.length = n
  big : n ≤ maxLen
  reads : ReadsL w ao xss
  rng : ∀ xs ∈ xss, ∀ x ∈ xs, -9223372036854775808 ≤ x ∧ x ≤ 9223372036854775807

theorem open_listsArg {H : Type} {enc : TypeId × Value → H} {W : World} {base : Nat} {v : Value} {d : DataW H} {p : List MemPlace}
    (hv : Value.okWide Tryd.prog W .any base 30 v) (h : DataW.Trod enc Tryd.prog W 0 (fun _ => true) true 30 v d p) :
    ∃ ao n cap xss, v = .slice ao n cap ∧ ListsArg W ao n cap xss := by
  obtain ⟨a0, len0, cap0, rfl⟩ := okWide_slice Tryd.underlying30 hv
  obtain ⟨fuel, hf⟩ := h
  have hf' : DataW.trod enc Tryd.prog W 0 (fun _ => true) true fuel 30 [.slice a0 len0 cap0] = some (d, p) := by simpa [Value.cells] using hf
  rcases Go.Deep.open_int_rows Tryd.underlying30 Tryd.underlying27 Tryd.underlying3 (by kernel_rfl) (by kernel_rfl) hf' with ⟨hcs, _⟩ | ⟨a, len, cap, A, L, C, Z, hcs, _, hl, hm, _, hr⟩
  · obtain ⟨rfl, rfl, rfl⟩ : a0 = none ∧ len0 = 0 ∧ cap0 = 0 := by simpa using hcs
    exact ⟨none, 0, 0, [], rfl, rfl, by decide, ReadsL.nil _ _, by simp⟩
  · obtain ⟨rfl, rfl, rfl⟩ : a0 = some a ∧ len0 = len ∧ cap0 = cap := by simpa using hcs
    have hrow : ∀ r, r < len0 → row ((List.range len0).map fun r => (Z r).take (L r)) r = (Z r).take (L r) := fun r hr' => by
      rw [row_eq _ _ (by simpa using hr')]; simp
    refine ⟨some a, len0, cap0, (List.range len0).map fun r => (Z r).take (L r), rfl, by simp, by omega, ⟨(List.range len0).map fun r => .slice (A r) (L r) (C r), reads_of_add fun i u hu => ?_, by simp, fun j v hv => ?_⟩, fun xs hxs x hx => ?_⟩
    · have hi : i < len0 := by have := (List.getElem?_eq_some_iff.1 hu).1; simpa using this
      rw [(hr i (by omega)).1, ← hu]
      simp [hi]
    · have hj : j < len0 := by have := (List.getElem?_eq_some_iff.1 hv).1; simpa using this
      obtain ⟨h1, h2, h3, h4, h5, h6, h7⟩ := hr j (by omega)
      rw [hrow j hj]
      have hlen : ((Z j).take (L j)).length = L j := by simp; omega
      refine ⟨A j, C j, by rw [hlen]; simpa [hj] using hv.symm, ?_, by rw [hlen]; omega⟩
      rcases hA : A j with _ | a'
      · have := h6 hA
        have h0 : L j = 0 := by omega
        rw [h0]; exact .inl rfl
      · refine reads_of_add fun i u hu => ?_
        have hi : i < L j := by have := (List.getElem?_eq_some_iff.1 hu).1; simp [ints] at this; omega
        rw [(h7 a' hA).2 i (by omega), ← hu]
        simp [ints, hi, List.getElem?_eq_getElem (show i < (Z j).length by omega)]
    · obtain ⟨r, hr1, rfl⟩ := List.mem_map.1 hxs
      obtain ⟨h1, h2, h3, h4, h5, h6, h7⟩ := hr r (by have := List.mem_range.1 hr1; omega)
      exact rng_of_wf (h5 x (List.mem_of_mem_take hx))

end Go.Proofs.YthkafhmciapipaaDoor

/- What SpaceMeets returns. Condition: primes. -/
namespace Go.Proofs.YthkafhmciapipaaDoor
open Go.RowKit
set_option linter.unusedVariables false
set_option linter.unusedSectionVars false

set_option maxHeartbeats 4000000 in
theorem meets_no (p k : Int) (ao bo do' : Option Addr) (len cap m mc l lc : Nat) (n : Int) (w : World) (c0 c1 c : Int) (hc : c ≠ 0) (h0 : c0 = c ∨ (c0 = 0 ∧ c1 = c) ∨ (c0 = 0 ∧ c1 = 0))
    (hroom : ∀ W, Ext w W → Calls Tryd.prog 10 #[.agg #[.int .i64 p, .int .i64 k, .slice ao len cap], .int .i64 n] W fun e w' => e = .returned (.int .i64 c0) ∧ Ext W w')
    (hra : c0 = 0 → ∀ W, Ext w W → Calls Tryd.prog 11 #[.agg #[.int .i64 p, .int .i64 k, .slice ao len cap], .int .i64 n, .slice bo m mc] W fun e w' => e = .returned (.int .i64 c1) ∧ Ext W w')
    (hrb : c0 = 0 → c1 = 0 → ∀ W, Ext w W → Calls Tryd.prog 11 #[.agg #[.int .i64 p, .int .i64 k, .slice ao len cap], .int .i64 n, .slice do' l lc] W fun e w' => e = .returned (.int .i64 c) ∧ Ext W w')
    (hj : ∀ W, Ext w W → SaysNo 21 #[.agg #[.int .i64 p, .int .i64 k, .slice ao len cap], .int .i64 n, .slice bo m mc, .slice do' l lc] W c)
    (hm : ∀ W, Ext w W → SaysNo 22 #[.agg #[.int .i64 p, .int .i64 k, .slice ao len cap], .int .i64 n, .slice bo m mc, .slice do' l lc] W c) :
    Calls Tryd.prog 5 #[.agg #[.int .i64 p, .int .i64 k, .slice ao len cap], .int .i64 n, .slice bo m mc, .slice do' l lc] w fun e w' => e = .returned (.bool true) ∧ Ext w w' := by
  have E0 := Lib.hid (ext_box w #[.int .i64 p, .int .i64 k, .slice ao len cap] 29)
  have F0 := Lib.hid (Blk.new w #[.int .i64 p, .int .i64 k, .slice ao len cap] 29)
  have k0 := F0.out.three
  have HRM := Lib.hid hroom
  have HRA := Lib.hid hra
  have HRB := Lib.hid hrb
  have HJ := Lib.hid hj
  have HM := Lib.hid hm
  have b1 : (c != 0) = true := by rw [bne_iff_ne]; exact hc
  have b0 : (c == 0) = false := by rw [beq_eq_false_iff_ne]; exact hc
  have HC := Lib.hid h0
  clear hroom hra hrb hj hm hc h0
  go_enter Tryd.func5, Tryd.ntmps5
  go_wp2_with fail
  refine Calls.mono (HRM.out _ E0.out) ?_
  rintro e w1 ⟨rfl, hx⟩
  have E1 := Lib.hid (E0.out.trans hx)
  have F1 := Lib.hid (F0.out.ext hx)
  have k1 := F1.out.three
  clear k0 hx
  rcases HC.out with rfl | ⟨rfl, rfl⟩ | ⟨rfl, rfl⟩
  · go_wp2_with fail
    refine Calls.mono (HJ.out w1 E1.out) ?_
    rintro e wx ⟨rfl, hx⟩
    have Ex := Lib.hid (E1.out.trans hx)
    have Fx := Lib.hid (F1.out.ext hx)
    clear k1 hx
    have kx := Fx.out.three
    go_wp2_with fail
    refine Calls.mono (HM.out wx Ex.out) ?_
    rintro e wy ⟨rfl, hx⟩
    have Ey := Lib.hid (Ex.out.trans hx)
    clear kx hx
    go_wp2
    go_ret
    exact ⟨by simp, Ey.out⟩
  · have HW := Lib.hid (HRA.out rfl w1 E1.out)
    go_wp2_with fail
    refine Calls.mono HW.out ?_
    rintro e w2 ⟨rfl, hx⟩
    have E2 := Lib.hid (E1.out.trans hx)
    have F2 := Lib.hid (F1.out.ext hx)
    clear k1 hx
    have k2 := F2.out.three
    go_wp2_with fail
    refine Calls.mono (HJ.out w2 E2.out) ?_
    rintro e wx ⟨rfl, hx⟩
    have Ex := Lib.hid (E2.out.trans hx)
    have Fx := Lib.hid (F2.out.ext hx)
    clear k2 hx
    have kx := Fx.out.three
    go_wp2_with fail
    refine Calls.mono (HM.out wx Ex.out) ?_
    rintro e wy ⟨rfl, hx⟩
    have Ey := Lib.hid (Ex.out.trans hx)
    clear kx hx
    go_wp2
    go_ret
    exact ⟨by simp, Ey.out⟩
  · have HW := Lib.hid (HRA.out rfl w1 E1.out)
    go_wp2_with fail
    refine Calls.mono HW.out ?_
    rintro e w2 ⟨rfl, hx⟩
    have E2 := Lib.hid (E1.out.trans hx)
    have F2 := Lib.hid (F1.out.ext hx)
    clear k1 hx
    have k2 := F2.out.three
    have HW2 := Lib.hid (HRB.out (by simp) (by simp) w2 E2.out)
    go_wp2_with fail
    refine Calls.mono HW2.out ?_
    rintro e w3 ⟨rfl, hx⟩
    have E3 := Lib.hid (E2.out.trans hx)
    have F3 := Lib.hid (F2.out.ext hx)
    clear k2 hx
    have k3 := F3.out.three
    go_wp2_with fail
    refine Calls.mono (HJ.out w3 E3.out) ?_
    rintro e wx ⟨rfl, hx⟩
    have Ex := Lib.hid (E3.out.trans hx)
    have Fx := Lib.hid (F3.out.ext hx)
    clear k3 hx
    have kx := Fx.out.three
    go_wp2_with fail
    refine Calls.mono (HM.out wx Ex.out) ?_
    rintro e wy ⟨rfl, hx⟩
    have Ey := Lib.hid (Ex.out.trans hx)
    clear kx hx
    go_wp2
    go_ret
    exact ⟨by simp, Ey.out⟩

section
variable {p k : Nat} {low : List Int} [hI : FldP p k low]

/-- Where both marks stand. -/
theorem Marks.both {n : Nat} {T U : Nat → Bool} {S R : (Nat → El p k low) → Prop} (h : Marks n T S) (g : Marks n U R) : Marks n (fun c => T c && U c) (fun v => S v ∧ R v) := fun c hc => by
  rw [Bool.and_eq_true, h c hc, g c hc]

set_option maxHeartbeats 8000000 in
set_option maxRecDepth 100000 in
theorem meets_ok (n : Nat) (ao bo do' : Option Addr) (cap mc lc : Nat) (xss yss : List (List Int)) (w : World) (hP : Primes w) (hR : IsRoom p k low n) (hr : Reads w ao (ints low)) (hx : ReadsL w bo xss) (hq : rowsFault (p ^ k) n xss = 0) (hy : ReadsL w do' yss) (hq2 : rowsFault (p ^ k) n yss = 0) :
    Calls Tryd.prog 5 #[.agg #[.int .i64 p, .int .i64 k, .slice ao k cap], .int .i64 n, .slice bo xss.length mc, .slice do' yss.length lc] w fun e w' => e = .returned (.bool true) ∧ Ext w w' := by
  have hbig := (rowsFault_zero hq).1
  have hbig2 := (rowsFault_zero hq2).1
  have hn6 := hR.n6
  have E0 := Lib.hid (ext_box w #[.int .i64 p, .int .i64 k, .slice ao k cap] 29)
  have F0 := Lib.hid (Blk.new w #[.int .i64 p, .int .i64 k, .slice ao k cap] 29)
  have k0 := F0.out.three
  have HRM : Hid (∀ W, Ext w W → _) := fun W (h : Ext w W) => refRoomFault_any p k ao k cap low n W hR.fld.len (h.reads hr)
  rw [hR.fault] at HRM
  have HRA : Hid (∀ W, Ext w W → _) := fun W (h : Ext w W) => refRowsFault_any p k n ao bo k cap xss.length mc low xss W hR.fld hn6 rfl (by unfold maxLen; omega) (hx.ext h)
  rw [hq] at HRA
  have HRB : Hid (∀ W, Ext w W → _) := fun W (h : Ext w W) => refRowsFault_any p k n ao do' k cap yss.length lc low yss W hR.fld hn6 rfl (by unfold maxLen; omega) (hy.ext h)
  rw [hq2] at HRB
  have HJ : Hid (∀ W, Ext w W → _) := fun W (h : Ext w W) => spJoin_ok (p := p) (k := k) (low := low) n ao bo do' cap mc lc xss yss W (hP.ext h) hR (h.reads hr) (hx.ext h) hq (hy.ext h) hq2
  have HM : Hid (∀ W, Ext w W → _) := fun W (h : Ext w W) => spMeet_ok (p := p) (k := k) (low := low) n ao bo do' cap mc lc xss yss W (hP.ext h) hR (h.reads hr) (hx.ext h) hq (hy.ext h) hq2
  have HSA : Hid (∀ W, Ext w W → _) := fun W (h : Ext w W) => span_ref (p := p) (k := k) (low := low) n xss.length ao bo cap mc (vecs xss) W hR (h.reads hr) (vecs_zero hq) (vecs_length xss) (by omega) (by rw [vecs_rows hq]; exact hx.ext h)
  have HSB : Hid (∀ W, Ext w W → _) := fun W (h : Ext w W) => span_ref (p := p) (k := k) (low := low) n yss.length ao do' cap lc (vecs yss) W hR (h.reads hr) (vecs_zero hq2) (vecs_length yss) (by omega) (by rw [vecs_rows hq2]; exact hy.ext h)
  have HSJ : Hid (∀ W ro rc, Ext w W → ReadsL W ro (xss ++ yss) → _) := fun W ro rc (h : Ext w W) (h2 : ReadsL W ro (xss ++ yss)) => span_ref (p := p) (k := k) (low := low) n (xss.length + yss.length) ao ro cap rc (vecs xss ++ vecs yss) W hR (h.reads hr) ((vecs_zero hq).append (vecs_zero hq2)) (by rw [List.length_append, vecs_length, vecs_length]) (by omega) (reads_append (by rw [vecs_rows hq, vecs_rows hq2]; exact h2))
  have HBO : Hid (∀ uo tcap (T : Nat → Bool) (S : (Nat → El p k low) → Prop) ys W, Reads W uo (boolL T ((p ^ k) ^ n)) → Marks n T S → BasisI n ys S → _) := fun uo tcap T S ys W h1 h2 h3 => basisOf_ref (p := p) (k := k) (low := low) n ao uo cap tcap T S ys W hR h1 h2 h3
  have hNb := hR.big
  have hNp : 0 < (p ^ k) ^ n := Nat.pow_pos (qpos low)
  obtain ⟨vsx, rx, r2x⟩ := hx
  obtain ⟨vsy, ry, r2y⟩ := hy
  have HVX := Lib.hid (And.intro rx r2x)
  have HVY := Lib.hid (And.intro ry r2y)
  have hvx : vsx.length = xss.length := r2x.1
  have hvy : vsy.length = yss.length := r2y.1
  obtain ⟨N, hN⟩ : ∃ N, (p ^ k) ^ n = N := ⟨_, rfl⟩
  rw [hN] at HSA HSB HSJ HBO hNb hNp
  obtain ⟨A, hA⟩ : ∃ A, vecs (p := p) (k := k) (low := low) xss = A := ⟨_, rfl⟩
  obtain ⟨B, hB⟩ : ∃ B, vecs (p := p) (k := k) (low := low) yss = B := ⟨_, rfl⟩
  rw [hA] at HJ HM HSA HSJ
  rw [hB] at HJ HM HSB HSJ
  obtain ⟨m, hm⟩ : ∃ m, xss.length = m := ⟨_, rfl⟩
  obtain ⟨l, hl⟩ : ∃ l, yss.length = l := ⟨_, rfl⟩
  rw [hm] at HRA HJ HM HSA HSJ hbig hvx ⊢
  rw [hl] at HRB HJ HM HSB HSJ hbig2 hvy ⊢
  have HVXL := Lib.hid hvx
  have HVYL := Lib.hid hvy
  clear hP hR hr hq hq2 hA hB hm hl hN rx r2x ry r2y hvx hvy
  go_enter Tryd.func5, Tryd.ntmps5
  go_wp2_with fail
  refine Calls.mono (HRM.out _ E0.out) ?_
  rintro e w1 ⟨rfl, hx⟩
  have E1 := Lib.hid (E0.out.trans hx)
  have F1 := Lib.hid (F0.out.ext hx)
  clear k0 hx
  have k1 := F1.out.three
  go_wp2_with fail
  refine Calls.mono (HRA.out w1 E1.out) ?_
  rintro e w2 ⟨rfl, hx⟩
  have E2 := Lib.hid (E1.out.trans hx)
  have F2 := Lib.hid (F1.out.ext hx)
  clear k1 hx
  have k2 := F2.out.three
  go_wp2_with fail
  refine Calls.mono (HRB.out w2 E2.out) ?_
  rintro e w3 ⟨rfl, hx⟩
  have E3 := Lib.hid (E2.out.trans hx)
  have F3 := Lib.hid (F2.out.ext hx)
  clear k2 hx
  have k3 := F3.out.three
  -- Join
  go_wp2_with fail
  refine Calls.mono (HJ.out w3 E3.out) ?_
  rintro e w4 ⟨b4, l4, c4, js, rfl, hjl, hjr, hjb, hx⟩
  have E4 := Lib.hid (E3.out.trans hx)
  have F4 := Lib.hid (F3.out.ext hx)
  have JB := Lib.hid hjb
  have JR := Lib.hid hjr
  have JL := Lib.hid hjl
  clear k3 hx hjb hjr hjl
  have k4 := F4.out.three
  -- Meet
  go_wp2_with fail
  refine Calls.mono (HM.out w4 E4.out) ?_
  rintro e w5 ⟨b5, l5, c5, ms, rfl, hml, hmr, hmb, hx⟩
  have E5 := Lib.hid (E4.out.trans hx)
  have F5 := Lib.hid (F4.out.ext hx)
  have MB := Lib.hid hmb
  have MR := Lib.hid hmr
  have ML := Lib.hid hml
  have JR5 := Lib.hid (JR.out.ext hx)
  clear k4 hx hmb hmr hml
  have k5 := F5.out.three
  -- Span a
  go_wp2_with fail
  refine Calls.mono (HSA.out w5 E5.out) ?_
  rintro e w6 ⟨g6, T1, rfl, ht, hmk⟩
  have E6 := Lib.hid (E5.out.trans ht.ext)
  have F6 := Lib.hid (F5.out.ext ht.ext)
  have TA := Lib.hid ht
  have TAM := Lib.hid hmk
  have JR6 := Lib.hid (JR5.out.ext ht.ext)
  have MR6 := Lib.hid (MR.out.ext ht.ext)
  clear k5 ht hmk
  have k6 := F6.out.three
  -- Span b
  go_wp2_with fail
  refine Calls.mono (HSB.out w6 E6.out) ?_
  rintro e w7 ⟨g7, T2, rfl, ht, hmk⟩
  have E7 := Lib.hid (E6.out.trans ht.ext)
  have F7 := Lib.hid (F6.out.ext ht.ext)
  have TM := Lib.hid (TAM.out.both hmk)
  have JR7 := Lib.hid (JR6.out.ext ht.ext)
  have MR7 := Lib.hid (MR6.out.ext ht.ext)
  have HBT := Lib.hid (bothRef_any N N N (some ⟨g6, 0, none⟩) (some ⟨g7, 0, none⟩) T1 T2 w7 (by omega) (TA.out.carry ht.ext).reads ht.reads hNp)
  clear k6 ht hmk
  -- Both
  go_wp2_with fail
  refine Calls.mono HBT.out ?_
  rintro e w8 ⟨g8, c8, rfl, ht⟩
  have E8 := Lib.hid (E7.out.trans ht.ext)
  have F8 := Lib.hid (F7.out.ext ht.ext)
  have JR8 := Lib.hid (JR7.out.ext ht.ext)
  have MR8 := Lib.hid (MR7.out.ext ht.ext)
  have HB8 := Lib.hid (HBO.out (some ⟨g8, 0, none⟩) c8 _ _ ms w8 ht.reads TM.out MB.out)
  rw [ML.out] at HB8
  clear ht
  have k8 := F8.out.three
  -- BasisOf
  go_wp2_with fail
  refine Calls.mono HB8.out ?_
  rintro e w9 ⟨b9, c9, rfl, hrd, hx⟩
  have E9 := Lib.hid (E8.out.trans hx)
  have F9 := Lib.hid (F8.out.ext hx)
  have JR9 := Lib.hid (JR8.out.ext hx)
  have hmn := MB.out.len
  rw [ML.out] at hmn
  have LL := Lib.hid (lists_any b5 b9 l5 l5 c5 c9 ms ms w9 ML.out ML.out (by unfold maxLen; omega) (by unfold maxLen; omega) (MR8.out.ext hx) hrd)
  rw [decide_eq_true rfl] at LL
  clear k8 hx hrd
  go_wp2_with fail
  refine Calls.mono LL.out ?_
  rintro e wa ⟨rfl, hd⟩
  have Ea := Lib.hid (E9.out.drawn hd)
  have Fa := Lib.hid (F9.out.drawn hd)
  have JRa := Lib.hid (JR9.out.ext hd.ext)
  have hsa : Ext wa (wa.alloc (.cells #[] 27)) := ext_box _ _ _
  have HL0 : Hid (RowOf 27 (wa.alloc (.cells #[] 27)) wa.heap.size (some ⟨wa.heap.size, 0, none⟩) 0 0 []) := RowOf.lit 27 wa #[] (by decide)
  have HRX := Lib.hid ((Ea.out.trans hsa).reads HVX.out.1)
  have HOX := Lib.hid (HVX.out.2.one)
  have HOY := Lib.hid (HVY.out.2.one)
  clear hd hsa
  go_wp2_with (first
    | (at_builtin; refine wpList_appAll rfl (.tmp 88) (.tmp 89) rfl wa.heap.size (by rfl) HL0.out (by rfl) HVXL.out HRX.out HOX.out (by omega) (by simp) ?_; intro aob capb wb hrb hgb; have HRb : Hid (RowOf 27 wb wa.heap.size aob m capb vsx) := (by have h : RowOf 27 wb wa.heap.size aob (0 + m) capb ([] ++ vsx) := hrb; rwa [Nat.zero_add, List.nil_append] at h); have HXb : Hid (Ext wa wb) := Below.grown ((Ext.refl wa).alloc _) hgb (by simp) (fun b hb => (HL0.out.block b hb).1); have HRY := Lib.hid ((Ea.out.trans HXb.out).reads HVY.out.1); have hszb := HXb.out.size; clear hrb hgb)
    | (at_builtin; refine wpList_appAll rfl (.tmp 91) (.tmp 92) rfl wa.heap.size (by rfl) HRb.out (by rfl) HVYL.out HRY.out HOY.out (by omega) hszb ?_; intro aoc capc wc hrc hgc; have HRc := Lib.hid hrc; have HXc : Hid (Ext wa wc) := Below.grown HXb.out hgc hszb (fun b hb => (HRb.out.block b hb).1); have Fc := Lib.hid (Fa.out.ext HXc.out); have kc := Fc.out.three; clear hrc hgc))
  have Ec := Lib.hid (Ea.out.trans HXc.out)
  have hrl : ReadsL wc aoc (xss ++ yss) := ⟨_, HRc.out.reads, (HVX.out.2.append HVY.out.2).ext Ec.out⟩
  have HSJ1 := Lib.hid (HSJ.out wc aoc capc Ec.out hrl)
  have JRc := Lib.hid (JRa.out.ext HXc.out)
  clear hrl
  refine Calls.mono HSJ1.out ?_
  rintro e wd ⟨gd, T3, rfl, ht, hmk⟩
  have Ed := Lib.hid (Ec.out.trans ht.ext)
  have Fd := Lib.hid (Fc.out.ext ht.ext)
  have JRd := Lib.hid (JRc.out.ext ht.ext)
  have HBd := Lib.hid (HBO.out (some ⟨gd, 0, none⟩) N T3 _ js wd ht.reads hmk JB.out)
  rw [JL.out] at HBd
  clear kc ht hmk
  have kd := Fd.out.three
  go_wp2_with fail
  refine Calls.mono HBd.out ?_
  rintro e we ⟨be, ce, rfl, hrd, hx⟩
  have Ee := Lib.hid (Ed.out.trans hx)
  have hjn := JB.out.len
  rw [JL.out] at hjn
  have LL2 := Lib.hid (lists_any b4 be l4 l4 c4 ce js js we JL.out JL.out (by unfold maxLen; omega) (by unfold maxLen; omega) (JRd.out.ext hx) hrd)
  rw [decide_eq_true rfl] at LL2
  clear kd hx hrd
  go_wp2_with fail
  refine Calls.mono LL2.out ?_
  rintro e wf ⟨rfl, hd⟩
  have Ef := Lib.hid (Ee.out.drawn hd)
  clear hd
  go_wp2
  go_ret
  exact ⟨by simp, Ef.out⟩
end

/-- SpaceMeets at any input. -/
theorem spaceMeets_any (p k : Int) (ao : Option Addr) (len cap : Nat) (low : List Int) {w : World} (hf : IntsArg w ao len cap low) (n : Int) (_ : -9223372036854775808 ≤ n ∧ n ≤ 9223372036854775807)
    (bo : Option Addr) (m mc : Nat) (xss : List (List Int)) (hx : ListsArg w bo m mc xss) (do' : Option Addr) (l lc : Nat) (yss : List (List Int)) (hy : ListsArg w do' l lc yss) (hP : Primes w) :
    Calls Tryd.prog 5 #[.agg #[.int .i64 p, .int .i64 k, .slice ao len cap], .int .i64 n, .slice bo m mc, .slice do' l lc] w fun e w' => e = .returned (.bool true) ∧ Below w.heap.size w w' := by
  obtain rfl := hx.len
  obtain rfl := hy.len
  by_cases h0 : withAll p k low n [(bo, mc, xss), (do', lc, yss)] = 0
  · obtain ⟨P, K, N, rfl, rfl, rfl, hR, hq⟩ := withAll_is h0
    haveI : FldP P K low := ⟨hR.fld⟩
    obtain rfl : len = K := by rw [← hf.len]; exact hR.fld.len
    exact meets_ok (p := P) (k := len) (low := low) N ao bo do' cap mc lc xss yss w hP hR hf.reads hx.reads (hq (bo, mc, xss) (by simp)) hy.reads (hq (do', lc, yss) (by simp))
  · have hj := fun W (h : Ext w W) => spJoin_no p k ao bo do' len cap mc lc low n xss yss W (hP.ext h) hf.len (h.reads hf.reads) hx.big (hx.reads.ext h) hy.big (hy.reads.ext h) h0
    have hm := fun W (h : Ext w W) => spMeet_no p k ao bo do' len cap mc lc low n xss yss W (hP.ext h) hf.len (h.reads hf.reads) hx.big (hx.reads.ext h) hy.big (hy.reads.ext h) h0
    have hroom := fun W (h : Ext w W) => refRoomFault_any p k ao len cap low n W hf.len (h.reads hf.reads)
    by_cases hr : roomFault p k low n = 0
    · obtain ⟨P, K, N, rfl, rfl, rfl, hR⟩ := roomFault_zero hr
      have hra := fun W (h : Ext w W) => refRowsFault_any P K N ao bo len cap xss.length mc low xss W hR.fld hR.n6 rfl hx.big (hx.reads.ext h)
      have hrb := fun W (h : Ext w W) => refRowsFault_any P K N ao do' len cap yss.length lc low yss W hR.fld hR.n6 rfl hy.big (hy.reads.ext h)
      have he : withAll P K low N [(bo, mc, xss), (do', lc, yss)] = if rowsFault (P ^ K) N xss ≠ 0 then rowsFault (P ^ K) N xss else rowsFault (P ^ K) N yss := by
        unfold withAll
        rw [if_neg (fun h => h hR.fault), hR.fld.fault.2]
        show allFault (P ^ K) N [(bo, mc, xss), (do', lc, yss)] = _
        unfold allFault allFault allFault
        by_cases h2 : rowsFault (P ^ K) N xss = 0
        · by_cases h3 : rowsFault (P ^ K) N yss = 0
          · simp [h2, h3]
          · simp [h2, h3]
        · simp [h2]
      rw [hr] at hroom
      by_cases h2 : rowsFault (P ^ K) N xss = 0
      · rw [if_neg (fun h => h h2)] at he
        rw [he] at hj hm h0
        rw [h2] at hra
        exact meets_no P K ao bo do' len cap xss.length mc yss.length lc N w 0 0 _ h0 (.inr (.inr ⟨rfl, rfl⟩)) hroom (fun _ => hra) (fun _ _ => hrb) hj hm
      · rw [if_pos h2] at he
        rw [he] at hj hm h0
        exact meets_no P K ao bo do' len cap xss.length mc yss.length lc N w 0 _ _ h0 (.inr (.inl ⟨rfl, rfl⟩)) hroom (fun _ => hra) (fun _ h => absurd h h2) hj hm
    · have he : withAll p k low n [(bo, mc, xss), (do', lc, yss)] = roomFault p k low n := by unfold withAll; rw [if_pos hr]
      rw [he] at hj hm h0
      exact meets_no p k ao bo do' len cap xss.length mc yss.length lc n w _ 0 _ h0 (.inl rfl) hroom (fun h => absurd h hr) (fun h => absurd h hr) hj hm

end Go.Proofs.YthkafhmciapipaaDoor

/- What the row's condition gives the walks: the variable of primes. No other conditions. -/
namespace Go.Proofs.YthkafhmciapipaaDoor
open Go.RowKit

theorem gPrimes : Tryd.prog.globalNamed "parterre/field.primes" = some 0 := by kernel_rfl
theorem tPrimes : (Tryd.prog.globals[0]?).map (·.type) = some 89 := by kernel_rfl

/-- The list of the rows. -/
def laidL : List (String × DataW Unit) := [("parterre/field.primes", Rows.laid_parterre_field_primes)]
theorem laidL_tab : laidL = [("parterre/field.primes", Lib.tabData .i64 primesL)] := rfl

theorem primes_of_laid {W : World} (h : laidMetH Tryd.prog laidL W) : Primes W := by
  rw [MakeChecks.laidMetH_plain _ _ _ (by kernel_rfl), laidL_tab] at h
  have ht := Lib.tabIs_of_head gPrimes tPrimes Tryd.underlying89 Tryd.underlying3 (by kernel_rfl) (by kernel_rfl) h
  have hc : ∀ i, i < 18 → W.cell? ⟨0, i, none⟩ = some (.int .i64 (nth primesL i)) := fun i hi => by
    have := ht.cell gPrimes i (by simpa [primesL] using hi)
    exact this
  refine ⟨?_, hc⟩
  have h0 := hc 0 (by decide)
  unfold World.cell? at h0
  cases hb : W.heap[0]? with
  | none => simp [hb] at h0
  | some o => exact (Array.getElem?_eq_some_iff.1 hb).1

/-- The door's own heap meets the condition. -/
theorem door_met (os : Os) (args : Array Value) : laidMetH Tryd.prog laidL ((World.doorLaid Tryd.prog 400 os).forCall (fun _ _ => 0) ⟨#[], args, []⟩).memory :=
  laidMetH_of_parts3 (fuel := 8) (laidMet_of_run' 8 (by kernel_rfl) (by kernel_rfl)) (by kernel_rfl) (by kernel_rfl)

end Go.Proofs.YthkafhmciapipaaDoor
