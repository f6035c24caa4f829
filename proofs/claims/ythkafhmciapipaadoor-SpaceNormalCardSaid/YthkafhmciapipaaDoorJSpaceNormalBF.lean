/- What parterreref1.Lists answers: are two lists of lists the same? Conditions: both can be read. -/
import Derived.Test.YthkafhmciapipaaDoorJSpaceNormalBE
import Derived.Test.YthkafhmciapipaaDoorJSpaceNormalAA
import Derived.Test.YthkafhmciapipaaDoorJSpaceNormalAD
import Derived.Test.YthkafhmciapipaaDoorRows
import Derived.ProofKit
import Derived.LaidMore
import Derived.OpenShut
import Derived.Lib.LaidTab
import Derived.LaidHandle
import Derived.MakeChecks
namespace Go.Proofs.YthkafhmciapipaaDoor
open Go.RowKit

set_option maxHeartbeats 400000 in
theorem lists_any (ao bo : Option Addr) (n m cap cap' : Nat) (xss yss : List (List Int)) (w : World) (hx : xss.length = n) (hy : yss.length = m) (hbig : n ≤ maxLen) (hbig' : m ≤ maxLen) (ra : ReadsL w ao xss) (rb : ReadsL w bo yss) :
    Calls Tryd.prog 17 #[.slice ao n cap, .slice bo m cap'] w fun e w' => e = .returned (.bool (decide (xss = yss))) ∧ Drawn w w' := by
  unfold maxLen at hbig hbig'
  have HX := Lib.hid hx
  have HY := Lib.hid hy
  have RA := Lib.hid ra
  have RB := Lib.hid rb
  clear hx ra rb hy
  by_cases hnm : n = m
  · subst hnm
    go_enter Tryd.func17, Tryd.ntmps17
    go_wp2
    go_loopw [5] (fun i wr => ∃ k : Nat, k ≤ n ∧ i = .int .i64 k ∧ Drawn w wr ∧ ∀ j, j < k → row xss j = row yss j) (fun i _ => n - (intOf i).toNat)
    case atStart => exact ⟨0, by omega, rfl, Drawn.refl _, fun j hj => by omega⟩
    case round =>
      obtain ⟨k, hk, rfl, hd, hall⟩ := hrel
      have HA := Lib.hid hall
      clear hall
      by_cases hlt : k < n
      · obtain ⟨b, off, rfl, hb, hc⟩ := RA.out.row (by rw [HX.out]; omega)
        obtain ⟨b', off', rfl, hb', hc'⟩ := RB.out.row (by rw [HY.out]; omega)
        obtain ⟨a1, q1, c1, r1, l1⟩ := hc k (by rw [HX.out]; omega)
        obtain ⟨a2, q2, c2, r2, l2⟩ := hc' k (by rw [HY.out]; omega)
        rw [← hd.cell] at c1 c2
        have HD := Lib.hid hd
        have HI : Hid (∀ w', Drawn wr w' → _) := fun w' hd' => ints_any a1 a2 _ _ q1 q2 (row xss k) (row yss k) w' rfl rfl l1 l2 ((hd.trans hd').ext.reads r1) ((hd.trans hd').ext.reads r2)
        unfold maxLen at l1 l2
        clear hc hc' hd r1 r2
        obtain ⟨p, hp⟩ : ∃ p, (row xss k).length = p := ⟨_, rfl⟩
        obtain ⟨q, hq⟩ : ∃ q, (row yss k).length = q := ⟨_, rfl⟩
        rw [hp] at c1 HI
        rw [hq] at c2 HI
        clear hp hq l1 l2
        by_cases he : row xss k = row yss k
        · have HE := Lib.hid he
          rw [decide_eq_true he] at HI
          clear he
          go_wp2_with fail
          go_quiet ((go_at_call 36; exact Calls.quiet_of (HI.out _ (Drawn.drewN _ _))))
          go_wp2
          go_roundw
          case rel => exact ⟨k + 1, by omega, by go_num, HD.out.trans (Drawn.drewN _ _), fun j hj => by
            rcases Nat.lt_succ_iff_lt_or_eq.1 hj with h | rfl
            · exact HA.out j h
            · exact HE.out⟩
          case measure => simp [intOf]; omega
        · have HE : Hid (xss ≠ yss) := fun e => he (by rw [e])
          rw [decide_eq_false he] at HI
          clear he
          go_wp2_with fail
          go_quiet ((go_at_call 36; exact Calls.quiet_of (HI.out _ (Drawn.drewN _ _))))
          go_wp2
          go_ret
          exact ⟨by rw [decide_eq_false HE.out]; rfl, HD.out.trans (Drawn.drewN _ _)⟩
      · have HE : Hid (xss = yss) := row_ext xss yss (by rw [HX.out, HY.out]) fun j hj => HA.out j (by rw [HX.out] at hj; omega)
        have HD := Lib.hid hd
        clear hd
        go_wp2
        go_ret
        exact ⟨by rw [decide_eq_true HE.out]; rfl, HD.out⟩
  · have hb2 : ((n : Int) != (m : Int)) = true := by rw [bne_iff_ne]; omega
    have HE : Hid (xss ≠ yss) := fun e => hnm (by rw [← HX.out, ← HY.out, e])
    clear hnm
    go_enter Tryd.func17, Tryd.ntmps17
    go_wp2
    go_ret
    exact ⟨by rw [decide_eq_false HE.out]; rfl, Drawn.refl _⟩

end Go.Proofs.YthkafhmciapipaaDoor

/- What SpaceNormal returns. Condition: primes. -/
namespace Go.Proofs.YthkafhmciapipaaDoor
open Go.RowKit
set_option linter.unusedVariables false
set_option linter.unusedSectionVars false

set_option maxHeartbeats 2000000 in
theorem snorm_no (p k : Int) (ao bo do' : Option Addr) (len cap m mc l lc : Nat) (n : Int) (w : World) (hP : Primes w)
    (ha : ∀ W, Ext w W → SaysC 12 #[.agg #[.int .i64 p, .int .i64 k, .slice ao len cap], .int .i64 n, .slice bo m mc] W (fun c => c ≠ 0)) :
    Calls Tryd.prog 7 #[.agg #[.int .i64 p, .int .i64 k, .slice ao len cap], .int .i64 n, .slice bo m mc, .slice do' l lc] w fun e w' => e = .returned (.bool true) ∧ Ext w w' := by
  have E0 := Lib.hid (ext_box w #[.int .i64 p, .int .i64 k, .slice ao len cap] 29)
  have F0 := Lib.hid (Blk.new w #[.int .i64 p, .int .i64 k, .slice ao len cap] 29)
  have HF := Lib.hid (spaceFact_ok _ (hP.ext E0.out))
  have HA := Lib.hid ha
  clear hP ha
  go_enter Tryd.func7, Tryd.ntmps7
  go_wp2_with fail
  refine Calls.mono HF.out ?_
  rintro e w1 ⟨rfl, hx1⟩
  have E1 := Lib.hid (E0.out.trans hx1)
  have k1 := (F0.out.ext hx1).three
  clear hx1
  go_wp2_with fail
  refine Calls.mono (HA.out w1 E1.out) ?_
  rintro e w2 ⟨b2, l2, c2, c, rfl, hc, hx2⟩
  have E2 := Lib.hid (E1.out.trans hx2)
  have b1 : (c != 0) = true := by rw [bne_iff_ne]; exact hc
  clear k1 hx2 hc
  go_wp2
  go_ret
  exact ⟨rfl, E2.out⟩

section
variable {p k : Nat} {low : List Int} [hI : FldP p k low]

theorem span_vecs {n : Nat} {xss : List (List Int)} {S : (Nat → El p k low) → Prop} (h : BasisI n xss S) (v : Nat → El p k low) : Nul n (Span (vecs xss)) v ↔ Nul n S v := nul_congr h.span v

set_option maxHeartbeats 8000000 in
set_option maxRecDepth 100000 in
theorem snorm_ok (n : Nat) (ao bo do' : Option Addr) (cap mc l lc : Nat) (xss : List (List Int)) (w : World) (hP : Primes w) (hR : IsRoom p k low n) (hr : Reads w ao (ints low)) (hx : ReadsL w bo xss) (hq : rowsFault (p ^ k) n xss = 0)
    (hb : (∀ W, Ext w W → SaysC 13 #[.agg #[.int .i64 p, .int .i64 k, .slice ao k cap], .int .i64 n, .slice do' l lc] W (fun c => c ≠ 0)) ∨ ∃ yss, yss.length = l ∧ ReadsL w do' yss ∧ rowsFault (p ^ k) n yss = 0) :
    Calls Tryd.prog 7 #[.agg #[.int .i64 p, .int .i64 k, .slice ao k cap], .int .i64 n, .slice bo xss.length mc, .slice do' l lc] w fun e w' => e = .returned (.bool true) ∧ Ext w w' := by
  have E0 := Lib.hid (ext_box w #[.int .i64 p, .int .i64 k, .slice ao k cap] 29)
  have F0 := Lib.hid (Blk.new w #[.int .i64 p, .int .i64 k, .slice ao k cap] 29)
  have HF := Lib.hid (spaceFact_ok _ (hP.ext E0.out))
  have hn6 := hR.n6
  have HA : Hid (∀ W, Ext w W → _) := fun W (h : Ext w W) => spBasis_ok (p := p) (k := k) (low := low) n ao bo cap mc xss W (hP.ext h) hR (h.reads hr) (hx.ext h) hq
  have HN : Hid (∀ W bo mc xss, Ext w W → ReadsL W bo xss → rowsFault (p ^ k) n xss = 0 → _) := fun W bo mc xss (h : Ext w W) hx hq => spNormal_ok (p := p) (k := k) (low := low) n ao bo cap mc xss W (hP.ext h) hR (h.reads hr) hx hq
  have HJ : Hid (∀ W bo do' mc lc xss yss, Ext w W → ReadsL W bo xss → rowsFault (p ^ k) n xss = 0 → ReadsL W do' yss → rowsFault (p ^ k) n yss = 0 → _) := fun W bo do' mc lc xss yss (h : Ext w W) hx hq hy hq2 => spJoin_ok (p := p) (k := k) (low := low) n ao bo do' cap mc lc xss yss W (hP.ext h) hR (h.reads hr) hx hq hy hq2
  have HM : Hid (∀ W bo do' mc lc xss yss, Ext w W → ReadsL W bo xss → rowsFault (p ^ k) n xss = 0 → ReadsL W do' yss → rowsFault (p ^ k) n yss = 0 → _) := fun W bo do' mc lc xss yss (h : Ext w W) hx hq hy hq2 => spMeet_ok (p := p) (k := k) (low := low) n ao bo do' cap mc lc xss yss W (hP.ext h) hR (h.reads hr) hx hq hy hq2
  have HXX := Lib.hid hx
  have HQ := Lib.hid hq
  have HZ := Lib.hid (vecs_zero (p := p) (k := k) (low := low) hq)
  have HBB := Lib.hid hb
  obtain ⟨m, hm⟩ : ∃ m, xss.length = m := ⟨_, rfl⟩
  have HML := Lib.hid hm
  rw [hm] at HA ⊢
  clear hP hx hq hm hr hR hb
  go_enter Tryd.func7, Tryd.ntmps7
  go_wp2_with fail
  refine Calls.mono HF.out ?_
  rintro e w1 ⟨rfl, hx1⟩
  have E1 := Lib.hid (E0.out.trans hx1)
  have F1 := Lib.hid (F0.out.ext hx1)
  have k1 := F1.out.three
  clear hx1
  -- x
  go_wp2_with fail
  refine Calls.mono (HA.out w1 E1.out) ?_
  rintro e w2 ⟨b2, l2, c2, xs, rfl, hxl, hxr, hxb, hx2⟩
  have E2 := Lib.hid (E1.out.trans hx2)
  have F2 := Lib.hid (F1.out.ext hx2)
  have XB := Lib.hid hxb
  have XR := Lib.hid hxr
  have XL := Lib.hid hxl
  have CA := HN.out w2 bo mc xss E2.out (HXX.out.ext E2.out) HQ.out
  rw [HML.out] at CA
  have CA := Lib.hid CA
  clear k1 hx2 hxb hxr hxl
  have k2 := F2.out.three
  -- u
  go_wp2_with fail
  refine Calls.mono CA.out ?_
  rintro e w3 ⟨b3, l3, c3, us, rfl, hul, hur, hub, hx3⟩
  have E3 := Lib.hid (E2.out.trans hx3)
  have F3 := Lib.hid (F2.out.ext hx3)
  have UB := Lib.hid hub
  have UR := Lib.hid hur
  have UL := Lib.hid hul
  have XR3 := Lib.hid (XR.out.ext hx3)
  have UF := Lib.hid (hub.fault hn6)
  have CW := HN.out w3 b3 c3 us E3.out hur UF.out
  rw [hul] at CW
  have CW := Lib.hid CW
  clear k2 hx3 hub hur hul
  have k3 := F3.out.three
  -- w
  go_wp2_with fail
  refine Calls.mono CW.out ?_
  rintro e w4 ⟨b4, l4, c4, ws, rfl, hwl, hwr, hwb, hx4⟩
  have E4 := Lib.hid (E3.out.trans hx4)
  have F4 := Lib.hid (F3.out.ext hx4)
  have XR4 := Lib.hid (XR3.out.ext hx4)
  have UR4 := Lib.hid (UR.out.ext hx4)
  have hws : ws = xs := hwb.unique XB.out fun v => (span_vecs UB.out v).trans (nul_nul' HZ.out v)
  have hxn := XB.out.len
  have hwn := hwb.len
  have LL := Lib.hid (lists_any b4 b2 l4 l2 c4 c2 ws xs w4 hwl XL.out (by unfold maxLen; omega) (by have := XL.out; unfold maxLen; omega) hwr XR4.out)
  rw [decide_eq_true hws] at LL
  have hrk := rank_ints XB.out UB.out
  rw [UL.out, XL.out] at hrk
  have hun := UB.out.len
  rw [UL.out] at hun
  rw [XL.out] at hxn
  clear k3 hx4 hwl hwr hwb hws hwn
  have k4 := F4.out.three
  go_wp2_with fail
  refine Calls.mono LL.out ?_
  rintro e w5 ⟨rfl, hd⟩
  have E5 := Lib.hid (E4.out.drawn hd)
  have F5 := Lib.hid (F4.out.drawn hd)
  have UR5 := Lib.hid (UR4.out.ext hd.ext)
  clear k4 hd
  have k5 := F5.out.three
  have e9 : (l3 : Int) + l2 = n := by omega
  clear hrk
  rcases HBB.out with hbn | ⟨yss, rfl, hy, hq2⟩
  · have HB1 := Lib.hid (hbn w5 E5.out)
    clear hbn
    go_wp2_with fail
    refine Calls.mono HB1.out ?_
    rintro e w6 ⟨b6, l6, c6, c, rfl, hc, hx6⟩
    have E6 := Lib.hid (E5.out.trans hx6)
    have b1 : (c != 0) = true := by rw [bne_iff_ne]; exact hc
    clear k5 hx6 hc
    go_wp2
    go_ret
    exact ⟨rfl, E6.out⟩
  · have YR := Lib.hid hy
    have YF := Lib.hid hq2
    have HZ2 := Lib.hid (vecs_zero (p := p) (k := k) (low := low) hq2)
    obtain ⟨l, hl⟩ : ∃ l, yss.length = l := ⟨_, rfl⟩
    have CV := HN.out w5 do' lc yss E5.out (hy.ext E5.out) hq2
    rw [hl] at CV ⊢
    have CV := Lib.hid CV
    have YL := Lib.hid hl
    clear hy hq2 hl
    -- v
    go_wp2_with fail
    refine Calls.mono CV.out ?_
    rintro e w6 ⟨b6, l6, c6, vs, rfl, hvl, hvr, hvb, hx6⟩
    have E6 := Lib.hid (E5.out.trans hx6)
    have F6 := Lib.hid (F5.out.ext hx6)
    have UR6 := Lib.hid (UR5.out.ext hx6)
    have VB := Lib.hid hvb
    have VR := Lib.hid hvr
    have VL := Lib.hid hvl
    have VF := Lib.hid (hvb.fault hn6)
    have CJ := HJ.out w6 bo do' mc lc xss yss E6.out (HXX.out.ext E6.out) HQ.out (YR.out.ext E6.out) YF.out
    rw [HML.out, YL.out] at CJ
    have CJ := Lib.hid CJ
    clear k5 hx6 hvb hvr hvl
    have k6 := F6.out.three
    -- j
    go_wp2_with fail
    refine Calls.mono CJ.out ?_
    rintro e w7 ⟨b7, l7, c7, js, rfl, hjl, hjr, hjb, hx7⟩
    have E7 := Lib.hid (E6.out.trans hx7)
    have F7 := Lib.hid (F6.out.ext hx7)
    have UR7 := Lib.hid (UR6.out.ext hx7)
    have VR7 := Lib.hid (VR.out.ext hx7)
    have JB := Lib.hid hjb
    have CL := HN.out w7 b7 c7 js E7.out hjr (hjb.fault hn6)
    rw [hjl] at CL
    have CL := Lib.hid CL
    clear k6 hx7 hjb hjr hjl
    have k7 := F7.out.three
    -- l
    go_wp2_with fail
    refine Calls.mono CL.out ?_
    rintro e w8 ⟨b8, l8, c8, ls, rfl, hll, hlr, hlb, hx8⟩
    have E8 := Lib.hid (E7.out.trans hx8)
    have F8 := Lib.hid (F7.out.ext hx8)
    have LB := Lib.hid hlb
    have LR := Lib.hid hlr
    have LEN := Lib.hid hll
    have CM := HM.out w8 b3 b6 c3 c6 us vs E8.out (UR7.out.ext hx8) UF.out (VR7.out.ext hx8) VF.out
    rw [UL.out, VL.out] at CM
    have CM := Lib.hid CM
    clear k7 hx8 hlb hlr hll
    have k8 := F8.out.three
    -- m
    go_wp2_with fail
    refine Calls.mono CM.out ?_
    rintro e w9 ⟨b9, l9, c9, ms, rfl, hml, hmr, hmb, hx9⟩
    have E9 := Lib.hid (E8.out.trans hx9)
    have hls : ls = ms := LB.out.unique hmb fun v => by
      rw [span_vecs JB.out v, nul_append, UB.out.span v, VB.out.span v]
    have hln := LB.out.len
    have hmn := hmb.len
    have LL2 := Lib.hid (lists_any b8 b9 l8 l9 c8 c9 ls ms w9 LEN.out hml (by have := LEN.out; unfold maxLen; omega) (by unfold maxLen; omega) (LR.out.ext hx9) hmr)
    rw [decide_eq_true hls] at LL2
    clear k8 hx9 hml hmr hmb hls hln hmn
    go_wp2_with fail
    refine Calls.mono LL2.out ?_
    rintro e wa ⟨rfl, hd⟩
    have Ea := Lib.hid (E9.out.drawn hd)
    clear hd
    go_wp2
    go_ret
    exact ⟨by simp, Ea.out⟩
end

/-- SpaceNormal at any input. -/
theorem spaceNormal_any (p k : Int) (ao : Option Addr) (len cap : Nat) (low : List Int) {w : World} (hf : IntsArg w ao len cap low) (n : Int) (_ : -9223372036854775808 ≤ n ∧ n ≤ 9223372036854775807)
    (bo : Option Addr) (m mc : Nat) (xss : List (List Int)) (hx : ListsArg w bo m mc xss) (do' : Option Addr) (l lc : Nat) (yss : List (List Int)) (hy : ListsArg w do' l lc yss) (hP : Primes w) :
    Calls Tryd.prog 7 #[.agg #[.int .i64 p, .int .i64 k, .slice ao len cap], .int .i64 n, .slice bo m mc, .slice do' l lc] w fun e w' => e = .returned (.bool true) ∧ Below w.heap.size w w' := by
  obtain rfl := hx.len
  obtain rfl := hy.len
  by_cases h0 : withAll p k low n [(bo, mc, xss)] = 0
  · obtain ⟨P, K, N, rfl, rfl, rfl, hR, hq⟩ := withAll_is h0
    haveI : FldP P K low := ⟨hR.fld⟩
    obtain rfl : len = K := by rw [← hf.len]; exact hR.fld.len
    have hq1 : rowsFault (P ^ len) N xss = 0 := hq (bo, mc, xss) (by simp)
    refine snorm_ok (p := P) (k := len) (low := low) N ao bo do' cap mc yss.length lc xss w hP hR hf.reads hx.reads hq1 ?_
    by_cases h1 : withAll P len low N [(do', lc, yss)] = 0
    · right
      refine ⟨yss, rfl, hy.reads, ?_⟩
      by_cases h2 : rowsFault (P ^ len) N yss = 0
      · exact h2
      · exfalso
        unfold withAll at h1
        rw [if_neg (fun h => h hR.fault), hR.fld.fault.2] at h1
        have h3 : allFault (P ^ len) N [(do', lc, yss)] = 0 := h1
        unfold allFault at h3
        rw [if_pos h2] at h3
        exact h2 h3
    · left
      exact fun W h => (spNormal_no P len ao do' len cap lc low N yss W (hP.ext h) hf.len (h.reads hf.reads) hy.big (hy.reads.ext h) h1).c h1
  · exact snorm_no p k ao bo do' len cap xss.length mc yss.length lc n w hP
      (fun W h => (spBasis_no p k ao bo len cap mc low n xss W (hP.ext h) hf.len (h.reads hf.reads) hx.big (hx.reads.ext h) h0).c h0)

end Go.Proofs.YthkafhmciapipaaDoor

/- What the row's condition gives the walks: the variable of primes. No other conditions. -/
namespace Go.Proofs.YthkafhmciapipaaDoor
open Go.RowKit

theorem gPrimes : Tryd.prog.globalNamed "parterre/field.primes" = some 0 := by kernel_rfl
theorem tPrimes : (Tryd.prog.globals[0]?).map (·.type) = some 89 := by kernel_rfl

/-- The list of the rows. -/
def laidL : List (String × DataW Unit) := [("parterre/field.primes", Rows.laid_parterre_field_primes)]
theorem laidL_tab : laidL = [("parterre/field.primes", Lib.tabData .i64 primesL)] := rfl

theorem primes_of_laid {W : World} (h : laidMetH Tryd.prog laidL W) : Primes W := by
  rw [MakeChecks.laidMetH_plain _ _ _ (by kernel_rfl), laidL_tab] at h
  have ht := Lib.tabIs_of_head gPrimes tPrimes Tryd.underlying89 Tryd.underlying3 (by kernel_rfl) (by kernel_rfl) h
  have hc : ∀ i, i < 18 → W.cell? ⟨0, i, none⟩ = some (.int .i64 (nth primesL i)) := fun i hi => by
    have := ht.cell gPrimes i (by simpa [primesL] using hi)
    exact this
  refine ⟨?_, hc⟩
  have h0 := hc 0 (by decide)
  unfold World.cell? at h0
  cases hb : W.heap[0]? with
  | none => simp [hb] at h0
  | some o => exact (Array.getElem?_eq_some_iff.1 hb).1

/-- The door's own heap meets the condition. -/
theorem door_met (os : Os) (args : Array Value) : laidMetH Tryd.prog laidL ((World.doorLaid Tryd.prog 400 os).forCall (fun _ _ => 0) ⟨#[], args, []⟩).memory :=
  laidMetH_of_parts3 (fuel := 8) (laidMet_of_run' 8 (by kernel_rfl) (by kernel_rfl)) (by kernel_rfl) (by kernel_rfl)

end Go.Proofs.YthkafhmciapipaaDoor
