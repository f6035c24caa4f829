/- What SpaceGrassmann returns. Condition: primes. -/
import Derived.Test.YthkafhmciapipaaDoorJSpaceGrassmannBD
import Derived.Test.YthkafhmciapipaaDoorJSpaceGrassmannBE
import Derived.Test.YthkafhmciapipaaDoorJSpaceGrassmannAD
import Derived.Test.YthkafhmciapipaaDoorRows
import Derived.ProofKit
import Derived.LaidMore
import Derived.OpenShut
import Derived.Lib.LaidTab
import Derived.LaidHandle
import Derived.MakeChecks
namespace Go.Proofs.YthkafhmciapipaaDoor
open Go.RowKit
set_option linter.unusedVariables false
set_option linter.unusedSectionVars false

/-- An answer with a list and a number. -/
def SaysC (f : FuncId) (args : Array Value) (w : World) (C : Int → Prop) : Prop := Calls Tryd.prog f args w fun e w' => ∃ (bo : Option Addr) (bl bc : Nat) (c : Int), e = .returned (.tuple #[.slice bo bl bc, .int .i64 c]) ∧ C c ∧ Ext w w'
theorem SaysNo.c {f : FuncId} {args : Array Value} {w : World} {c : Int} (h : SaysNo f args w c) (hc : c ≠ 0) : SaysC f args w (fun c => c ≠ 0) := h.mono fun e w' ⟨h1, h2⟩ => ⟨none, 0, 0, c, h1, hc, h2⟩
theorem SaysBasis.c {p k : Nat} {low : List Int} [FldP p k low] {f : FuncId} {args : Array Value} {w : World} {n : Nat} {S : (Nat → El p k low) → Prop} (h : SaysBasis f args w n S) : SaysC f args w (fun c => c = 0) := h.mono fun e w' ⟨bo, bl, bc, xss, h1, _, _, _, h2⟩ => ⟨bo, bl, bc, 0, h1, rfl, h2⟩
theorem SaysC.mono' {f : FuncId} {args : Array Value} {w : World} {C D : Int → Prop} (h : SaysC f args w C) (hd : ∀ c, C c → D c) : SaysC f args w D := h.mono fun e w' ⟨bo, bl, bc, c, h1, h3, h2⟩ => ⟨bo, bl, bc, c, h1, hd c h3, h2⟩
/-- Either way. -/
theorem spBasis_any (p k : Int) (ao bo : Option Addr) (len cap mc : Nat) (low : List Int) (n : Int) (xss : List (List Int)) (w : World) (hP : Primes w) (hl : low.length = len) (hr : Reads w ao (ints low)) (hbig : xss.length ≤ maxLen) (hx : ReadsL w bo xss) :
    SaysC 12 #[.agg #[.int .i64 p, .int .i64 k, .slice ao len cap], .int .i64 n, .slice bo xss.length mc] w (fun _ => True) := by
  by_cases h0 : withAll p k low n [(bo, mc, xss)] = 0
  · obtain ⟨P, K, N, rfl, rfl, rfl, hR, hq⟩ := withAll_is h0
    haveI : FldP P K low := ⟨hR.fld⟩
    obtain rfl : len = K := by rw [← hl]; exact hR.fld.len
    exact (spBasis_ok (p := P) (k := len) (low := low) N ao bo cap mc xss w hP hR hr hx (hq (bo, mc, xss) (by simp))).c.mono' fun _ _ => trivial
  · exact ((spBasis_no p k ao bo len cap mc low n xss w hP hl hr hbig hx h0).c h0).mono' fun _ _ => trivial
theorem spNormal_any (p k : Int) (ao bo : Option Addr) (len cap mc : Nat) (low : List Int) (n : Int) (xss : List (List Int)) (w : World) (hP : Primes w) (hl : low.length = len) (hr : Reads w ao (ints low)) (hbig : xss.length ≤ maxLen) (hx : ReadsL w bo xss) :
    SaysC 13 #[.agg #[.int .i64 p, .int .i64 k, .slice ao len cap], .int .i64 n, .slice bo xss.length mc] w (fun _ => True) := by
  by_cases h0 : withAll p k low n [(bo, mc, xss)] = 0
  · obtain ⟨P, K, N, rfl, rfl, rfl, hR, hq⟩ := withAll_is h0
    haveI : FldP P K low := ⟨hR.fld⟩
    obtain rfl : len = K := by rw [← hl]; exact hR.fld.len
    exact (spNormal_ok (p := P) (k := len) (low := low) N ao bo cap mc xss w hP hR hr hx (hq (bo, mc, xss) (by simp))).c.mono' fun _ _ => trivial
  · exact ((spNormal_no p k ao bo len cap mc low n xss w hP hl hr hbig hx h0).c h0).mono' fun _ _ => trivial

set_option maxHeartbeats 2000000 in
theorem grass_no (p k : Int) (ao bo do' : Option Addr) (len cap m mc l lc : Nat) (n : Int) (w : World) (hP : Primes w) (C D : Int → Prop) (hcd : (∀ c, C c → c ≠ 0) ∨ ((∀ c, C c → c = 0) ∧ ∀ c, D c → c ≠ 0))
    (ha : ∀ W, Ext w W → SaysC 12 #[.agg #[.int .i64 p, .int .i64 k, .slice ao len cap], .int .i64 n, .slice bo m mc] W C)
    (hb : ∀ W, Ext w W → SaysC 12 #[.agg #[.int .i64 p, .int .i64 k, .slice ao len cap], .int .i64 n, .slice do' l lc] W D) :
    Calls Tryd.prog 6 #[.agg #[.int .i64 p, .int .i64 k, .slice ao len cap], .int .i64 n, .slice bo m mc, .slice do' l lc] w fun e w' => e = .returned (.bool true) ∧ Ext w w' := by
  have E0 := Lib.hid (ext_box w #[.int .i64 p, .int .i64 k, .slice ao len cap] 29)
  have F0 := Lib.hid (Blk.new w #[.int .i64 p, .int .i64 k, .slice ao len cap] 29)
  have HF := Lib.hid (spaceFact_ok _ (hP.ext E0.out))
  have HA := Lib.hid ha
  have HB := Lib.hid hb
  have HCD := Lib.hid hcd
  clear hP ha hb hcd
  go_enter Tryd.func6, Tryd.ntmps6
  go_wp2_with fail
  refine Calls.mono HF.out ?_
  rintro e w1 ⟨rfl, hx1⟩
  have E1 := Lib.hid (E0.out.trans hx1)
  have F1 := Lib.hid (F0.out.ext hx1)
  have k1 := F1.out.three
  clear hx1
  go_wp2_with fail
  refine Calls.mono (HA.out w1 E1.out) ?_
  rintro e w2 ⟨b2, l2, c2, c, rfl, hc, hx2⟩
  have E2 := Lib.hid (E1.out.trans hx2)
  have F2 := Lib.hid (F1.out.ext hx2)
  have HC := Lib.hid hc
  clear k1 hx2 hc
  have k2 := F2.out.three
  go_wp2_with fail
  refine Calls.mono (HB.out w2 E2.out) ?_
  rintro e w3 ⟨b3, l3, c3, d, rfl, hd, hx3⟩
  have E3 := Lib.hid (E2.out.trans hx3)
  have HD := Lib.hid hd
  clear k2 hx3 hd
  rcases HCD.out with h | ⟨h, h'⟩
  · have b1 : (c != 0) = true := by rw [bne_iff_ne]; exact h c HC.out
    clear h
    go_wp2
    go_ret
    exact ⟨rfl, E3.out⟩
  · obtain rfl := h c HC.out
    have b1 : (d != 0) = true := by rw [bne_iff_ne]; exact h' d HD.out
    clear h h'
    go_wp2
    go_ret
    exact ⟨rfl, E3.out⟩

section
variable {p k : Nat} {low : List Int} [hI : FldP p k low]

set_option maxHeartbeats 4000000 in
theorem grass_ok (n : Nat) (ao bo do' : Option Addr) (cap mc lc : Nat) (xss yss : List (List Int)) (w : World) (hP : Primes w) (hR : IsRoom p k low n) (hr : Reads w ao (ints low)) (hx : ReadsL w bo xss) (hq : rowsFault (p ^ k) n xss = 0) (hy : ReadsL w do' yss) (hq2 : rowsFault (p ^ k) n yss = 0) :
    Calls Tryd.prog 6 #[.agg #[.int .i64 p, .int .i64 k, .slice ao k cap], .int .i64 n, .slice bo xss.length mc, .slice do' yss.length lc] w fun e w' => e = .returned (.bool true) ∧ Ext w w' := by
  have E0 := Lib.hid (ext_box w #[.int .i64 p, .int .i64 k, .slice ao k cap] 29)
  have F0 := Lib.hid (Blk.new w #[.int .i64 p, .int .i64 k, .slice ao k cap] 29)
  have HF := Lib.hid (spaceFact_ok _ (hP.ext E0.out))
  have HA : Hid (∀ W, Ext w W → _) := fun W (h : Ext w W) => spBasis_ok (p := p) (k := k) (low := low) n ao bo cap mc xss W (hP.ext h) hR (h.reads hr) (hx.ext h) hq
  have HB : Hid (∀ W, Ext w W → _) := fun W (h : Ext w W) => spBasis_ok (p := p) (k := k) (low := low) n ao do' cap lc yss W (hP.ext h) hR (h.reads hr) (hy.ext h) hq2
  have HJ : Hid (∀ W, Ext w W → _) := fun W (h : Ext w W) => spJoin_ok (p := p) (k := k) (low := low) n ao bo do' cap mc lc xss yss W (hP.ext h) hR (h.reads hr) (hx.ext h) hq (hy.ext h) hq2
  have HM : Hid (∀ W, Ext w W → _) := fun W (h : Ext w W) => spMeet_ok (p := p) (k := k) (low := low) n ao bo do' cap mc lc xss yss W (hP.ext h) hR (h.reads hr) (hx.ext h) hq (hy.ext h) hq2
  have hn6 := hR.n6
  obtain ⟨m, hm⟩ : ∃ m, xss.length = m := ⟨_, rfl⟩
  obtain ⟨l, hl⟩ : ∃ l, yss.length = l := ⟨_, rfl⟩
  rw [hm] at HA HJ HM ⊢
  rw [hl] at HB HJ HM ⊢
  obtain ⟨A, hA⟩ : ∃ A, vecs (p := p) (k := k) (low := low) xss = A := ⟨_, rfl⟩
  obtain ⟨B, hB⟩ : ∃ B, vecs (p := p) (k := k) (low := low) yss = B := ⟨_, rfl⟩
  rw [hA] at HA HJ HM
  rw [hB] at HB HJ HM
  clear hP hx hy hq hq2 hm hl hr hR hA hB
  go_enter Tryd.func6, Tryd.ntmps6
  go_wp2_with fail
  refine Calls.mono HF.out ?_
  rintro e w1 ⟨rfl, hx1⟩
  have E1 := Lib.hid (E0.out.trans hx1)
  have F1 := Lib.hid (F0.out.ext hx1)
  have k1 := F1.out.three
  clear hx1
  go_wp2_with fail
  refine Calls.mono (HA.out w1 E1.out) ?_
  rintro e w2 ⟨b2, l2, c2, avs, rfl, ha, _, hab, hx2⟩
  have E2 := Lib.hid (E1.out.trans hx2)
  have F2 := Lib.hid (F1.out.ext hx2)
  have HAB := Lib.hid hab
  clear k1 hx2 hab
  have k2 := F2.out.three
  go_wp2_with fail
  refine Calls.mono (HB.out w2 E2.out) ?_
  rintro e w3 ⟨b3, l3, c3, bs, rfl, hb, _, hbb, hx3⟩
  have E3 := Lib.hid (E2.out.trans hx3)
  have F3 := Lib.hid (F2.out.ext hx3)
  have HBB := Lib.hid hbb
  clear k2 hx3 hbb
  have k3 := F3.out.three
  go_wp2_with fail
  refine Calls.mono (HJ.out w3 E3.out) ?_
  rintro e w4 ⟨b4, l4, c4, js, rfl, hj, _, hjb, hx4⟩
  have E4 := Lib.hid (E3.out.trans hx4)
  have F4 := Lib.hid (F3.out.ext hx4)
  have HJB := Lib.hid hjb
  clear k3 hx4 hjb
  have k4 := F4.out.three
  go_wp2_with fail
  refine Calls.mono (HM.out w4 E4.out) ?_
  rintro e w5 ⟨b5, l5, c5, ms, rfl, hm, _, hmb, hx5⟩
  have E5 := Lib.hid (E4.out.trans hx5)
  have hg := grassmann_ints HAB.out HBB.out HJB.out hmb
  have g1 := HAB.out.len
  have g2 := HBB.out.len
  have g3 := HJB.out.len
  have g4 := hmb.len
  rw [ha, hb, hj, hm] at hg
  have e9 : (l4 : Int) + l5 = l2 + l3 := by omega
  have i2 : l2 ≤ 6 := by omega
  have i3 : l3 ≤ 6 := by omega
  have i4 : l4 ≤ 6 := by omega
  have i5 : l5 ≤ 6 := by omega
  clear k4 hx5 hmb hg g1 g2 g3 g4 ha hb hj hm
  go_wp2
  go_ret
  exact ⟨by simp, E5.out⟩
end

/-- SpaceGrassmann at any input. -/
theorem spaceGrassmann_any (p k : Int) (ao : Option Addr) (len cap : Nat) (low : List Int) {w : World} (hf : IntsArg w ao len cap low) (n : Int) (_ : -9223372036854775808 ≤ n ∧ n ≤ 9223372036854775807)
    (bo : Option Addr) (m mc : Nat) (xss : List (List Int)) (hx : ListsArg w bo m mc xss) (do' : Option Addr) (l lc : Nat) (yss : List (List Int)) (hy : ListsArg w do' l lc yss) (hP : Primes w) :
    Calls Tryd.prog 6 #[.agg #[.int .i64 p, .int .i64 k, .slice ao len cap], .int .i64 n, .slice bo m mc, .slice do' l lc] w fun e w' => e = .returned (.bool true) ∧ Below w.heap.size w w' := by
  obtain rfl := hx.len
  obtain rfl := hy.len
  by_cases h0 : withAll p k low n [(bo, mc, xss)] = 0
  · obtain ⟨P, K, N, rfl, rfl, rfl, hR, hq⟩ := withAll_is h0
    haveI : FldP P K low := ⟨hR.fld⟩
    obtain rfl : len = K := by rw [← hf.len]; exact hR.fld.len
    have hq1 : rowsFault (P ^ len) N xss = 0 := hq (bo, mc, xss) (by simp)
    by_cases h1 : withAll P len low N [(do', lc, yss)] = 0
    · have hq2 : rowsFault (P ^ len) N yss = 0 := by
        by_cases h2 : rowsFault (P ^ len) N yss = 0
        · exact h2
        · exfalso
          unfold withAll at h1
          rw [if_neg (fun h => h hR.fault), hR.fld.fault.2] at h1
          have h3 : allFault (P ^ len) N [(do', lc, yss)] = 0 := h1
          unfold allFault at h3
          rw [if_pos h2] at h3
          exact h2 h3
      exact grass_ok (p := P) (k := len) (low := low) N ao bo do' cap mc lc xss yss w hP hR hf.reads hx.reads hq1 hy.reads hq2
    · exact grass_no P len ao bo do' len cap xss.length mc yss.length lc N w hP (fun c => c = 0) (fun c => c ≠ 0) (.inr ⟨fun _ h => h, fun _ h => h⟩)
        (fun W h => (spBasis_ok (p := P) (k := len) (low := low) N ao bo cap mc xss W (hP.ext h) hR (h.reads hf.reads) (hx.reads.ext h) hq1).c)
        (fun W h => (spBasis_no P len ao do' len cap lc low N yss W (hP.ext h) hf.len (h.reads hf.reads) hy.big (hy.reads.ext h) h1).c h1)
  · exact grass_no p k ao bo do' len cap xss.length mc yss.length lc n w hP (fun c => c ≠ 0) (fun _ => True) (.inl fun _ h => h)
      (fun W h => (spBasis_no p k ao bo len cap mc low n xss W (hP.ext h) hf.len (h.reads hf.reads) hx.big (hx.reads.ext h) h0).c h0)
      (fun W h => spBasis_any p k ao do' len cap lc low n yss W (hP.ext h) hf.len (h.reads hf.reads) hy.big (hy.reads.ext h))

end Go.Proofs.YthkafhmciapipaaDoor

/- What the row's condition gives the walks: the variable of primes. No other conditions. -/
namespace Go.Proofs.YthkafhmciapipaaDoor
open Go.RowKit

theorem gPrimes : Tryd.prog.globalNamed "parterre/field.primes" = some 0 := by kernel_rfl
theorem tPrimes : (Tryd.prog.globals[0]?).map (·.type) = some 89 := by kernel_rfl

/-- The list of the rows. -/
def laidL : List (String × DataW Unit) := [("parterre/field.primes", Rows.laid_parterre_field_primes)]
theorem laidL_tab : laidL = [("parterre/field.primes", Lib.tabData .i64 primesL)] := rfl

theorem primes_of_laid {W : World} (h : laidMetH Tryd.prog laidL W) : Primes W := by
  rw [MakeChecks.laidMetH_plain _ _ _ (by kernel_rfl), laidL_tab] at h
  have ht := Lib.tabIs_of_head gPrimes tPrimes Tryd.underlying89 Tryd.underlying3 (by kernel_rfl) (by kernel_rfl) h
  have hc : ∀ i, i < 18 → W.cell? ⟨0, i, none⟩ = some (.int .i64 (nth primesL i)) := fun i hi => by
    have := ht.cell gPrimes i (by simpa [primesL] using hi)
    exact this
  refine ⟨?_, hc⟩
  have h0 := hc 0 (by decide)
  unfold World.cell? at h0
  cases hb : W.heap[0]? with
  | none => simp [hb] at h0
  | some o => exact (Array.getElem?_eq_some_iff.1 hb).1

/-- The door's own heap meets the condition. -/
theorem door_met (os : Os) (args : Array Value) : laidMetH Tryd.prog laidL ((World.doorLaid Tryd.prog 400 os).forCall (fun _ _ => 0) ⟨#[], args, []⟩).memory :=
  laidMetH_of_parts3 (fuel := 8) (laidMet_of_run' 8 (by kernel_rfl) (by kernel_rfl)) (by kernel_rfl) (by kernel_rfl)

end Go.Proofs.YthkafhmciapipaaDoor
