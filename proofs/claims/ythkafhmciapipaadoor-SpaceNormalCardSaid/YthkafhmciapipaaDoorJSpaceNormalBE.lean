/- What is known of a list of lists of ints that comes in as an argument. No conditions. -/
import Derived.Test.YthkafhmciapipaaDoorJSpaceNormalBD
import Derived.Test.YthkafhmciapipaaDoorJSpaceNormalAA
import Derived.Deep.Matrix
import Derived.Test.YthkafhmciapipaaDoorJSpaceNormalBC
namespace Go.Proofs.YthkafhmciapipaaDoor
open Go.ChangeShapes Go.WideShapes Go.ChangeAt Go.RowKit

/-- A list of lists that came in. -/
structure ListsArg (w : World) (ao : Option Addr) (n cap : Nat) (xss : List (List Int)) : Prop where
  len : xss.length = n
  big : n ≤ maxLen
  reads : ReadsL w ao xss
  rng : ∀ xs ∈ xss, ∀ x ∈ xs, -9223372036854775808 ≤ x ∧ x ≤ 9223372036854775807

theorem open_listsArg {H : Type} {enc : TypeId × Value → H} {W : World} {base : Nat} {v : Value} {d : DataW H} {p : List MemPlace}
    (hv : Value.okWide Tryd.prog W .any base 30 v) (h : DataW.Trod enc Tryd.prog W 0 (fun _ => true) true 30 v d p) :
    ∃ ao n cap xss, v = .slice ao n cap ∧ ListsArg W ao n cap xss := by
  obtain ⟨a0, len0, cap0, rfl⟩ := okWide_slice Tryd.underlying30 hv
  obtain ⟨fuel, hf⟩ := h
  have hf' : DataW.trod enc Tryd.prog W 0 (fun _ => true) true fuel 30 [.slice a0 len0 cap0] = some (d, p) := by simpa [Value.cells] using hf
  rcases Go.Deep.open_int_rows Tryd.underlying30 Tryd.underlying27 Tryd.underlying3 (by kernel_rfl) (by kernel_rfl) hf' with ⟨hcs, _⟩ | ⟨a, len, cap, A, L, C, Z, hcs, _, hl, hm, _, hr⟩
  · obtain ⟨rfl, rfl, rfl⟩ : a0 = none ∧ len0 = 0 ∧ cap0 = 0 := by simpa using hcs
    exact ⟨none, 0, 0, [], rfl, rfl, by decide, ReadsL.nil _ _, by simp⟩
  · obtain ⟨rfl, rfl, rfl⟩ : a0 = some a ∧ len0 = len ∧ cap0 = cap := by simpa using hcs
    have hrow : ∀ r, r < len0 → row ((List.range len0).map fun r => (Z r).take (L r)) r = (Z r).take (L r) := fun r hr' => by
      rw [row_eq _ _ (by simpa using hr')]; simp
    refine ⟨some a, len0, cap0, (List.range len0).map fun r => (Z r).take (L r), rfl, by simp, by omega, ⟨(List.range len0).map fun r => .slice (A r) (L r) (C r), reads_of_add fun i u hu => ?_, by simp, fun j v hv => ?_⟩, fun xs hxs x hx => ?_⟩
    · have hi : i < len0 := by have := (List.getElem?_eq_some_iff.1 hu).1; simpa using this
      rw [(hr i (by omega)).1, ← hu]
      simp [hi]
    · have hj : j < len0 := by have := (List.getElem?_eq_some_iff.1 hv).1; simpa using this
      obtain ⟨h1, h2, h3, h4, h5, h6, h7⟩ := hr j (by omega)
      rw [hrow j hj]
      have hlen : ((Z j).take (L j)).length = L j := by simp; omega
      refine ⟨A j, C j, by rw [hlen]; simpa [hj] using hv.symm, ?_, by rw [hlen]; omega⟩
      rcases hA : A j with _ | a'
      · have := h6 hA
        have h0 : L j = 0 := by omega
        rw [h0]; exact .inl rfl
      · refine reads_of_add fun i u hu => ?_
        have hi : i < L j := by have := (List.getElem?_eq_some_iff.1 hu).1; simp [ints] at this; omega
        rw [(h7 a' hA).2 i (by omega), ← hu]
        simp [ints, hi, List.getElem?_eq_getElem (show i < (Z j).length by omega)]
    · obtain ⟨r, hr1, rfl⟩ := List.mem_map.1 hxs
      obtain ⟨h1, h2, h3, h4, h5, h6, h7⟩ := hr r (by have := List.mem_range.1 hr1; omega)
      exact rng_of_wf (h5 x (List.mem_of_mem_take hx))

end Go.Proofs.YthkafhmciapipaaDoor

/- What SpaceGrassmann returns. Condition: primes. -/
namespace Go.Proofs.YthkafhmciapipaaDoor
open Go.RowKit
set_option linter.unusedVariables false
set_option linter.unusedSectionVars false

/-- An answer with a list and a number. -/
def SaysC (f : FuncId) (args : Array Value) (w : World) (C : Int → Prop) : Prop := Calls Tryd.prog f args w fun e w' => ∃ (bo : Option Addr) (bl bc : Nat) (c : Int), e = .returned (.tuple #[.slice bo bl bc, .int .i64 c]) ∧ C c ∧ Ext w w'
theorem SaysNo.c {f : FuncId} {args : Array Value} {w : World} {c : Int} (h : SaysNo f args w c) (hc : c ≠ 0) : SaysC f args w (fun c => c ≠ 0) := h.mono fun e w' ⟨h1, h2⟩ => ⟨none, 0, 0, c, h1, hc, h2⟩
theorem SaysBasis.c {p k : Nat} {low : List Int} [FldP p k low] {f : FuncId} {args : Array Value} {w : World} {n : Nat} {S : (Nat → El p k low) → Prop} (h : SaysBasis f args w n S) : SaysC f args w (fun c => c = 0) := h.mono fun e w' ⟨bo, bl, bc, xss, h1, _, _, _, h2⟩ => ⟨bo, bl, bc, 0, h1, rfl, h2⟩
theorem SaysC.mono' {f : FuncId} {args : Array Value} {w : World} {C D : Int → Prop} (h : SaysC f args w C) (hd : ∀ c, C c → D c) : SaysC f args w D := h.mono fun e w' ⟨bo, bl, bc, c, h1, h3, h2⟩ => ⟨bo, bl, bc, c, h1, hd c h3, h2⟩
/-- Either way. -/
theorem spBasis_any (p k : Int) (ao bo : Option Addr) (len cap mc : Nat) (low : List Int) (n : Int) (xss : List (List Int)) (w : World) (hP : Primes w) (hl : low.length = len) (hr : Reads w ao (ints low)) (hbig : xss.length ≤ maxLen) (hx : ReadsL w bo xss) :
    SaysC 12 #[.agg #[.int .i64 p, .int .i64 k, .slice ao len cap], .int .i64 n, .slice bo xss.length mc] w (fun _ => True) := by
  by_cases h0 : withAll p k low n [(bo, mc, xss)] = 0
  · obtain ⟨P, K, N, rfl, rfl, rfl, hR, hq⟩ := withAll_is h0
    haveI : FldP P K low := ⟨hR.fld⟩
    obtain rfl : len = K := by rw [← hl]; exact hR.fld.len
    exact (spBasis_ok (p := P) (k := len) (low := low) N ao bo cap mc xss w hP hR hr hx (hq (bo, mc, xss) (by simp))).c.mono' fun _ _ => trivial
  · exact ((spBasis_no p k ao bo len cap mc low n xss w hP hl hr hbig hx h0).c h0).mono' fun _ _ => trivial
theorem spNormal_any (p k : Int) (ao bo : Option Addr) (len cap mc : Nat) (low : List Int) (n : Int) (xss : List (List Int)) (w : World) (hP : Primes w) (hl : low.length = len) (hr : Reads w ao (ints low)) (hbig : xss.length ≤ maxLen) (hx : ReadsL w bo xss) :
    SaysC 13 #[.agg #[.int .i64 p, .int .i64 k, .slice ao len cap], .int .i64 n, .slice bo xss.length mc] w (fun _ => True) := by
  by_cases h0 : withAll p k low n [(bo, mc, xss)] = 0
  · obtain ⟨P, K, N, rfl, rfl, rfl, hR, hq⟩ := withAll_is h0
    haveI : FldP P K low := ⟨hR.fld⟩
    obtain rfl : len = K := by rw [← hl]; exact hR.fld.len
    exact (spNormal_ok (p := P) (k := len) (low := low) N ao bo cap mc xss w hP hR hr hx (hq (bo, mc, xss) (by simp))).c.mono' fun _ _ => trivial
  · exact ((spNormal_no p k ao bo len cap mc low n xss w hP hl hr hbig hx h0).c h0).mono' fun _ _ => trivial

set_option maxHeartbeats 2000000 in
theorem grass_no (p k : Int) (ao bo do' : Option Addr) (len cap m mc l lc : Nat) (n : Int) (w : World) (hP : Primes w) (C D : Int → Prop) (hcd : (∀ c, C c → c ≠ 0) ∨ ((∀ c, C c → c = 0) ∧ ∀ c, D c → c ≠ 0))
    (ha : ∀ W, Ext w W → SaysC 12 #[.agg #[.int .i64 p, .int .i64 k, .slice ao len cap], .int .i64 n, .slice bo m mc] W C)
    (hb : ∀ W, Ext w W → SaysC 12 #[.agg #[.int .i64 p, .int .i64 k, .slice ao len cap], .int .i64 n, .slice do' l lc] W D) :
    Calls Tryd.prog 6 #[.agg #[.int .i64 p, .int .i64 k, .slice ao len cap], .int .i64 n, .slice bo m mc, .slice do' l lc] w fun e w' => e = .returned (.bool true) ∧ Ext w w' := by
  have E0 := Lib.hid (ext_box w #[.int .i64 p, .int .i64 k, .slice ao len cap] 29)
  have F0 := Lib.hid (Blk.new w #[.int .i64 p, .int .i64 k, .slice ao len cap] 29)
  have HF := Lib.hid (spaceFact_ok _ (hP.ext E0.out))
  have HA := Lib.hid ha
  have HB := Lib.hid hb
  have HCD := Lib.hid hcd
  clear hP ha hb hcd
  go_enter Tryd.func6, Tryd.ntmps6
  go_wp2_with fail
  refine Calls.mono HF.out ?_
  rintro e w1 ⟨rfl, hx1⟩
  have E1 := Lib.hid (E0.out.trans hx1)
  have F1 := Lib.hid (F0.out.ext hx1)
  have k1 := F1.out.three
  clear hx1
  go_wp2_with fail
  refine Calls.mono (HA.out w1 E1.out) ?_
  rintro e w2 ⟨b2, l2, c2, c, rfl, hc, hx2⟩
  have E2 := Lib.hid (E1.out.trans hx2)
  have F2 := Lib.hid (F1.out.ext hx2)
  have HC := Lib.hid hc
  clear k1 hx2 hc
  have k2 := F2.out.three
  go_wp2_with fail
  refine Calls.mono (HB.out w2 E2.out) ?_
  rintro e w3 ⟨b3, l3, c3, d, rfl, hd, hx3⟩
  have E3 := Lib.hid (E2.out.trans hx3)
  have HD := Lib.hid hd
  clear k2 hx3 hd
  rcases HCD.out with h | ⟨h, h'⟩
  · have b1 : (c != 0) = true := by rw [bne_iff_ne]; exact h c HC.out
    clear h
    go_wp2
    go_ret
    exact ⟨rfl, E3.out⟩
  · obtain rfl := h c HC.out
    have b1 : (d != 0) = true := by rw [bne_iff_ne]; exact h' d HD.out
    clear h h'
    go_wp2
    go_ret
    exact ⟨rfl, E3.out⟩

section
variable {p k : Nat} {low : List Int} [hI : FldP p k low]

set_option maxHeartbeats 4000000 in
theorem grass_ok (n : Nat) (ao bo do' : Option Addr) (cap mc lc : Nat) (xss yss : List (List Int)) (w : World) (hP : Primes w) (hR : IsRoom p k low n) (hr : Reads w ao (ints low)) (hx : ReadsL w bo xss) (hq : rowsFault (p ^ k) n xss = 0) (hy : ReadsL w do' yss) (hq2 : rowsFault (p ^ k) n yss = 0) :
    Calls Tryd.prog 6 #[.agg #[.int .i64 p, .int .i64 k, .slice ao k cap], .int .i64 n, .slice bo xss.length mc, .slice do' yss.length lc] w fun e w' => e = .returned (.bool true) ∧ Ext w w' := by
  have E0 := Lib.hid (ext_box w #[.int .i64 p, .int .i64 k, .slice ao k cap] 29)
  have F0 := Lib.hid (Blk.new w #[.int .i64 p, .int .i64 k, .slice ao k cap] 29)
  have HF := Lib.hid (spaceFact_ok _ (hP.ext E0.out))
  have HA : Hid (∀ W, Ext w W → _) := fun W (h : Ext w W) => spBasis_ok (p := p) (k := k) (low := low) n ao bo cap mc xss W (hP.ext h) hR (h.reads hr) (hx.ext h) hq
  have HB : Hid (∀ W, Ext w W → _) := fun W (h : Ext w W) => spBasis_ok (p := p) (k := k) (low := low) n ao do' cap lc yss W (hP.ext h) hR (h.reads hr) (hy.ext h) hq2
  have HJ : Hid (∀ W, Ext w W → _) := fun W (h : Ext w W) => spJoin_ok (p := p) (k := k) (low := low) n ao bo do' cap mc lc xss yss W (hP.ext h) hR (h.reads hr) (hx.ext h) hq (hy.ext h) hq2
  have HM : Hid (∀ W, Ext w W → _) := fun W (h : Ext w W) => spMeet_ok (p := p) (k := k) (low := low) n ao bo do' cap mc lc xss yss W (hP.ext h) hR (h.reads hr) (hx.ext h) hq (hy.ext h) hq2
  have hn6 := hR.n6
  obtain ⟨m, hm⟩ : ∃ m, xss.length = m := ⟨_, rfl⟩
  obtain ⟨l, hl⟩ : ∃ l, yss.length = l := ⟨_, rfl⟩
  rw [hm] at HA HJ HM ⊢
  rw [hl] at HB HJ HM ⊢
  obtain ⟨A, hA⟩ : ∃ A, vecs (p := p) (k := k) (low := low) xss = A := ⟨_, rfl⟩
  obtain ⟨B, hB⟩ : ∃ B, vecs (p := p) (k := k) (low := low) yss = B := ⟨_, rfl⟩
  rw [hA] at HA HJ HM
  rw [hB] at HB HJ HM
  clear hP hx hy hq hq2 hm hl hr hR hA hB
  go_enter Tryd.func6, Tryd.ntmps6
  go_wp2_with fail
  refine Calls.mono HF.out ?_
  rintro e w1 ⟨rfl, hx1⟩
  have E1 := Lib.hid (E0.out.trans hx1)
  have F1 := Lib.hid (F0.out.ext hx1)
  have k1 := F1.out.three
  clear hx1
  go_wp2_with fail
  refine Calls.mono (HA.out w1 E1.out) ?_
  rintro e w2 ⟨b2, l2, c2, avs, rfl, ha, _, hab, hx2⟩
  have E2 := Lib.hid (E1.out.trans hx2)
  have F2 := Lib.hid (F1.out.ext hx2)
  have HAB := Lib.hid hab
  clear k1 hx2 hab
  have k2 := F2.out.three
  go_wp2_with fail
  refine Calls.mono (HB.out w2 E2.out) ?_
  rintro e w3 ⟨b3, l3, c3, bs, rfl, hb, _, hbb, hx3⟩
  have E3 := Lib.hid (E2.out.trans hx3)
  have F3 := Lib.hid (F2.out.ext hx3)
  have HBB := Lib.hid hbb
  clear k2 hx3 hbb
  have k3 := F3.out.three
  go_wp2_with fail
  refine Calls.mono (HJ.out w3 E3.out) ?_
  rintro e w4 ⟨b4, l4, c4, js, rfl, hj, _, hjb, hx4⟩
  have E4 := Lib.hid (E3.out.trans hx4)
  have F4 := Lib.hid (F3.out.ext hx4)
  have HJB := Lib.hid hjb
  clear k3 hx4 hjb
  have k4 := F4.out.three
  go_wp2_with fail
  refine Calls.mono (HM.out w4 E4.out) ?_
  rintro e w5 ⟨b5, l5, c5, ms, rfl, hm, _, hmb, hx5⟩
  have E5 := Lib.hid (E4.out.trans hx5)
  have hg := grassmann_ints HAB.out HBB.out HJB.out hmb
  have g1 := HAB.out.len
  have g2 := HBB.out.len
  have g3 := HJB.out.len
  have g4 := hmb.len
  rw [ha, hb, hj, hm] at hg
  have e9 : (l4 : Int) + l5 = l2 + l3 := by omega
  have i2 : l2 ≤ 6 := by omega
  have i3 : l3 ≤ 6 := by omega
  have i4 : l4 ≤ 6 := by omega
  have i5 : l5 ≤ 6 := by omega
  clear k4 hx5 hmb hg g1 g2 g3 g4 ha hb hj hm
  go_wp2
  go_ret
  exact ⟨by simp, E5.out⟩
end

/-- SpaceGrassmann at any input. -/
theorem spaceGrassmann_any (p k : Int) (ao : Option Addr) (len cap : Nat) (low : List Int) {w : World} (hf : IntsArg w ao len cap low) (n : Int) (_ : -9223372036854775808 ≤ n ∧ n ≤ 9223372036854775807)
    (bo : Option Addr) (m mc : Nat) (xss : List (List Int)) (hx : ListsArg w bo m mc xss) (do' : Option Addr) (l lc : Nat) (yss : List (List Int)) (hy : ListsArg w do' l lc yss) (hP : Primes w) :
    Calls Tryd.prog 6 #[.agg #[.int .i64 p, .int .i64 k, .slice ao len cap], .int .i64 n, .slice bo m mc, .slice do' l lc] w fun e w' => e = .returned (.bool true) ∧ Below w.heap.size w w' := by
  obtain rfl := hx.len
  obtain rfl := hy.len
  by_cases h0 : withAll p k low n [(bo, mc, xss)] = 0
  · obtain ⟨P, K, N, rfl, rfl, rfl, hR, hq⟩ := withAll_is h0
    haveI : FldP P K low := ⟨hR.fld⟩
    obtain rfl : len = K := by rw [← hf.len]; exact hR.fld.len
    have hq1 : rowsFault (P ^ len) N xss = 0 := hq (bo, mc, xss) (by simp)
    by_cases h1 : withAll P len low N [(do', lc, yss)] = 0
    · have hq2 : rowsFault (P ^ len) N yss = 0 := by
        by_cases h2 : rowsFault (P ^ len) N yss = 0
        · exact h2
        · exfalso
          unfold withAll at h1
          rw [if_neg (fun h => h hR.fault), hR.fld.fault.2] at h1
          have h3 : allFault (P ^ len) N [(do', lc, yss)] = 0 := h1
          unfold allFault at h3
          rw [if_pos h2] at h3
          exact h2 h3
      exact grass_ok (p := P) (k := len) (low := low) N ao bo do' cap mc lc xss yss w hP hR hf.reads hx.reads hq1 hy.reads hq2
    · exact grass_no P len ao bo do' len cap xss.length mc yss.length lc N w hP (fun c => c = 0) (fun c => c ≠ 0) (.inr ⟨fun _ h => h, fun _ h => h⟩)
        (fun W h => (spBasis_ok (p := P) (k := len) (low := low) N ao bo cap mc xss W (hP.ext h) hR (h.reads hf.reads) (hx.reads.ext h) hq1).c)
        (fun W h => (spBasis_no P len ao do' len cap lc low N yss W (hP.ext h) hf.len (h.reads hf.reads) hy.big (hy.reads.ext h) h1).c h1)
  · exact grass_no p k ao bo do' len cap xss.length mc yss.length lc n w hP (fun c => c ≠ 0) (fun _ => True) (.inl fun _ h => h)
      (fun W h => (spBasis_no p k ao bo len cap mc low n xss W (hP.ext h) hf.len (h.reads hf.reads) hx.big (hx.reads.ext h) h0).c h0)
      (fun W h => spBasis_any p k ao do' len cap lc low n yss W (hP.ext h) hf.len (h.reads hf.reads) hy.big (hy.reads.ext h))

end Go.Proofs.YthkafhmciapipaaDoor

/- What parterreref1.Ints answers: are two lists the same? Conditions: both can be read. -/
namespace Go.Proofs.YthkafhmciapipaaDoor
open Go.RowKit

set_option maxHeartbeats 400000 in
theorem ints_yes (ao bo : Option Addr) (n cap cap' : Nat) (xs : List Int) (w : World) (hx : xs.length = n) (hbig : n ≤ maxLen) (ra : Reads w ao (ints xs)) (rb : Reads w bo (ints xs)) :
    Calls Tryd.prog 36 #[.slice ao n cap, .slice bo n cap'] w fun e w' => e = .returned (.bool true) ∧ Drawn w w' := by
  unfold maxLen at hbig
  have HX := Lib.hid hx
  have RA := Lib.hid ra
  have RB := Lib.hid rb
  clear hx ra rb
  go_enter Tryd.func36, Tryd.ntmps36
  go_wp2
  go_loopw [5] (fun i wr => ∃ k : Nat, k ≤ n ∧ i = .int .i64 k ∧ Drawn w wr) (fun i _ => n - (intOf i).toNat)
  case atStart => exact ⟨0, by omega, rfl, Drawn.refl _⟩
  case round =>
    obtain ⟨k, hk, rfl, hd⟩ := hrel
    by_cases hlt : k < n
    · obtain ⟨b, off, rfl, hb, hc⟩ := Reads.int RA.out (by rw [HX.out]; omega)
      obtain ⟨b', off', rfl, hb', hc'⟩ := Reads.int RB.out (by rw [HX.out]; omega)
      have c1 : wr.cell? ⟨b, off + k, none⟩ = some (.int .i64 (nth xs k)) := by rw [hd.cell]; exact hc k (by rw [HX.out]; omega)
      have c2 : wr.cell? ⟨b', off' + k, none⟩ = some (.int .i64 (nth xs k)) := by rw [hd.cell]; exact hc' k (by rw [HX.out]; omega)
      have HD := Lib.hid hd
      clear hc hc' hd
      go_wp2_with fail
      go_quiet (fail)
      go_wp2
      go_roundw
      case rel => exact ⟨k + 1, by omega, by go_num, HD.out.trans (Drawn.drewN _ _)⟩
      case measure => simp [intOf]; omega
    · go_wp2
      go_ret
      exact ⟨rfl, hd⟩

set_option maxHeartbeats 400000 in
/-- Lists that part somewhere, or that are not as long. -/
theorem ints_no (ao bo : Option Addr) (n m cap cap' : Nat) (xs ys : List Int) (w : World) (hx : xs.length = n) (hy : ys.length = m) (hbig : n ≤ maxLen) (hbig' : m ≤ maxLen) (ra : Reads w ao (ints xs)) (rb : Reads w bo (ints ys)) (hne : xs ≠ ys) :
    Calls Tryd.prog 36 #[.slice ao n cap, .slice bo m cap'] w fun e w' => e = .returned (.bool false) ∧ Drawn w w' := by
  unfold maxLen at hbig hbig'
  have HX := Lib.hid hx
  have HY := Lib.hid hy
  have RA := Lib.hid ra
  have RB := Lib.hid rb
  have HN := Lib.hid hne
  clear hx ra rb hy hne
  by_cases hnm : n = m
  · subst hnm
    go_enter Tryd.func36, Tryd.ntmps36
    go_wp2
    go_loopw [5] (fun i wr => ∃ k : Nat, k ≤ n ∧ i = .int .i64 k ∧ Drawn w wr ∧ ∀ j, j < k → nth xs j = nth ys j) (fun i _ => n - (intOf i).toNat)
    case atStart => exact ⟨0, by omega, rfl, Drawn.refl _, fun j hj => by omega⟩
    case round =>
      obtain ⟨k, hk, rfl, hd, hall⟩ := hrel
      have HA := Lib.hid hall
      clear hall
      by_cases hlt : k < n
      · obtain ⟨b, off, rfl, hb, hc⟩ := Reads.int RA.out (by rw [HX.out]; omega)
        obtain ⟨b', off', rfl, hb', hc'⟩ := Reads.int RB.out (by rw [HY.out]; omega)
        have c1 : wr.cell? ⟨b, off + k, none⟩ = some (.int .i64 (nth xs k)) := by rw [hd.cell]; exact hc k (by rw [HX.out]; omega)
        have c2 : wr.cell? ⟨b', off' + k, none⟩ = some (.int .i64 (nth ys k)) := by rw [hd.cell]; exact hc' k (by rw [HY.out]; omega)
        have HD := Lib.hid hd
        clear hc hc' hd
        by_cases he : nth xs k = nth ys k
        · have HE := Lib.hid he
          have hb2 : (nth xs k != nth ys k) = false := by rw [he]; simp
          clear he
          go_wp2_with fail
          go_quiet (fail)
          go_wp2
          go_roundw
          case rel => exact ⟨k + 1, by omega, by go_num, HD.out.trans (Drawn.drewN _ _), fun j hj => by
            rcases Nat.lt_succ_iff_lt_or_eq.1 hj with h | rfl
            · exact HA.out j h
            · exact HE.out⟩
          case measure => simp [intOf]; omega
        · have hb2 : (nth xs k != nth ys k) = true := by rw [bne_iff_ne]; exact he
          clear he
          go_wp2_with fail
          go_quiet (fail)
          go_wp2
          go_ret
          exact ⟨rfl, HD.out.trans (Drawn.drewN _ _)⟩
      · exfalso
        exact HN.out (nth_ext xs ys (by rw [HX.out, HY.out]) fun j hj => HA.out j (by rw [HX.out] at hj; omega))
  · have hb2 : ((n : Int) != (m : Int)) = true := by rw [bne_iff_ne]; omega
    go_enter Tryd.func36, Tryd.ntmps36
    go_wp2
    go_ret
    exact ⟨rfl, Drawn.refl _⟩

theorem ints_any (ao bo : Option Addr) (n m cap cap' : Nat) (xs ys : List Int) (w : World) (hx : xs.length = n) (hy : ys.length = m) (hbig : n ≤ maxLen) (hbig' : m ≤ maxLen) (ra : Reads w ao (ints xs)) (rb : Reads w bo (ints ys)) :
    Calls Tryd.prog 36 #[.slice ao n cap, .slice bo m cap'] w fun e w' => e = .returned (.bool (decide (xs = ys))) ∧ Drawn w w' := by
  by_cases h : xs = ys
  · subst h
    obtain rfl : n = m := by omega
    rw [decide_eq_true rfl]
    exact ints_yes ao bo n cap cap' xs w hx hbig ra rb
  · rw [decide_eq_false h]
    exact ints_no ao bo n m cap cap' xs ys w hx hy hbig hbig' ra rb h

end Go.Proofs.YthkafhmciapipaaDoor
