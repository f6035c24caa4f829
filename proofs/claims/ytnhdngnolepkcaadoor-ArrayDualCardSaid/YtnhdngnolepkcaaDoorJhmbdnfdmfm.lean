/- The rows of a space are runs. Plain but for the words of the walk. -/
import Derived.Test.YtnhdngnolepkcaaDoorJmbcldkmfmk
import Derived.Test.YtnhdngnolepkcaaDoorJpofacligji
namespace Go.Proofs.YtnhdngnolepkcaaDoor
open Go.RowKit
set_option linter.unusedSectionVars false

theorem IsRuns.are {s : Int} {xss : List (List Int)} (h : IsRuns s xss) : RunsAre s xss 0 := by
  refine .inr (.inr (.inr ⟨h.s2, h.s64, h.n1, h.n128, .inr ⟨fun i hi => ?_, rfl⟩⟩))
  unfold runFault
  have h1 := h.len i hi
  have h2 := h.k1
  have h3 := h.k8
  rw [if_neg (by omega), if_neg]
  intro ha
  obtain ⟨x, hx, hb⟩ := List.any_eq_true.1 ha
  have := h.lev i hi x hx
  unfold badAt at hb
  simp at hb
  omega

section
variable {p k : Nat} {low : List Int} [hI : FldP p k low]
theorem codeRows_row {n : Nat} {T : Nat → Bool} {i : Nat} (hi : i < (codeRows (p ^ k) n T ((p ^ k) ^ n)).length) : ∃ c, row (codeRows (p ^ k) n T ((p ^ k) ^ n)) i = nrow (opn (p ^ k) n c) n := by
  have hm : row (codeRows (p ^ k) n T ((p ^ k) ^ n)) i ∈ codeRows (p ^ k) n T ((p ^ k) ^ n) := by rw [row_eq _ _ hi]; exact List.getElem_mem hi
  obtain ⟨c, _, e⟩ := List.mem_map.1 hm
  exact ⟨c, e.symm⟩
theorem codeRows_runs {n : Nat} {V : List (Nat → El p k low)} (hR : IsRoom p k low n) (hz : Zero n V) (h128 : (codeRows (p ^ k) n (linT n V) ((p ^ k) ^ n)).length ≤ 128) :
    IsRuns (p ^ k : Nat) (codeRows (p ^ k) n (linT n V) ((p ^ k) ^ n)) ∧ (row (codeRows (p ^ k) n (linT n V) ((p ^ k) ^ n)) 0).length = n := by
  have hq2 : 2 ≤ p ^ k := one_lt_pow' hR.fld.p2 hR.fld.k1
  have h64 := hR.fld.big
  have hpos : 0 < (codeRows (p ^ k) n (linT n V) ((p ^ k) ^ n)).length := by
    have hM := card_codes hz
    rw [← codeRows_len (p ^ k) n] at hM
    obtain ⟨l, _, h2, h3⟩ := hM
    rw [← h3]; exact List.length_pos_of_mem ((h2 vz).2 (span_zero V))
  have hlen : ∀ i, i < (codeRows (p ^ k) n (linT n V) ((p ^ k) ^ n)).length → (row (codeRows (p ^ k) n (linT n V) ((p ^ k) ^ n)) i).length = n := fun i hi => by
    obtain ⟨c, e⟩ := codeRows_row hi
    rw [e, nrow_length]
  have hn1 := hR.n1
  have hn6 := hR.n6
  refine ⟨⟨by omega, by omega, hpos, h128, by rw [hlen 0 hpos]; exact hn1, by rw [hlen 0 hpos]; omega, fun i hi => by rw [hlen i hi, hlen 0 hpos], fun i hi x hx => ?_⟩, hlen 0 hpos⟩
  obtain ⟨c, e⟩ := codeRows_row hi
  rw [e] at hx
  obtain ⟨j, hj, rfl⟩ := List.mem_iff_getElem.1 hx
  rw [nrow_length] at hj
  rw [← nth_eq _ _ (by rw [nrow_length]; exact hj), nth_nrow _ hj]
  have := opn_lt (n := n) (c := c) (i := j) (qpos (p := p) (k := k) low)
  omega
end

end Go.Proofs.YtnhdngnolepkcaaDoor

/- arrayFact returns true. -/
namespace Go.Proofs.YtnhdngnolepkcaaDoor
set_option maxRecDepth 100000
open Go.RowKit Go.Maps

/-- The four runs. -/
def fourRuns : List (List Int) := [[0, 0, 0], [0, 1, 1], [1, 0, 1], [1, 1, 0]]
theorem four_are : RunsAre (2 : Nat) fourRuns 0 :=
  .inr (.inr (.inr ⟨by decide, by decide, by decide, by decide, .inr ⟨by decide, rfl⟩⟩))
instance alikeDec (S : Nat) (xss : List (List Int)) (C : Nat) : Decidable (AlikeP S xss C) := by unfold AlikeP; exact inferInstance
theorem four_strength : StrengthIs 2 fourRuns 2 := by
  have h1 : ∀ C, C < 2 ^ (row fourRuns 0).length → 1 ≤ onesOf C → onesOf C ≤ 2 → AlikeP 2 fourRuns C := by decide +kernel
  have h2 : onesOf 7 = 3 ∧ ¬ AlikeP 2 fourRuns 7 := by decide +kernel
  exact ⟨by decide, h1, .inr ⟨7, by decide, h2.1, h2.2⟩⟩

theorem inner_lit {w : World} {b : Nat} {cs : Array Value} {xs : List Int} (h : Blk w b cs 3) (hc : cs.toList = ints xs) (hm : xs.length ≤ maxLen) {n : Nat} (hn : n = xs.length) (c : Nat) : Inner w (.slice (some ⟨b, 0, none⟩) n c) xs := by
  subst hn
  refine ⟨_, c, rfl, .inr ⟨b, 0, rfl, h.lt, fun j u hu => ?_⟩, hm⟩
  rw [Nat.zero_add]
  refine h.c j u ?_
  rw [← hc] at hu
  simpa using hu

set_option maxHeartbeats 1000000 in
theorem arrayFact_ok (w : World) : Calls Tryd.prog 13 #[] w fun e w' => e = .returned (.bool true) ∧ Ext w w' := by
  have H1 : Hid (∀ ao cap w, ReadsL w ao fourRuns → Calls Tryd.prog 15 #[.int .i64 2, .slice ao 4 cap] w fun e w' => e = .returned (.tuple #[.int .i64 2, .int .i64 0]) ∧ Ext w w') := fun ao cap w hr =>
    (strength_ok 2 ao 4 cap fourRuns w rfl (by decide) hr four_are).mono fun e w' ⟨t, h1, h2, h3⟩ => ⟨by rw [h1, h2.one four_strength]; rfl, h3⟩
  obtain ⟨w5, hw5⟩ : ∃ w5, w5 = ((((w.alloc (.cells #[.int .i64 0, .int .i64 0, .int .i64 0] 3)).alloc (.cells #[.int .i64 0, .int .i64 1, .int .i64 1] 3)).alloc (.cells #[.int .i64 1, .int .i64 0, .int .i64 1] 3)).alloc (.cells #[.int .i64 1, .int .i64 1, .int .i64 0] 3)).alloc
      (.cells #[.slice (some ⟨w.heap.size, 0, none⟩) 3 3, .slice (some ⟨w.heap.size + 1, 0, none⟩) 3 3, .slice (some ⟨w.heap.size + 1 + 1, 0, none⟩) 3 3, .slice (some ⟨w.heap.size + 1 + 1 + 1, 0, none⟩) 3 3] 22) := ⟨_, rfl⟩
  have HR : Hid (ReadsL w5 (some ⟨w.heap.size + 1 + 1 + 1 + 1, 0, none⟩) fourRuns) := by
    have b0 : Blk w5 w.heap.size #[.int .i64 0, .int .i64 0, .int .i64 0] 3 := by rw [hw5]; exact ((((Blk.new w _ _).alloc _).alloc _).alloc _).alloc _
    have b1 : Blk w5 (w.heap.size + 1) #[.int .i64 0, .int .i64 1, .int .i64 1] 3 := by rw [hw5]; exact (((Blk.new' _ _ _ (by simp)).alloc _).alloc _).alloc _
    have b2 : Blk w5 (w.heap.size + 1 + 1) #[.int .i64 1, .int .i64 0, .int .i64 1] 3 := by rw [hw5]; exact ((Blk.new' _ _ _ (by simp)).alloc _).alloc _
    have b3 : Blk w5 (w.heap.size + 1 + 1 + 1) #[.int .i64 1, .int .i64 1, .int .i64 0] 3 := by rw [hw5]; exact (Blk.new' _ _ _ (by simp)).alloc _
    have b4 : Blk w5 (w.heap.size + 1 + 1 + 1 + 1) #[.slice (some ⟨w.heap.size, 0, none⟩) 3 3, .slice (some ⟨w.heap.size + 1, 0, none⟩) 3 3, .slice (some ⟨w.heap.size + 1 + 1, 0, none⟩) 3 3, .slice (some ⟨w.heap.size + 1 + 1 + 1, 0, none⟩) 3 3] 22 := by rw [hw5]; exact Blk.new' _ _ _ (by simp)
    refine ⟨[.slice (some ⟨w.heap.size, 0, none⟩) 3 3, .slice (some ⟨w.heap.size + 1, 0, none⟩) 3 3, .slice (some ⟨w.heap.size + 1 + 1, 0, none⟩) 3 3, .slice (some ⟨w.heap.size + 1 + 1 + 1, 0, none⟩) 3 3], .inr ⟨_, 0, rfl, b4.lt, fun j u hu => ?_⟩, rfl, fun j v hv => ?_⟩
    · rw [Nat.zero_add]
      exact b4.c j u (by simpa using hu)
    · match j, hv with
      | 0, hv => obtain rfl : .slice (some ⟨w.heap.size, 0, none⟩) 3 3 = v := by simpa using hv
                 exact inner_lit (xs := [0, 0, 0]) b0 rfl (by decide) rfl 3
      | 1, hv => obtain rfl : .slice (some ⟨w.heap.size + 1, 0, none⟩) 3 3 = v := by simpa using hv
                 exact inner_lit (xs := [0, 1, 1]) b1 rfl (by decide) rfl 3
      | 2, hv => obtain rfl : .slice (some ⟨w.heap.size + 1 + 1, 0, none⟩) 3 3 = v := by simpa using hv
                 exact inner_lit (xs := [1, 0, 1]) b2 rfl (by decide) rfl 3
      | 3, hv => obtain rfl : .slice (some ⟨w.heap.size + 1 + 1 + 1, 0, none⟩) 3 3 = v := by simpa using hv
                 exact inner_lit (xs := [1, 1, 0]) b3 rfl (by decide) rfl 3
      | j + 4, hv => simp at hv
  have HX : Hid (Ext w w5) := by show Ext w w5; rw [hw5]; exact (((((Ext.refl w).alloc _).alloc _).alloc _).alloc _).alloc _
  go_enter Tryd.func13, Tryd.ntmps13
  go_wp2_with fail
  rw [← hw5]
  clear hw5
  refine Calls.mono (H1.out _ _ _ HR.out) ?_
  rintro e w6 ⟨rfl, hx⟩
  have HX2 := Lib.hid (HX.out.trans hx)
  clear hx
  go_wp2
  go_ret
  exact ⟨by simp, HX2.out⟩

end Go.Proofs.YtnhdngnolepkcaaDoor

/- What ArrayDual returns. Condition: primes. -/
namespace Go.Proofs.YtnhdngnolepkcaaDoor
open Go.RowKit
set_option linter.unusedVariables false
set_option linter.unusedSectionVars false

set_option maxHeartbeats 4000000 in
set_option maxRecDepth 100000 in
theorem dual_no (p k : Int) (ao bo : Option Addr) (len cap m mc : Nat) (n : Int) (w : World) (c : Int) (hc : c ≠ 0)
    (hl : ∀ W, Ext w W → Calls Tryd.prog 9 #[.agg #[.int .i64 p, .int .i64 k, .slice ao len cap], .int .i64 n, .slice bo m mc] W fun e w' => ∃ oo on oc, e = .returned (.tuple #[.slice oo on oc, .int .i64 c]) ∧ Ext W w') :
    Calls Tryd.prog 4 #[.agg #[.int .i64 p, .int .i64 k, .slice ao len cap], .int .i64 n, .slice bo m mc] w fun e w' => e = .returned (.bool true) ∧ Ext w w' := by
  have E0 := Lib.hid (ext_box w #[.int .i64 p, .int .i64 k, .slice ao len cap] 24)
  have F0 := Lib.hid (Blk.new w #[.int .i64 p, .int .i64 k, .slice ao len cap] 24)
  have HL := Lib.hid hl
  have b1 : (c != 0) = true := by rw [bne_iff_ne]; exact hc
  clear hl hc
  go_enter Tryd.func4, Tryd.ntmps4
  go_wp2_with fail
  refine Calls.mono (arrayFact_ok _) ?_
  rintro e w1 ⟨rfl, hx⟩
  have E1 := Lib.hid (E0.out.trans hx)
  have F1 := Lib.hid (F0.out.ext hx)
  clear hx
  have k1 := F1.out.three
  go_wp2_with fail
  refine Calls.mono (HL.out w1 E1.out) ?_
  rintro e w2 ⟨b2, l2, c2, rfl, hx⟩
  have E2 := Lib.hid (E1.out.trans hx)
  clear hx k1
  go_wp2
  go_ret
  exact ⟨by simp, E2.out⟩

section
variable {p k : Nat} {low : List Int} [hI : FldP p k low]

set_option maxHeartbeats 8000000 in
set_option maxRecDepth 100000 in
theorem dual_ok (n : Nat) (ao bo : Option Addr) (cap mc : Nat) (xss : List (List Int)) (w : World) (hP : Primes w) (hR : IsRoom p k low n) (hr : Reads w ao (ints low)) (hx : ReadsL w bo xss) (hq : rowsFault (p ^ k) n xss = 0)
    (h128 : (codeRows (p ^ k) n (linT n (vecs (p := p) (k := k) (low := low) xss)) ((p ^ k) ^ n)).length ≤ 128) :
    Calls Tryd.prog 4 #[.agg #[.int .i64 p, .int .i64 k, .slice ao k cap], .int .i64 n, .slice bo xss.length mc] w fun e w' => e = .returned (.bool true) ∧ Ext w w' := by
  have hz := vecs_zero (p := p) (k := k) (low := low) hq
  obtain ⟨hruns, hrow⟩ := codeRows_runs hR hz h128
  have hq2 : 2 ≤ p ^ k := one_lt_pow' hR.fld.p2 hR.fld.k1
  have E0 := Lib.hid (ext_box w #[.int .i64 p, .int .i64 k, .slice ao k cap] 24)
  have F0 := Lib.hid (Blk.new w #[.int .i64 p, .int .i64 k, .slice ao k cap] 24)
  have HL : Hid (∀ W, Ext w W → _) := fun W (h : Ext w W) => linear_rows (p := p) (k := k) (low := low) n ao bo cap mc xss W (hP.ext h) hR (h.reads hr) (hx.ext h) hq 0 _ (.inr ⟨h128, rfl, rfl⟩)
  have HSZ : Hid (∀ W, _) := fun W => size_is p k ao k cap low W hR.fld
  have HST : Hid (∀ oo oc W, ReadsL W oo (codeRows (p ^ k) n (linT n (vecs (p := p) (k := k) (low := low) xss)) ((p ^ k) ^ n)) → _) := fun oo oc W h => strength_ok (p ^ k) oo _ oc _ W rfl (by unfold maxLen; omega) h hruns.are
  have HN : Hid (∀ W, Ext w W → _) := fun W (h : Ext w W) => spNormal_ok (p := p) (k := k) (low := low) n ao bo cap mc xss W (hP.ext h) hR (h.reads hr) (hx.ext h) hq
  have HSP : Hid (∀ ns ro rc W, BasisI n ns (Nul n (Span (vecs (p := p) (k := k) (low := low) xss))) → Ext w W → ReadsL W ro ns → Calls Tryd.prog 7 #[.agg #[.int .i64 p, .int .i64 k, .slice ao k cap], .int .i64 n, .slice ro ns.length rc] W fun e w' => ∃ (g : Nat) (T : Nat → Bool), e = .returned (.slice (some ⟨g, 0, none⟩) ((p ^ k) ^ n) ((p ^ k) ^ n)) ∧ OwnB W w' g ((p ^ k) ^ n) ((p ^ k) ^ n) T ∧ Marks n T (Nul n (Span (vecs (p := p) (k := k) (low := low) xss)))) := fun ns ro rc W hb h h2 => by
    have hf := hb.fault hR.n6
    have hl := hb.len
    have hn6 := hR.n6
    refine (span_ref (p := p) (k := k) (low := low) n ns.length ao ro cap rc (vecs ns) W hR (h.reads hr) (vecs_zero hf) (vecs_length ns) (by omega) (by rw [vecs_rows hf]; exact h2)).mono ?_
    rintro e w' ⟨g, T, rfl, ht, hm⟩
    exact ⟨g, T, rfl, ht, fun c hc => (hm c hc).trans (hb.span _)⟩
  have HOP : Hid (∀ W c, c < 100000 → _) := fun W c hc => openOf_any p k n c ao k cap low W hR.fld hR.n1 hR.n6 hc
  have HDU : Hid (∀ T : Nat → Bool, Marks n T (Nul n (Span (vecs (p := p) (k := k) (low := low) xss))) → _) := fun T hT => dual_strength hR.n6 hz hT hrow
  have hNb := hR.big
  have hn1 := hR.n1
  have hn6 := hR.n6
  obtain ⟨R, hRR⟩ : ∃ R, codeRows (p ^ k) n (linT n (vecs (p := p) (k := k) (low := low) xss)) ((p ^ k) ^ n) = R := ⟨_, rfl⟩
  obtain ⟨V, hV⟩ : ∃ V, vecs (p := p) (k := k) (low := low) xss = V := ⟨_, rfl⟩
  obtain ⟨m, hm⟩ : ∃ m, xss.length = m := ⟨_, rfl⟩
  rw [hRR] at HL HST HDU h128
  rw [hV] at HN HSP HDU
  rw [hm] at HL HN ⊢
  obtain ⟨q, hqq⟩ : ∃ q, p ^ k = q := ⟨_, rfl⟩
  rw [hqq] at HSZ HST HSP HOP HDU hNb hq2
  obtain ⟨N, hN⟩ : ∃ N, q ^ n = N := ⟨_, rfl⟩
  have hNp : 0 < N := by rw [← hN]; exact Nat.pow_pos (by omega)
  rw [hN] at HSP HDU hNb
  clear hP hR hr hx hq hz hruns hrow hRR hV hm hqq hN
  go_enter Tryd.func4, Tryd.ntmps4
  go_wp2_with fail
  refine Calls.mono (arrayFact_ok _) ?_
  rintro e w1 ⟨rfl, hx⟩
  have E1 := Lib.hid (E0.out.trans hx)
  have F1 := Lib.hid (F0.out.ext hx)
  clear hx
  have k1 := F1.out.three
  go_wp2_with fail
  refine Calls.mono (HL.out w1 E1.out) ?_
  rintro e w2 ⟨b2, l2, c2, rfl, hr2, hl2, hx⟩
  have E2 := Lib.hid (E1.out.trans hx)
  have F2 := Lib.hid (F1.out.ext hx)
  have R2 := Lib.hid hr2
  have L2 := Lib.hid hl2
  clear hx k1 hr2 hl2
  have k2 := F2.out.three
  go_wp2_with fail
  refine Calls.mono (HSZ.out w2) ?_
  rintro e w3 ⟨rfl, hx⟩
  have E3 := Lib.hid (E2.out.trans hx)
  have F3 := Lib.hid (F2.out.ext hx)
  have HS3 := Lib.hid (HST.out b2 c2 w3 (R2.out.ext hx))
  rw [L2.out] at HS3
  clear hx k2
  go_wp2_with fail
  refine Calls.mono HS3.out ?_
  rintro e w4 ⟨t, rfl, hst, hx⟩
  have E4 := Lib.hid (E3.out.trans hx)
  have F4 := Lib.hid (F3.out.ext hx)
  have ST := Lib.hid hst
  clear hx hst
  have k4 := F4.out.three
  go_wp2_with fail
  refine Calls.mono (HN.out w4 E4.out) ?_
  rintro e w5 ⟨b5, l5, c5, ns, rfl, hnl, hnr, hnb, hx⟩
  have E5 := Lib.hid (E4.out.trans hx)
  have F5 := Lib.hid (F4.out.ext hx)
  have HS5 := Lib.hid (HSP.out ns b5 c5 w5 hnb E5.out hnr)
  rw [hnl] at HS5
  clear hx hnl hnr hnb k4
  have k5 := F5.out.three
  go_wp2_with fail
  refine Calls.mono HS5.out ?_
  rintro e w6 ⟨g6, T, rfl, ht, hmk⟩
  have E6 := Lib.hid (E5.out.trans ht.ext)
  have F6 := Lib.hid (F5.out.ext ht.ext)
  have TB := Lib.hid ht
  obtain ⟨hd1, hds⟩ := HDU.out T hmk
  have HD := Lib.hid (ST.out.one hds)
  have HMS : Hid (∀ c, minW q n T (c + 1) = if c ≠ 0 ∧ T c = true ∧ wtN (opn q n c) n < minW q n T c then wtN (opn q n c) n else minW q n T c) := fun c => rfl
  have HM1 : Hid (minW q n T 1 = n + 1) := by show _ = _; rw [minW, if_neg (fun h => h.1 rfl)]; rfl
  have HML : Hid (∀ c, minW q n T c ≤ n + 1) := fun c => by
    show _ ≤ _
    rcases minW_is q n T c with h | ⟨c', _, _, _, h⟩
    · omega
    · rw [h]; have := wtN_le (opn q n c') n; omega
  have HD1 := Lib.hid hd1
  obtain ⟨MW, hMW⟩ : ∃ MW, minW q n T = MW := ⟨_, rfl⟩
  rw [hMW] at HD HMS HM1 HML HD1
  clear ht hmk hds hd1 hMW k5 HL HN HSP HST HS3 HS5
  go_wp2
  go_loopg [15, 16] (N - 1) (fun r d x wr => ∃ c : Nat, 1 ≤ c ∧ c + r = N ∧ x = .int .i64 c ∧ d = .int .i64 (MW c : Nat) ∧ Ext w6 wr)
  case atStart => exact ⟨1, by omega, by omega, rfl, by rw [HM1.out]; go_num, Ext.refl _⟩
  case round =>
    obtain ⟨c, hc1, hcN, rfl, rfl, hx⟩ := hrel
    have HX := Lib.hid hx
    have hMc := HML.out c
    clear hx
    cases gk with
    | zero =>
      obtain rfl : N = c := by omega
      have hb := HD1.out
      have hd := HD.out
      obtain ⟨d, hdd⟩ : ∃ d, MW N = d := ⟨_, rfl⟩
      rw [hdd] at hMc hb hd ⊢
      obtain rfl : d = t + 1 := by omega
      clear hdd hd HD HD1 HMS HM1 HML
      go_wp2
      go_ret
      exact ⟨by simp, E6.out.trans HX.out⟩
    | succ r1 =>
      have hcl : (c : Int) < (N : Int) := by omega
      have hcl' : c < N := by omega
      have hc5 : c < 100000 := by omega
      have k6 := (TB.out.carry HX.out).cellAt hcl'
      have HMc := Lib.hid (HMS.out c)
      obtain ⟨tc, htc⟩ : ∃ tc, T c = tc := ⟨_, rfl⟩
      rw [htc] at k6 HMc
      clear htc
      cases tc with
      | false =>
        have HM2 : Hid (MW (c + 1) = MW c) := by show _ = _; rw [HMc.out, if_neg (fun h => by simp at h)]
        obtain ⟨d, hd⟩ : ∃ d, MW c = d := ⟨_, rfl⟩
        rw [hd] at hMc HM2 ⊢
        clear hd HMc
        go_wp2
        go_roundg r1
        case measure => omega
        case rel => exact ⟨c + 1, by omega, by omega, by go_num, by rw [HM2.out], HX.out⟩
      | true =>
        have k7 := (F6.out.ext HX.out).three
        have HO := Lib.hid (HOP.out wr c hc5)
        obtain ⟨f, hf⟩ : ∃ f : Nat → Nat, opn q n c = f := ⟨_, rfl⟩
        have HM2 : Hid (MW (c + 1) = if wtN f n < MW c then wtN f n else MW c) := by
          show _ = _
          rw [HMc.out, hf]
          by_cases h : wtN f n < MW c
          · rw [if_pos h, if_pos ⟨by omega, rfl, h⟩]
          · rw [if_neg h, if_neg (fun g => h g.2.2)]
        have HWL : Hid (∀ j, wtN f j ≤ j) := fun j => wtN_le f j
        have HWS : Hid (∀ j, wtN f (j + 1) = wtN f j + (if f j ≠ 0 then 1 else 0)) := fun j => rfl
        have HW0 : Hid (wtN f 0 = 0) := rfl
        obtain ⟨wt, hwt⟩ : ∃ wt, wtN f = wt := ⟨_, rfl⟩
        rw [hwt] at HM2 HWL HWS HW0
        obtain ⟨d, hd⟩ : ∃ d, MW c = d := ⟨_, rfl⟩
        rw [hd] at hMc HM2 ⊢
        clear hd HMc hwt
        have hO : Calls Tryd.prog 17 #[.agg #[.int .i64 p, .int .i64 k, .slice ao k cap], .int .i64 n, .int .i64 c] wr fun e w' => ∃ g cap', e = .returned (.slice (some ⟨g, 0, none⟩) n cap') ∧ OwnF wr w' g n cap' (fun i => ((f i : Nat) : Int)) := by
          have := HO.out; subst hf; exact this
        have HO2 := Lib.hid hO
        clear hf hO HO
        go_wp2_with fail
        refine Calls.mono HO2.out ?_
        rintro e w7 ⟨g7, c7, rfl, hof⟩
        have OF := Lib.hid hof
        have HX7 := Lib.hid (HX.out.trans hof.ext)
        clear k6 k7 hof
        go_wp2
        go_loopg [18, 19] n (fun r x y wx => ∃ j : Nat, j + r = n ∧ y = .int .i64 j ∧ x = .int .i64 (wt j : Nat) ∧ Ext w7 wx)
        case atStart => exact ⟨0, by omega, rfl, by rw [HW0.out]; go_num, Ext.refl _⟩
        case round =>
          obtain ⟨j, hjn, rfl, rfl, hx⟩ := hrel
          have HX8 := Lib.hid hx
          have HX9 := Lib.hid (HX7.out.trans hx)
          have hwj := HWL.out j
          clear hx
          cases gk with
          | zero =>
            obtain rfl : n = j := by omega
            obtain ⟨x, hx⟩ : ∃ x, wt n = x := ⟨_, rfl⟩
            rw [hx] at hwj HM2 ⊢
            clear hx HWS HW0 HWL
            by_cases hlt : x < d
            · have hlt' : (x : Int) < d := by omega
              rw [if_pos hlt] at HM2
              clear hlt
              go_wp2
              go_roundg r1
              case measure => omega
              case rel => exact ⟨c + 1, by omega, by omega, by go_num, by rw [HM2.out], HX9.out⟩
            · have hlt' : ¬ (x : Int) < d := by omega
              rw [if_neg hlt] at HM2
              clear hlt
              go_wp2
              go_roundg r1
              case measure => omega
              case rel => exact ⟨c + 1, by omega, by omega, by go_num, by rw [HM2.out], HX9.out⟩
          | succ r2 =>
            have hjl : (j : Int) < (n : Int) := by omega
            have hjl' : j < n := by omega
            have k8 := (OF.out.carry HX8.out).at hjl'
            have HWj := Lib.hid (HWS.out j)
            obtain ⟨fj, hfj⟩ : ∃ fj, f j = fj := ⟨_, rfl⟩
            have k9 : wr.cell? ⟨g7, j, none⟩ = some (.int .i64 (fj : Nat)) := by rw [← hfj]; exact k8
            rw [hfj] at HWj
            clear k8 hfj
            by_cases h0 : fj = 0
            · rw [if_neg (fun h => h h0)] at HWj
              have b1 : ((fj : Int) != 0) = false := by rw [h0]; rfl
              obtain ⟨x, hx⟩ : ∃ x, wt j = x := ⟨_, rfl⟩
              rw [hx] at hwj HWj ⊢
              clear hx h0
              go_wp2
              go_roundg r2
              case measure => omega
              case rel => exact ⟨j + 1, by omega, by go_num, by rw [HWj.out, Nat.add_zero], HX8.out⟩
            · rw [if_pos h0] at HWj
              have b1 : ((fj : Int) != 0) = true := by rw [bne_iff_ne]; omega
              obtain ⟨x, hx⟩ : ∃ x, wt j = x := ⟨_, rfl⟩
              rw [hx] at hwj HWj ⊢
              clear hx h0
              go_wp2
              go_roundg r2
              case measure => omega
              case rel => exact ⟨j + 1, by omega, by go_num, by rw [HWj.out]; go_num, HX8.out⟩
end

/-- ArrayDual at any input. -/
theorem arrayDual_any (p k : Int) (ao : Option Addr) (len cap : Nat) (low : List Int) {w : World} (hf : IntsArg w ao len cap low) (n : Int) (_ : -9223372036854775808 ≤ n ∧ n ≤ 9223372036854775807)
    (bo : Option Addr) (m mc : Nat) (xss : List (List Int)) (hx : ListsArg w bo m mc xss) (hP : Primes w) :
    Calls Tryd.prog 4 #[.agg #[.int .i64 p, .int .i64 k, .slice ao len cap], .int .i64 n, .slice bo m mc] w fun e w' => e = .returned (.bool true) ∧ Below w.heap.size w w' := by
  obtain rfl := hx.len
  by_cases h0 : withAll p k low n [(bo, mc, xss)] = 0
  · obtain ⟨P, K, N, rfl, rfl, rfl, hR, hq⟩ := withAll_is h0
    haveI : FldP P K low := ⟨hR.fld⟩
    obtain rfl : len = K := by rw [← hf.len]; exact hR.fld.len
    have hq : rowsFault (P ^ len) N xss = 0 := hq (bo, mc, xss) (by simp)
    by_cases h : 128 < (codeRows (P ^ len) N (linT N (vecs (p := P) (k := len) (low := low) xss)) ((P ^ len) ^ N)).length
    · refine (dual_no P len ao bo len cap xss.length mc N w 3 (by decide) fun W hW => ?_).mono fun e w' h => ⟨h.1, h.2⟩
      refine (linear_rows N ao bo cap mc xss W (hP.ext hW) hR (hW.reads hf.reads) (hx.reads.ext hW) hq 3 [] (.inl ⟨h, rfl, rfl⟩)).mono ?_
      rintro e w' ⟨oo, on, oc, rfl, _, _, h2⟩
      exact ⟨oo, on, oc, rfl, h2⟩
    · exact (dual_ok N ao bo cap mc xss w hP hR hf.reads hx.reads hq (by omega)).mono fun e w' h => ⟨h.1, h.2⟩
  · refine (dual_no p k ao bo len cap xss.length mc n w _ h0 fun W h => ?_).mono fun e w' h => ⟨h.1, h.2⟩
    exact (linear_no p k ao bo len cap mc low n xss W (hP.ext h) hf.len (h.reads hf.reads) hx.big (hx.reads.ext h) h0).mono fun e w' ⟨h1, h2⟩ => ⟨none, 0, 0, h1, h2⟩

end Go.Proofs.YtnhdngnolepkcaaDoor
