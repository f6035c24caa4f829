/- What is known of a field that comes in as an argument. No conditions. -/
import Derived.Test.YthkafhmciapipaaDoorJSpaceBasesBJ
import Derived.Lib.SmallJoins
import Derived.Test.YthkafhmciapipaaDoorJSpaceBasesAG
import Derived.Deep.Matrix
import Derived.Test.YthkafhmciapipaaDoorJSpaceBasesBI
namespace Go.Proofs.YthkafhmciapipaaDoor
open Go.ChangeShapes Go.WideShapes Go.ChangeAt Go.RowKit Go.Joins

theorem open_fieldArg {H : Type} {enc : TypeId × Value → H} {W : World} {base : Nat} {v : Value} {d : DataW H} {p : List MemPlace}
    (hv : Value.okWide Tryd.prog W .any base 29 v) (h : DataW.Trod enc Tryd.prog W 0 (fun _ => true) true 29 v d p) :
    ∃ (m k : Int) (ao : Option Addr) (n cap : Nat) (xs : List Int), v = .agg #[.int .i64 m, .int .i64 k, .slice ao n cap] ∧ IntsArg W ao n cap xs := by
  obtain ⟨c0, c1, c2, y0, y1, y2, m, rfl, rfl, rfl, h0, h1, h2⟩ := open_agg3 Tryd.underlying29 (by kernel_rfl) (by kernel_rfl) hv h
  obtain ⟨a, e0, _, _⟩ := DataW.trod_int Tryd.underlying3 h0
  obtain ⟨b, e1, _, _⟩ := DataW.trod_int Tryd.underlying3 h1
  obtain ⟨ao, n, cap, xs, rfl, hx⟩ := intsArg_of_trod h2
  simp at e0 e1
  subst e0 e1
  exact ⟨a, b, ao, n, cap, xs, rfl, hx⟩

end Go.Proofs.YthkafhmciapipaaDoor

/- What is known of a list of lists of ints that comes in as an argument. No conditions. -/
namespace Go.Proofs.YthkafhmciapipaaDoor
open Go.ChangeShapes Go.WideShapes Go.ChangeAt Go.RowKit

/-- A list of lists that came in. -/
structure ListsArg (w : World) (ao : Option Addr) (n cap : Nat) (xss : List (List Int)) : Prop where
  len : xss.length = n
  big : n ≤ maxLen
  reads : ReadsL w ao xss
  rng : ∀ xs ∈ xss, ∀ x ∈ xs, -9223372036854775808 ≤ x ∧ x ≤ 9223372036854775807

theorem open_listsArg {H : Type} {enc : TypeId × Value → H} {W : World} {base : Nat} {v : Value} {d : DataW H} {p : List MemPlace}
    (hv : Value.okWide Tryd.prog W .any base 30 v) (h : DataW.Trod enc Tryd.prog W 0 (fun _ => true) true 30 v d p) :
    ∃ ao n cap xss, v = .slice ao n cap ∧ ListsArg W ao n cap xss := by
  obtain ⟨a0, len0, cap0, rfl⟩ := okWide_slice Tryd.underlying30 hv
  obtain ⟨fuel, hf⟩ := h
  have hf' : DataW.trod enc Tryd.prog W 0 (fun _ => true) true fuel 30 [.slice a0 len0 cap0] = some (d, p) := by simpa [Value.cells] using hf
  rcases Go.Deep.open_int_rows Tryd.underlying30 Tryd.underlying27 Tryd.underlying3 (by kernel_rfl) (by kernel_rfl) hf' with ⟨hcs, _⟩ | ⟨a, len, cap, A, L, C, Z, hcs, _, hl, hm, _, hr⟩
  · obtain ⟨rfl, rfl, rfl⟩ : a0 = none ∧ len0 = 0 ∧ cap0 = 0 := by simpa using hcs
    exact ⟨none, 0, 0, [], rfl, rfl, by decide, ReadsL.nil _ _, by simp⟩
  · obtain ⟨rfl, rfl, rfl⟩ : a0 = some a ∧ len0 = len ∧ cap0 = cap := by simpa using hcs
    have hrow : ∀ r, r < len0 → row ((List.range len0).map fun r => (Z r).take (L r)) r = (Z r).take (L r) := fun r hr' => by
      rw [row_eq _ _ (by simpa using hr')]; simp
    refine ⟨some a, len0, cap0, (List.range len0).map fun r => (Z r).take (L r), rfl, by simp, by omega, ⟨(List.range len0).map fun r => .slice (A r) (L r) (C r), reads_of_add fun i u hu => ?_, by simp, fun j v hv => ?_⟩, fun xs hxs x hx => ?_⟩
    · have hi : i < len0 := by have := (List.getElem?_eq_some_iff.1 hu).1; simpa using this
      rw [(hr i (by omega)).1, ← hu]
      simp [hi]
    · have hj : j < len0 := by have := (List.getElem?_eq_some_iff.1 hv).1; simpa using this
      obtain ⟨h1, h2, h3, h4, h5, h6, h7⟩ := hr j (by omega)
      rw [hrow j hj]
      have hlen : ((Z j).take (L j)).length = L j := by simp; omega
      refine ⟨A j, C j, by rw [hlen]; simpa [hj] using hv.symm, ?_, by rw [hlen]; omega⟩
      rcases hA : A j with _ | a'
      · have := h6 hA
        have h0 : L j = 0 := by omega
        rw [h0]; exact .inl rfl
      · refine reads_of_add fun i u hu => ?_
        have hi : i < L j := by have := (List.getElem?_eq_some_iff.1 hu).1; simp [ints] at this; omega
        rw [(h7 a' hA).2 i (by omega), ← hu]
        simp [ints, hi, List.getElem?_eq_getElem (show i < (Z j).length by omega)]
    · obtain ⟨r, hr1, rfl⟩ := List.mem_map.1 hxs
      obtain ⟨h1, h2, h3, h4, h5, h6, h7⟩ := hr r (by have := List.mem_range.1 hr1; omega)
      exact rng_of_wf (h5 x (List.mem_of_mem_take hx))

end Go.Proofs.YthkafhmciapipaaDoor

/- What SpaceBases returns. Condition: primes. -/
namespace Go.Proofs.YthkafhmciapipaaDoor
open Go.RowKit
set_option linter.unusedVariables false
set_option linter.unusedSectionVars false

set_option maxHeartbeats 4000000 in
theorem bases_no (p k : Int) (ao bo vo : Option Addr) (len cap m mc vl vc : Nat) (n : Int) (w : World) (c0 c : Int) (hc : c ≠ 0) (h0 : c0 = c ∨ c0 = 0)
    (hroom : ∀ W, Ext w W → Calls Tryd.prog 10 #[.agg #[.int .i64 p, .int .i64 k, .slice ao len cap], .int .i64 n] W fun e w' => e = .returned (.int .i64 c0) ∧ Ext W w')
    (hrows : c0 = 0 → ∀ W, Ext w W → Calls Tryd.prog 11 #[.agg #[.int .i64 p, .int .i64 k, .slice ao len cap], .int .i64 n, .slice bo m mc] W fun e w' => e = .returned (.int .i64 c) ∧ Ext W w')
    (hb : ∀ W, Ext w W → SaysNo 12 #[.agg #[.int .i64 p, .int .i64 k, .slice ao len cap], .int .i64 n, .slice bo m mc] W c)
    (hn : ∀ W, Ext w W → SaysNo 13 #[.agg #[.int .i64 p, .int .i64 k, .slice ao len cap], .int .i64 n, .slice bo m mc] W c)
    (hh : ∀ W, Ext w W → Calls Tryd.prog 14 #[.agg #[.int .i64 p, .int .i64 k, .slice ao len cap], .int .i64 n, .slice bo m mc, .slice vo vl vc] W fun e w' => e = .returned (.tuple #[.bool false, .int .i64 c]) ∧ Ext W w') :
    Calls Tryd.prog 4 #[.agg #[.int .i64 p, .int .i64 k, .slice ao len cap], .int .i64 n, .slice bo m mc, .slice vo vl vc] w fun e w' => e = .returned (.bool true) ∧ Ext w w' := by
  have E0 := Lib.hid (ext_box w #[.int .i64 p, .int .i64 k, .slice ao len cap] 29)
  have F0 := Lib.hid (Blk.new w #[.int .i64 p, .int .i64 k, .slice ao len cap] 29)
  have k0 := F0.out.three
  have HRM := Lib.hid hroom
  have HRS := Lib.hid hrows
  have HB := Lib.hid hb
  have HN := Lib.hid hn
  have HH := Lib.hid hh
  have b1 : (c != 0) = true := by rw [bne_iff_ne]; exact hc
  have b0 : (c == 0) = false := by rw [beq_eq_false_iff_ne]; exact hc
  have HC := Lib.hid h0
  clear hroom hrows hb hn hh hc h0
  go_enter Tryd.func4, Tryd.ntmps4
  go_wp2_with fail
  refine Calls.mono (HRM.out _ E0.out) ?_
  rintro e w1 ⟨rfl, hx⟩
  have E1 := Lib.hid (E0.out.trans hx)
  have F1 := Lib.hid (F0.out.ext hx)
  have k1 := F1.out.three
  clear k0 hx
  rcases HC.out with rfl | rfl
  · go_wp2_with fail
    refine Calls.mono (HB.out w1 E1.out) ?_
    rintro e w2 ⟨rfl, hx⟩
    have E2 := Lib.hid (E1.out.trans hx)
    have F2 := Lib.hid (F1.out.ext hx)
    clear k1 hx
    have k2 := F2.out.three
    go_wp2_with fail
    refine Calls.mono (HN.out w2 E2.out) ?_
    rintro e w3 ⟨rfl, hx⟩
    have E3 := Lib.hid (E2.out.trans hx)
    have F3 := Lib.hid (F2.out.ext hx)
    clear k2 hx
    have k3 := F3.out.three
    go_wp2_with fail
    refine Calls.mono (HH.out w3 E3.out) ?_
    rintro e w4 ⟨rfl, hx⟩
    have E4 := Lib.hid (E3.out.trans hx)
    clear k3 hx
    go_wp2
    go_ret
    exact ⟨by simp, E4.out⟩
  · have HRSW := Lib.hid (HRS.out rfl w1 E1.out)
    go_wp2_with fail
    refine Calls.mono HRSW.out ?_
    rintro e w1b ⟨rfl, hx⟩
    have E1b := Lib.hid (E1.out.trans hx)
    have F1b := Lib.hid (F1.out.ext hx)
    clear k1 hx
    have k1b := F1b.out.three
    go_wp2_with fail
    refine Calls.mono (HB.out w1b E1b.out) ?_
    rintro e w2 ⟨rfl, hx⟩
    have E2 := Lib.hid (E1b.out.trans hx)
    have F2 := Lib.hid (F1b.out.ext hx)
    clear k1b hx
    have k2 := F2.out.three
    go_wp2_with fail
    refine Calls.mono (HN.out w2 E2.out) ?_
    rintro e w3 ⟨rfl, hx⟩
    have E3 := Lib.hid (E2.out.trans hx)
    have F3 := Lib.hid (F2.out.ext hx)
    clear k2 hx
    have k3 := F3.out.three
    go_wp2_with fail
    refine Calls.mono (HH.out w3 E3.out) ?_
    rintro e w4 ⟨rfl, hx⟩
    have E4 := Lib.hid (E3.out.trans hx)
    clear k3 hx
    go_wp2
    go_ret
    exact ⟨by simp, E4.out⟩

section
variable {p k : Nat} {low : List Int} [hI : FldP p k low]

/-- What Has answers where the room is right: the row's fault, or whether it lies there. -/
def HasIs (p k n : Nat) (low : List Int) [FldP p k low] (xss : List (List Int)) (v : List Int) (b : Bool) (c : Int) : Prop :=
  (rowFault (p ^ k) n v ≠ 0 → b = false ∧ c = rowFault (p ^ k) n v) ∧ (rowFault (p ^ k) n v = 0 → c = 0 ∧ (b = true ↔ Span (vecs (p := p) (k := k) (low := low) xss) (vec1 v)))

/-- The number of a row of ints. -/
theorem shut_vec1 {n : Nat} {v : List Int} (hl : v.length = n) (hv : ∀ x, x ∈ v → 0 ≤ x ∧ x < (p ^ k : Nat)) : shutN (p ^ k) n (fun j => (nth v j).toNat) < (p ^ k) ^ n ∧ vOf n (shutN (p ^ k) n (fun j => (nth v j).toNat)) = vec1 (p := p) (k := k) (low := low) v ∧ tab (fun j => (((nth v j).toNat : Nat) : Int)) n = v := by
  have hb : ∀ j, j < n → 0 ≤ nth v j ∧ nth v j < (p ^ k : Nat) := fun j hj => hv _ (nth_mem v j (by omega))
  have hn : ∀ j, (nth v j).toNat < p ^ k := fun j => by
    by_cases hj : j < n
    · have := hb j hj; omega
    · rw [nth_beyond _ _ (by omega)]; exact qpos low
  have e : cOf n (vec1 (p := p) (k := k) (low := low) v) = shutN (p ^ k) n (fun j => (nth v j).toNat) := by
    unfold cOf vec1
    rw [toN_vecOf hn]
  rw [← e]
  refine ⟨cOf_lt n _, vOf_cOf fun j hj => El.ext' ?_, ?_⟩
  · show (nth v j).toNat % p ^ k = 0
    rw [nth_beyond _ _ (by omega)]; exact Nat.zero_mod _
  · refine nth_ext _ _ (by rw [tab_length, hl]) fun j hj => ?_
    rw [tab_length] at hj
    rw [nth_tab _ _ _ hj]
    have := hb j hj
    omega

set_option maxHeartbeats 8000000 in
set_option maxRecDepth 100000 in
theorem bases_ok (n : Nat) (ao bo vo : Option Addr) (cap mc vl vc : Nat) (xss : List (List Int)) (v : List Int) (w : World) (hP : Primes w) (hR : IsRoom p k low n) (hr : Reads w ao (ints low)) (hx : ReadsL w bo xss) (hq : rowsFault (p ^ k) n xss = 0) (hvl : v.length = vl) (hvb : vl ≤ maxLen) (hv : Reads w vo (ints v)) :
    Calls Tryd.prog 4 #[.agg #[.int .i64 p, .int .i64 k, .slice ao k cap], .int .i64 n, .slice bo xss.length mc, .slice vo vl vc] w fun e w' => e = .returned (.bool true) ∧ Ext w w' := by
  have hbig := (rowsFault_zero hq).1
  have hn6 := hR.n6
  have E0 := Lib.hid (ext_box w #[.int .i64 p, .int .i64 k, .slice ao k cap] 29)
  have F0 := Lib.hid (Blk.new w #[.int .i64 p, .int .i64 k, .slice ao k cap] 29)
  have k0 := F0.out.three
  have HRM : Hid (∀ W, Ext w W → _) := fun W (h : Ext w W) => refRoomFault_any p k ao k cap low n W hR.fld.len (h.reads hr)
  rw [hR.fault] at HRM
  have HRS : Hid (∀ W, Ext w W → _) := fun W (h : Ext w W) => refRowsFault_any p k n ao bo k cap xss.length mc low xss W hR.fld hn6 rfl (by unfold maxLen; omega) (hx.ext h)
  rw [hq] at HRS
  have HB : Hid (∀ W, Ext w W → _) := fun W (h : Ext w W) => spBasis_ok (p := p) (k := k) (low := low) n ao bo cap mc xss W (hP.ext h) hR (h.reads hr) (hx.ext h) hq
  have HN : Hid (∀ W, Ext w W → _) := fun W (h : Ext w W) => spNormal_ok (p := p) (k := k) (low := low) n ao bo cap mc xss W (hP.ext h) hR (h.reads hr) (hx.ext h) hq
  have HH : Hid (∀ W, Ext w W → Calls Tryd.prog 14 #[.agg #[.int .i64 p, .int .i64 k, .slice ao k cap], .int .i64 n, .slice bo xss.length mc, .slice vo vl vc] W fun e w' => ∃ (b : Bool) (c : Int), e = .returned (.tuple #[.bool b, .int .i64 c]) ∧ HasIs p k n low xss v b c ∧ Ext W w') := fun W h => by
    by_cases hf : rowFault (p ^ k) n v = 0
    · subst hvl
      refine (spHas_ok p k n low ao bo vo cap mc vc xss v W (hP.ext h) hR (h.reads hr) (hx.ext h) hq (h.reads hv) hf).mono ?_
      rintro e w' ⟨b, rfl, hb, hx'⟩
      exact ⟨b, 0, rfl, ⟨fun h => absurd hf h, fun _ => ⟨rfl, hb⟩⟩, hx'⟩
    · refine (spHas_row p k n ao bo vo cap mc vl vc low xss v W (hP.ext h) hR (h.reads hr) (hx.ext h) hq hvl hvb (h.reads hv) hf).mono ?_
      rintro e w' ⟨rfl, hx'⟩
      exact ⟨false, _, rfl, ⟨fun _ => ⟨rfl, rfl⟩, fun h => absurd h hf⟩, hx'⟩
  have HS : Hid (∀ W, Ext w W → _) := fun W (h : Ext w W) => span_ref (p := p) (k := k) (low := low) n xss.length ao bo cap mc (vecs xss) W hR (h.reads hr) (vecs_zero hq) (vecs_length xss) (by omega) (by rw [vecs_rows hq]; exact hx.ext h)
  have HT : Hid (∀ W, Ext w W → _) := fun W (h : Ext w W) => normalTo_ref (p := p) (k := k) (low := low) n xss.length ao bo cap mc (vecs xss) W hR (h.reads hr) (vecs_length xss) (by omega) (by rw [vecs_rows hq]; exact hx.ext h)
  have HBO : Hid (∀ uo tcap (T : Nat → Bool) (S : (Nat → El p k low) → Prop) ys W, Reads W uo (boolL T ((p ^ k) ^ n)) → Marks n T S → BasisI n ys S → _) := fun uo tcap T S ys W h1 h2 h3 => basisOf_ref (p := p) (k := k) (low := low) n ao uo cap tcap T S ys W hR h1 h2 h3
  have HRF : Hid (∀ W, Ext w W → _) := fun W (h : Ext w W) => refRowFault_any p k n ao vo k cap vl vc low v W hR.fld hn6 hvl hvb (h.reads hv)
  have HSH : Hid (rowFault (p ^ k) n v = 0 → vl = n ∧ ∃ c, c < (p ^ k) ^ n ∧ vOf n c = vec1 (p := p) (k := k) (low := low) v ∧ ∀ W, Ext w W → Calls Tryd.prog 20 #[.agg #[.int .i64 p, .int .i64 k, .slice ao k cap], .slice vo vl vc] W fun e w' => e = .returned (.int .i64 (c : Nat)) ∧ Ext W w') := fun hf => by
    have h1 := (rowsFault_zero (rowsFault_one hf)).2 v (by simp)
    obtain ⟨h2, h3, h4⟩ := shut_vec1 (p := p) (k := k) (low := low) h1.1 h1.2
    obtain rfl : vl = n := by rw [← hvl]; exact h1.1
    refine ⟨rfl, _, h2, h3, fun W h => ?_⟩
    refine shutOf_any p k vl ao vo k cap vc low _ W hR.fld hn6 hR.big (fun j hj => ?_) (by rw [h4]; exact h.reads hv)
    have := h1.2 _ (nth_mem v j (by omega))
    omega
  have HRFB : Hid (rowFault (p ^ k) n v = 0 ∨ rowFault (p ^ k) n v ≠ 0) := by
    by_cases h : rowFault (p ^ k) n v = 0
    · exact .inl h
    · exact .inr h
  have hNb := hR.big
  have hNp : 0 < (p ^ k) ^ n := Nat.pow_pos (qpos low)
  obtain ⟨q, hq'⟩ : ∃ q, p ^ k = q := ⟨_, rfl⟩
  obtain ⟨N, hN⟩ : ∃ N, (p ^ k) ^ n = N := ⟨_, rfl⟩
  rw [hN] at HS HT HBO HSH hNb hNp
  have HNN := Lib.hid hN
  obtain ⟨rf, hrf⟩ : ∃ rf, rowFault (p ^ k) n v = rf := ⟨_, rfl⟩
  unfold HasIs at HH
  rw [hrf] at HRF HRFB HSH HH
  obtain ⟨V, hV⟩ : ∃ V, vecs (p := p) (k := k) (low := low) xss = V := ⟨_, rfl⟩
  rw [hV] at HB HN HH HS HT
  obtain ⟨m, hm⟩ : ∃ m, xss.length = m := ⟨_, rfl⟩
  rw [hm] at HRS HB HN HH HS HT hbig ⊢
  clear hP hR hr hx hq hvl hvb hv hrf hV hm hN hq'
  go_enter Tryd.func4, Tryd.ntmps4
  go_wp2_with fail
  refine Calls.mono (HRM.out _ E0.out) ?_
  rintro e w1 ⟨rfl, hx⟩
  have E1 := Lib.hid (E0.out.trans hx)
  have F1 := Lib.hid (F0.out.ext hx)
  clear k0 hx
  have k1 := F1.out.three
  go_wp2_with fail
  refine Calls.mono (HRS.out w1 E1.out) ?_
  rintro e w2 ⟨rfl, hx⟩
  have E2 := Lib.hid (E1.out.trans hx)
  have F2 := Lib.hid (F1.out.ext hx)
  clear k1 hx
  have k2 := F2.out.three
  -- Basis
  go_wp2_with fail
  refine Calls.mono (HB.out w2 E2.out) ?_
  rintro e w3 ⟨b3, l3, c3, bs, rfl, hbl, hbr, hbb, hx⟩
  have E3 := Lib.hid (E2.out.trans hx)
  have F3 := Lib.hid (F2.out.ext hx)
  have BB := Lib.hid hbb
  have BR := Lib.hid hbr
  have BL := Lib.hid hbl
  clear k2 hx hbb hbr hbl
  have k3 := F3.out.three
  -- Normal
  go_wp2_with fail
  refine Calls.mono (HN.out w3 E3.out) ?_
  rintro e w4 ⟨b4, l4, c4, ms, rfl, hml, hmr, hmb, hx⟩
  have E4 := Lib.hid (E3.out.trans hx)
  have F4 := Lib.hid (F3.out.ext hx)
  have MB := Lib.hid hmb
  have MR := Lib.hid hmr
  have ML := Lib.hid hml
  have BR4 := Lib.hid (BR.out.ext hx)
  clear k3 hx hmb hmr hml
  have k4 := F4.out.three
  -- Has
  go_wp2_with fail
  refine Calls.mono (HH.out w4 E4.out) ?_
  rintro e w5 ⟨is, ic, rfl, hhas, hx⟩
  have E5 := Lib.hid (E4.out.trans hx)
  have F5 := Lib.hid (F4.out.ext hx)
  have HAS := Lib.hid hhas
  have BR5 := Lib.hid (BR4.out.ext hx)
  have MR5 := Lib.hid (MR.out.ext hx)
  clear k4 hx hhas
  have k5 := F5.out.three
  -- Span
  go_wp2_with fail
  refine Calls.mono (HS.out w5 E5.out) ?_
  rintro e w6 ⟨g6, T1, rfl, ht, hmk⟩
  have E6 := Lib.hid (E5.out.trans ht.ext)
  have F6 := Lib.hid (F5.out.ext ht.ext)
  have TB := Lib.hid ht
  have TM := Lib.hid hmk
  have BR6 := Lib.hid (BR5.out.ext ht.ext)
  have MR6 := Lib.hid (MR5.out.ext ht.ext)
  have HB6 := Lib.hid (HBO.out (some ⟨g6, 0, none⟩) N T1 _ bs w6 ht.reads hmk BB.out)
  rw [BL.out] at HB6
  clear k5 ht hmk
  have k6 := F6.out.three
  -- BasisOf
  go_wp2_with fail
  refine Calls.mono HB6.out ?_
  rintro e w7 ⟨b7, c7, rfl, hrd, hx⟩
  have E7 := Lib.hid (E6.out.trans hx)
  have F7 := Lib.hid (F6.out.ext hx)
  have TB7 := Lib.hid (TB.out.carry hx)
  have MR7 := Lib.hid (MR6.out.ext hx)
  have hbn := BB.out.len
  rw [BL.out] at hbn
  have LL := Lib.hid (lists_any b3 b7 l3 l3 c3 c7 bs bs w7 BL.out BL.out (by unfold maxLen; omega) (by unfold maxLen; omega) (BR6.out.ext hx) hrd)
  rw [decide_eq_true rfl] at LL
  clear k6 hx hrd
  go_wp2_with fail
  refine Calls.mono LL.out ?_
  rintro e w8 ⟨rfl, hd⟩
  have E8 := Lib.hid (E7.out.drawn hd)
  have F8 := Lib.hid (F7.out.drawn hd)
  have TB8 := Lib.hid (TB7.out.carry hd.ext)
  have MR8 := Lib.hid (MR7.out.ext hd.ext)
  clear hd
  have k8 := F8.out.three
  -- NormalTo
  go_wp2_with fail
  refine Calls.mono (HT.out w8 E8.out) ?_
  rintro e w9 ⟨g9, T2, rfl, ht, hmk⟩
  have E9 := Lib.hid (E8.out.trans ht.ext)
  have F9 := Lib.hid (F8.out.ext ht.ext)
  have TB9 := Lib.hid (TB8.out.carry ht.ext)
  have MR9 := Lib.hid (MR8.out.ext ht.ext)
  have HB9 := Lib.hid (HBO.out (some ⟨g9, 0, none⟩) N T2 _ ms w9 ht.reads hmk MB.out)
  rw [ML.out] at HB9
  clear k8 ht hmk
  have k9 := F9.out.three
  go_wp2_with fail
  refine Calls.mono HB9.out ?_
  rintro e wa ⟨ba, ca, rfl, hrd, hx⟩
  have Ea := Lib.hid (E9.out.trans hx)
  have Fa := Lib.hid (F9.out.ext hx)
  have TBa := Lib.hid (TB9.out.carry hx)
  have hmn := MB.out.len
  rw [ML.out] at hmn
  have LL2 := Lib.hid (lists_any b4 ba l4 l4 c4 ca ms ms wa ML.out ML.out (by unfold maxLen; omega) (by unfold maxLen; omega) (MR9.out.ext hx) hrd)
  rw [decide_eq_true rfl] at LL2
  clear k9 hx hrd
  go_wp2_with fail
  refine Calls.mono LL2.out ?_
  rintro e wb ⟨rfl, hd⟩
  have Eb := Lib.hid (Ea.out.drawn hd)
  have Fb := Lib.hid (Fa.out.drawn hd)
  have TBb := Lib.hid (TBa.out.carry hd.ext)
  clear hd
  have kb := Fb.out.three
  -- RowFault
  go_wp2_with fail
  refine Calls.mono (HRF.out wb Eb.out) ?_
  rintro e wc ⟨rfl, hx⟩
  have Ec := Lib.hid (Eb.out.trans hx)
  have Fc := Lib.hid (Fb.out.ext hx)
  have TBc := Lib.hid (TBb.out.carry hx)
  clear kb hx
  have kc := Fc.out.three
  rcases HRFB.out with h0 | h0
  · obtain ⟨hic, hiff⟩ := HAS.out.2 h0
    obtain ⟨-, cs, hcN, hcv, hsh⟩ := HSH.out h0
    have HSHW := Lib.hid (hsh wc Ec.out)
    have hm1 := TM.out cs (by rw [HNN.out]; exact hcN)
    rw [hcv] at hm1
    have HEQ : Hid (is = T1 cs) := by
      show _ = _
      rw [Bool.eq_iff_iff, hiff, hm1]
    subst h0 hic
    clear hiff hcv hsh hm1
    go_wp2_with fail
    refine Calls.mono HSHW.out ?_
    rintro e wd ⟨rfl, hx⟩
    have Ed := Lib.hid (Ec.out.trans hx)
    have TBd := Lib.hid (TBc.out.carry hx)
    have kd := TBd.out.cellAt hcN
    rw [← HEQ.out] at kd
    clear hx kc
    go_wp2
    go_ret
    exact ⟨by simp, Ed.out⟩
  · obtain ⟨rfl, rfl⟩ := HAS.out.1 h0
    have b1 : (ic != 0) = true := by rw [bne_iff_ne]; exact h0
    clear h0 kc
    go_wp2
    go_ret
    exact ⟨by simp, Ec.out⟩
end

/-- SpaceBases at any input. -/
theorem spaceBases_any (p k : Int) (ao : Option Addr) (len cap : Nat) (low : List Int) {w : World} (hf : IntsArg w ao len cap low) (n : Int) (_ : -9223372036854775808 ≤ n ∧ n ≤ 9223372036854775807)
    (bo : Option Addr) (m mc : Nat) (xss : List (List Int)) (hx : ListsArg w bo m mc xss) (vo : Option Addr) (vl vc : Nat) (v : List Int) (hv : IntsArg w vo vl vc v) (hP : Primes w) :
    Calls Tryd.prog 4 #[.agg #[.int .i64 p, .int .i64 k, .slice ao len cap], .int .i64 n, .slice bo m mc, .slice vo vl vc] w fun e w' => e = .returned (.bool true) ∧ Below w.heap.size w w' := by
  obtain rfl := hx.len
  by_cases h0 : withAll p k low n [(bo, mc, xss)] = 0
  · obtain ⟨P, K, N, rfl, rfl, rfl, hR, hq⟩ := withAll_is h0
    haveI : FldP P K low := ⟨hR.fld⟩
    obtain rfl : len = K := by rw [← hf.len]; exact hR.fld.len
    exact bases_ok (p := P) (k := len) (low := low) N ao bo vo cap mc vl vc xss v w hP hR hf.reads hx.reads (hq (bo, mc, xss) (by simp)) hv.len hv.big hv.reads
  · have hb := fun W (h : Ext w W) => spBasis_no p k ao bo len cap mc low n xss W (hP.ext h) hf.len (h.reads hf.reads) hx.big (hx.reads.ext h) h0
    have hn := fun W (h : Ext w W) => spNormal_no p k ao bo len cap mc low n xss W (hP.ext h) hf.len (h.reads hf.reads) hx.big (hx.reads.ext h) h0
    have hh := fun W (h : Ext w W) => spHas_no p k ao bo vo len cap mc vl vc low n xss W (hP.ext h) hf.len (h.reads hf.reads) hx.big (hx.reads.ext h) h0
    have hroom := fun W (h : Ext w W) => refRoomFault_any p k ao len cap low n W hf.len (h.reads hf.reads)
    by_cases hr : roomFault p k low n = 0
    · obtain ⟨P, K, N, rfl, rfl, rfl, hR⟩ := roomFault_zero hr
      have hrows := fun W (h : Ext w W) => refRowsFault_any P K N ao bo len cap xss.length mc low xss W hR.fld hR.n6 rfl hx.big (hx.reads.ext h)
      have he : withAll P K low N [(bo, mc, xss)] = rowsFault (P ^ K) N xss := by
        unfold withAll
        rw [if_neg (fun h => h hR.fault), hR.fld.fault.2]
        show allFault (P ^ K) N [(bo, mc, xss)] = _
        unfold allFault
        by_cases h2 : rowsFault (P ^ K) N xss = 0
        · rw [if_neg (fun h => h h2), h2]; rfl
        · rw [if_pos h2]
      rw [he] at hb hn hh h0
      rw [hr] at hroom
      exact bases_no P K ao bo vo len cap xss.length mc vl vc N w 0 _ h0 (.inr rfl) hroom (fun _ => hrows) hb hn hh
    · have he : withAll p k low n [(bo, mc, xss)] = roomFault p k low n := by unfold withAll; rw [if_pos hr]
      rw [he] at hb hn hh h0
      exact bases_no p k ao bo vo len cap xss.length mc vl vc n w _ _ h0 (.inl rfl) hroom (fun h => absurd h hr) hb hn hh

end Go.Proofs.YthkafhmciapipaaDoor
