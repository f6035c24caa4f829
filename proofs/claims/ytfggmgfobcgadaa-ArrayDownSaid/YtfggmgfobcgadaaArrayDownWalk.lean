/- What ArrayDown returns. -/
import Derived.Test.YtfggmgfobcgadaaDownLaw
import Derived.Test.YtfggmgfobcgadaaArrayFact
import Derived.Test.YtfggmgfobcgadaaArrayPartsWalk
namespace Go.Proofs.Ytfggmgfobcgadaa
open Go.RowKit Go.Maps

set_option maxHeartbeats 2000000 in
theorem arrayDown_bad (s : Int) (ao : Option Addr) (n cap : Nat) (xss : List (List Int)) (col lv c : Int) (w : World) (hl : xss.length = n) (hbig : n ≤ maxLen) (hr : ReadsL w ao xss) (hc : RunsAre s xss c) (h0 : c ≠ 0) :
    Calls Try.prog 7 #[.int .i64 s, .slice ao n cap, .int .i64 col, .int .i64 lv] w fun e w' => e = .returned (.bool true) ∧ Ext w w' := by
  have H1 : Hid (∀ w', Ext w w' → Calls Try.prog 18 #[.int .i64 s, .slice ao n cap] w' fun e w'' => e = .returned (.tuple #[.int .i64 0, .int .i64 c]) ∧ Ext w' w'') := fun w' hx => strength_bad s ao n cap xss c w' hl hbig (hr.ext hx) hc h0
  have b1 : (c != 0) = true := by rw [bne_iff_ne]; exact h0
  clear hl hr hc h0
  go_enter Try.func7, Try.ntmps7
  go_wp2_with fail
  refine Calls.mono (arrayFact_ok _) ?_
  rintro e w1 ⟨rfl, hx1⟩
  go_wp2_with fail
  refine Calls.mono (H1.out _ hx1) ?_
  rintro e w2 ⟨rfl, hx2⟩
  go_wp2
  go_ret
  exact ⟨by simp, hx1.trans hx2⟩

set_option maxHeartbeats 2000000 in
theorem arrayDown_col (S : Nat) (ao : Option Addr) (n cap : Nat) (xss : List (List Int)) (col lv c : Int) (w : World) (hl : xss.length = n) (hbig : n ≤ maxLen) (hr : ReadsL w ao xss) (hz : RunsAre S xss 0) (hp : PartIs S xss col c) (h0 : c ≠ 0) :
    Calls Try.prog 7 #[.int .i64 S, .slice ao n cap, .int .i64 col, .int .i64 lv] w fun e w' => e = .returned (.bool true) ∧ Ext w w' := by
  have H1 : Hid (∀ w', Ext w w' → Calls Try.prog 18 #[.int .i64 S, .slice ao n cap] w' fun e w'' => ∃ t : Nat, e = .returned (.tuple #[.int .i64 t, .int .i64 0]) ∧ StrengthIs S xss t ∧ Ext w' w'') := fun w' hx => strength_ok S ao n cap xss w' hl hbig (hr.ext hx) hz
  have H2 : Hid (∀ w', Ext w w' → Calls Try.prog 12 #[.int .i64 S, .slice ao n cap, .int .i64 col] w' fun e w'' => e = .returned (.tuple #[.slice none 0 0, .int .i64 c]) ∧ Ext w' w'') := fun w' hx => drop_bad S ao n cap xss col c w' hl hbig (hr.ext hx) hp h0
  have b1 : (c != 0) = true := by rw [bne_iff_ne]; exact h0
  obtain ⟨b, off, a0, q0, rfl, hb, hc0⟩ := hz.zero.first hr
  have h1n := hz.zero.n1
  have h128 := hz.zero.n128
  rw [hl] at h1n h128
  obtain ⟨k, hk⟩ : ∃ k, (row xss 0).length = k := ⟨_, rfl⟩
  have hk8 := hz.zero.k8
  rw [hk] at hc0 hk8
  clear hl hr hz hp h0 hk
  go_enter Try.func7, Try.ntmps7
  go_wp2_with fail
  refine Calls.mono (arrayFact_ok _) ?_
  rintro e w1 ⟨rfl, hx1⟩
  go_wp2_with fail
  refine Calls.mono (H1.out _ hx1) ?_
  rintro e w2 ⟨t, rfl, _, hx2⟩
  have hx := hx1.trans hx2
  have c1 := (hx.cell hb).trans hc0
  go_wp2_with fail
  refine Calls.mono (H2.out _ hx) ?_
  rintro e w3 ⟨rfl, hx3⟩
  have HX := Lib.hid (hx.trans hx3)
  clear hx hx1 hx2 hx3
  go_wp2
  go_ret
  exact ⟨by simp, HX.out⟩

/-- The answer of Strength at runs that the call has made. -/
theorem strength_own {S : Nat} {w0 w1 : World} {v : Value} {yss : List (List Int)} (ht : OwnTbl w0 w1 v yss) (hz : RunsAre S yss 0) (hbig : yss.length ≤ maxLen) :
    Calls Try.prog 18 #[.int .i64 S, v] w1 fun e w' => ∃ t : Nat, e = .returned (.tuple #[.int .i64 t, .int .i64 0]) ∧ StrengthIs S yss t ∧ Ext w1 w' := by
  obtain ⟨ao, n, cap, rfl, ht, _⟩ := ht
  exact strength_ok S ao n cap yss w1 ht.length (by rw [← ht.length]; exact hbig) ht.readsL hz

set_option maxHeartbeats 8000000 in
set_option maxRecDepth 100000 in
theorem arrayDown_ok (S i : Nat) (ao : Option Addr) (n cap : Nat) (xss : List (List Int)) (lv : Int) (w : World) (hl : xss.length = n) (hbig : n ≤ maxLen) (hr : ReadsL w ao xss) (hz : RunsAre S xss 0) (hp : PartIs S xss i 0) (hi : i < (row xss 0).length) (h2 : 2 ≤ (row xss 0).length) :
    Calls Try.prog 7 #[.int .i64 S, .slice ao n cap, .int .i64 i, .int .i64 lv] w fun e w' => e = .returned (.bool true) ∧ Ext w w' := by
  have hR := hz.zero
  have h1n := hR.n1
  have h128 := hR.n128
  have hk8 := hR.k8
  have H1 : Hid (∀ w', Ext w w' → Calls Try.prog 18 #[.int .i64 S, .slice ao n cap] w' fun e w'' => ∃ t : Nat, e = .returned (.tuple #[.int .i64 t, .int .i64 0]) ∧ StrengthIs S xss t ∧ Ext w' w'') := fun w' hx => strength_ok S ao n cap xss w' hl hbig (hr.ext hx) hz
  have H2 : Hid (∀ w', Ext w w' → Calls Try.prog 12 #[.int .i64 S, .slice ao n cap, .int .i64 i] w' fun e w'' => ∃ v, e = .returned (.tuple #[v, .int .i64 0]) ∧ OwnTbl w' w'' v (xss.map fun r => cut r i)) := fun w' hx => by
    rw [← outs_all, hl]; exact drop_ok S i ao n cap xss w' hl hbig (hr.ext hx) hp hR hi
  have HD : Hid (∀ t u, StrengthIs S xss t → StrengthIs S (xss.map fun r => cut r i) u → t ≤ u ∨ u = (row xss 0).length - 1) := fun t u hs hu => (drop_law (u := u) hR hi h2 hs).2 hu
  have HDZ : Hid (∀ t, StrengthIs S xss t → RunsAre S (xss.map fun r => cut r i) 0) := fun t hs => (drop_law (u := 0) hR hi h2 hs).1
  have HTK : Hid (∀ t, StrengthIs S xss t → t ≤ (row xss 0).length) := fun t h => h.1
  have hml : (xss.map fun r => cut r i).length ≤ maxLen := by rw [List.length_map, hl]; exact hbig
  obtain ⟨b, off, a0, q0, rfl, hb, hc0⟩ := hR.first hr
  rw [hl] at h1n h128
  obtain ⟨k, hk⟩ : ∃ k, (row xss 0).length = k := ⟨_, rfl⟩
  rw [hk] at hc0 hk8 HD HTK
  have HMK : Hid (∀ t, StrengthIs S xss t → ∀ u, StrengthIs S (xss.map fun r => cut r i) u → u ≤ 8) := fun t hs u hu => by
    have h := hu.1
    have := (HDZ.out t hs).zero.k8
    omega
  have hk2 : 2 ≤ k := by rw [← hk]; exact h2
  by_cases hlv : lv < 0 ∨ (S : Int) ≤ lv
  · have H3 : Hid (∀ w', Ext w w' → Calls Try.prog 13 #[.int .i64 S, .slice (some ⟨b, off, none⟩) n cap, .int .i64 i, .int .i64 lv] w' fun e w'' => e = .returned (.tuple #[.slice none 0 0, .int .i64 1]) ∧ Ext w' w'') := fun w' hx => take_range S _ n cap xss i lv w' hl hbig (hr.ext hx) hp hlv
    have hcs : decide (lv < 0) = true ∨ (decide (lv < 0) = false ∧ decide ((S : Int) ≤ lv) = true) := by
      by_cases h : lv < 0
      · exact .inl (decide_eq_true h)
      · exact .inr ⟨decide_eq_false h, decide_eq_true (by omega)⟩
    have HML := Lib.hid hml
    clear hl hr hz hp hR hi h2 hlv hk hml
    rcases hcs with d1 | ⟨d1, d2⟩
    all_goals
      go_enter Try.func7, Try.ntmps7
      go_wp2_with fail
      refine Calls.mono (arrayFact_ok _) ?_
      rintro e w1 ⟨rfl, hx1⟩
      go_wp2_with fail
      refine Calls.mono (H1.out _ hx1) ?_
      rintro e w2 ⟨t, rfl, hst, hx2⟩
      have HST := Lib.hid hst
      have htk := HTK.out t hst
      have hx := hx1.trans hx2
      have c1 := (hx.cell hb).trans hc0
      go_wp2_with fail
      refine Calls.mono (H2.out _ hx) ?_
      rintro e w3 ⟨v3, rfl, ht3⟩
      have hx3 := hx.trans ht3.choose_spec.choose_spec.choose_spec.2.2
      go_wp2_with fail
      refine Calls.mono (strength_own ht3 (HDZ.out t hst) HML.out) ?_
      rintro e w4 ⟨u, rfl, hu, hx4'⟩
      have hx4 := hx3.trans hx4'
      have hdd := HD.out t u hst hu
      have hu8 := HMK.out t hst u hu
      have e8 : IntKind.i64.wrap ((k : Int) - 1) = (k : Int) - 1 := IntWalk.i64_in _ (by omega)
      have e7 : decide ((u : Int) < (t : Int)) = false ∨ (decide ((u : Int) < (t : Int)) = true ∧ decide ((u : Int) < (k : Int) - 1) = false) := by
        by_cases h : (u : Int) < (t : Int)
        · exact .inr ⟨decide_eq_true h, decide_eq_false (by omega)⟩
        · exact .inl (decide_eq_false h)
      have HUT : Hid ((¬ u < t) ∨ (u < t ∧ ¬ (u : Int) < (k : Int) - 1)) := by
        by_cases h : u < t
        · exact .inr ⟨h, by omega⟩
        · exact .inl h
      clear hdd hu hst hx hx1 hx2 hx3 hx4' ht3 c1
      rcases HUT.out with e6 | ⟨e6, e5⟩
      all_goals
        clear e7
        go_wp2_with fail
        refine Calls.mono (H3.out _ hx4) ?_
        rintro e w5 ⟨rfl, hx5⟩
        have HX := Lib.hid (hx4.trans hx5)
        clear hx4 hx5
        by_cases ht0 : t = 0
        · have e9 : ((t : Int) == 0) = true := by rw [ht0]; rfl
          clear ht0
          go_wp2
          go_ret
          exact ⟨by simp, HX.out⟩
        · have e9 : ((t : Int) == 0) = false := by rw [beq_eq_false_iff_ne]; omega
          clear ht0
          go_wp2
          go_ret
          exact ⟨by simp, HX.out⟩
  · obtain ⟨l, rfl⟩ : ∃ l : Nat, lv = l := ⟨lv.toNat, by omega⟩
    have d1 : decide ((l : Int) < 0) = false := decide_eq_false (by omega)
    have d2 : decide ((S : Int) ≤ (l : Int)) = false := decide_eq_false (by omega)
    have HTL : Hid (∀ t, StrengthIs S xss t → ((xss.filter fun r => nth r i == (l : Int)) = [] → t = 0) ∧ ((xss.filter fun r => nth r i == (l : Int)) ≠ [] → RunsAre S ((xss.filter fun r => nth r i == (l : Int)).map fun r => cut r i) 0 ∧
      ∀ u, StrengthIs S ((xss.filter fun r => nth r i == (l : Int)).map fun r => cut r i) u → t ≤ u + 1)) := fun t hs => ⟨(take_law (u := 0) hR hi h2 hs (by omega)).1, fun hne => ⟨((take_law (u := 0) hR hi h2 hs (by omega)).2 hne).1, fun u hu => ((take_law (u := u) hR hi h2 hs (by omega)).2 hne).2 hu⟩⟩
    have hfl : ((xss.filter fun r => nth r i == (l : Int)).map fun r => cut r i).length ≤ maxLen := by
      rw [List.length_map]
      exact Nat.le_trans (List.length_filter_le _ _) (by rw [hl]; exact hbig)
    have H3 : Hid (∀ w', Ext w w' → Calls Try.prog 13 #[.int .i64 S, .slice (some ⟨b, off, none⟩) n cap, .int .i64 i, .int .i64 (l : Int)] w' fun e w'' =>
      ((xss.filter fun r => nth r i == (l : Int)) = [] → e = .returned (.tuple #[.slice none 0 0, .int .i64 4]) ∧ Ext w' w'') ∧ ((xss.filter fun r => nth r i == (l : Int)) ≠ [] → ∃ v, e = .returned (.tuple #[v, .int .i64 0]) ∧ OwnTbl w' w'' v ((xss.filter fun r => nth r i == (l : Int)).map fun r => cut r i))) := fun w' hx => by
      have h := take_ok S i l _ n cap xss w' hl hbig (hr.ext hx) hp hR hi (by omega) (by omega)
      rw [← hl, outs_lev, hl] at h
      refine h.mono fun e w'' ⟨h1, h2⟩ => ⟨fun he => h1 (by rw [List.length_map, he]; rfl), fun hne => h2 (by rw [List.length_map]; exact fun h0 => hne (List.length_eq_zero_iff.1 h0))⟩
    have HML := Lib.hid hml
    have HFL := Lib.hid hfl
    clear hl hr hz hp hR hi h2 hlv hk hml hfl
    go_enter Try.func7, Try.ntmps7
    go_wp2_with fail
    refine Calls.mono (arrayFact_ok _) ?_
    rintro e w1 ⟨rfl, hx1⟩
    go_wp2_with fail
    refine Calls.mono (H1.out _ hx1) ?_
    rintro e w2 ⟨t, rfl, hst, hx2⟩
    have HST := Lib.hid hst
    have htk := HTK.out t hst
    have hx := hx1.trans hx2
    have c1 := (hx.cell hb).trans hc0
    go_wp2_with fail
    refine Calls.mono (H2.out _ hx) ?_
    rintro e w3 ⟨v3, rfl, ht3⟩
    have hx3 := hx.trans ht3.choose_spec.choose_spec.choose_spec.2.2
    go_wp2_with fail
    refine Calls.mono (strength_own ht3 (HDZ.out t hst) HML.out) ?_
    rintro e w4 ⟨u, rfl, hu, hx4'⟩
    have hx4 := hx3.trans hx4'
    have hdd := HD.out t u hst hu
    have hu8 := HMK.out t hst u hu
    have e8 : IntKind.i64.wrap ((k : Int) - 1) = (k : Int) - 1 := IntWalk.i64_in _ (by omega)
    have e7 : decide ((u : Int) < (t : Int)) = false ∨ (decide ((u : Int) < (t : Int)) = true ∧ decide ((u : Int) < (k : Int) - 1) = false) := by
      by_cases h : (u : Int) < (t : Int)
      · exact .inr ⟨decide_eq_true h, decide_eq_false (by omega)⟩
      · exact .inl (decide_eq_false h)
    have HUT : Hid ((¬ u < t) ∨ (u < t ∧ ¬ (u : Int) < (k : Int) - 1)) := by
      by_cases h : u < t
      · exact .inr ⟨h, by omega⟩
      · exact .inl h
    clear hdd hu hst hx hx1 hx2 hx3 hx4' ht3 c1
    rcases HUT.out with e6 | ⟨e6, e5⟩
    all_goals
      clear e7
      go_wp2_with fail
      refine Calls.mono (H3.out _ hx4) ?_
      rintro e w5 ⟨hn0, hn1⟩
      by_cases hemp : (xss.filter fun r => nth r i == (l : Int)) = []
      · obtain ⟨rfl, hx5⟩ := hn0 hemp
        have ht0 := (HTL.out t HST.out).1 hemp
        have e9 : ((t : Int) == 0) = true := by rw [ht0]; rfl
        have HX := Lib.hid (hx4.trans hx5)
        clear ht0 hn0 hn1 hemp hx4 hx5
        go_wp2
        go_ret
        exact ⟨by simp, HX.out⟩
      · obtain ⟨v5, rfl, ht5⟩ := hn1 hemp
        obtain ⟨hzz, hzu⟩ := (HTL.out t HST.out).2 hemp
        have hx5 : Ext w4 w5 := ht5.choose_spec.choose_spec.choose_spec.2.2
        have hu8 : ∀ u, StrengthIs S ((xss.filter fun r => nth r i == (l : Int)).map fun r => cut r i) u → u ≤ 8 := fun u hu => by
          have h := hu.1
          have := hzz.zero.k8
          omega
        go_wp2_with fail
        refine Calls.mono (strength_own ht5 hzz HFL.out) ?_
        rintro e w6 ⟨u2, rfl, hu2, hx6⟩
        have hle := hzu u2 hu2
        have hu28 := hu8 u2 hu2
        have HX := Lib.hid ((hx4.trans hx5).trans hx6)
        have e9 : decide ((t : Int) - 1 ≤ (u2 : Int)) = true := decide_eq_true (by omega)
        have e8 : IntKind.i64.wrap ((t : Int) - 1) = (t : Int) - 1 := IntWalk.i64_in _ (by omega)
        clear hn0 hn1 hemp hx4 hx5 hx6 ht5 hzz hzu hu2 hu8
        go_wp2
        go_ret
        exact ⟨by simp, HX.out⟩

theorem arrayDown_any (s : Int) (_ : -9223372036854775808 ≤ s ∧ s ≤ 9223372036854775807) (ao : Option Addr) (n cap : Nat) (xss : List (List Int)) {w : World} (hx : ListsArg w ao n cap xss) (col : Int) (_ : -9223372036854775808 ≤ col ∧ col ≤ 9223372036854775807) (lv : Int) (_ : -9223372036854775808 ≤ lv ∧ lv ≤ 9223372036854775807) :
    Calls Try.prog 7 #[.int .i64 s, .slice ao n cap, .int .i64 col, .int .i64 lv] w fun e w' => e = .returned (.bool true) ∧ Below w.heap.size w w' := by
  obtain ⟨c, hc⟩ := RunsAre.some s xss
  by_cases h0 : c = 0
  · subst h0
    have hR := hc.zero
    have hs2 := hR.s2
    obtain ⟨S, rfl⟩ : ∃ S : Nat, s = S := ⟨s.toNat, by omega⟩
    by_cases h1 : col < 0 ∨ (row xss 0).length ≤ col
    · exact arrayDown_col S ao n cap xss col lv 1 w hx.len hx.big hx.reads hc (.inr ⟨hR, .inl ⟨h1, rfl⟩⟩) (by decide)
    · by_cases h2 : (row xss 0).length = 1
      · exact arrayDown_col S ao n cap xss col lv 2 w hx.len hx.big hx.reads hc (.inr ⟨hR, .inr (.inl ⟨by omega, by omega, h2, rfl⟩)⟩) (by decide)
      · obtain ⟨i, rfl⟩ : ∃ i : Nat, col = i := ⟨col.toNat, by omega⟩
        exact arrayDown_ok S i ao n cap xss lv w hx.len hx.big hx.reads hc (.inr ⟨hR, .inr (.inr ⟨by omega, by omega, h2, rfl⟩)⟩) (by omega) (by have := hR.k1; omega)
  · exact arrayDown_bad s ao n cap xss col lv c w hx.len hx.big hx.reads hc h0

end Go.Proofs.Ytfggmgfobcgadaa
