/- What ArrayParts returns. -/
import Derived.Test.YtfggmgfobcgadaaPartsOf
import Derived.Test.YtfggmgfobcgadaaArgLists
namespace Go.Proofs.Ytfggmgfobcgadaa
open Go.RowKit

set_option maxHeartbeats 1000000 in
theorem drop_bad (s : Int) (ao : Option Addr) (n cap : Nat) (xss : List (List Int)) (col c : Int) (w : World) (hl : xss.length = n) (hbig : n ≤ maxLen) (hr : ReadsL w ao xss) (hp : PartIs s xss col c) (hc : c ≠ 0) :
    Calls Try.prog 12 #[.int .i64 s, .slice ao n cap, .int .i64 col] w fun e w' => e = .returned (.tuple #[.slice none 0 0, .int .i64 c]) ∧ Ext w w' := by
  have HC := Lib.hid (dropped_any s ao n cap xss col w hl hbig hr)
  have HP := Lib.hid hp
  have b1 : (c != 0) = true := by rw [bne_iff_ne]; exact hc
  clear hl hr hp hc
  go_enter Try.func12, Try.ntmps12
  go_wp2_with (go_at_call 26; refine HC.out.mono ?_; rintro e w1 ⟨c', rfl, hca, hx⟩; obtain rfl := HP.out.one hca; have HX := Lib.hid hx; clear hx hca)
  exact bodyPost_ret (v := .tuple #[.slice none 0 0, .int .i64 c]) (by simp [results, Try.results12, go_sem]) rfl ⟨rfl, HX.out⟩
set_option maxHeartbeats 1000000 in
theorem take_bad (s : Int) (ao : Option Addr) (n cap : Nat) (xss : List (List Int)) (col lv c : Int) (w : World) (hl : xss.length = n) (hbig : n ≤ maxLen) (hr : ReadsL w ao xss) (hp : PartIs s xss col c) (hc : c ≠ 0) :
    Calls Try.prog 13 #[.int .i64 s, .slice ao n cap, .int .i64 col, .int .i64 lv] w fun e w' => e = .returned (.tuple #[.slice none 0 0, .int .i64 c]) ∧ Ext w w' := by
  have HC := Lib.hid (dropped_any s ao n cap xss col w hl hbig hr)
  have HP := Lib.hid hp
  have b1 : (c != 0) = true := by rw [bne_iff_ne]; exact hc
  clear hl hr hp hc
  go_enter Try.func13, Try.ntmps13
  go_wp2_with (go_at_call 26; refine HC.out.mono ?_; rintro e w1 ⟨c', rfl, hca, hx⟩; obtain rfl := HP.out.one hca; have HX := Lib.hid hx; clear hx hca)
  exact bodyPost_ret (v := .tuple #[.slice none 0 0, .int .i64 c]) (by simp [results, Try.results13, go_sem]) rfl ⟨rfl, HX.out⟩
set_option maxHeartbeats 1000000 in
theorem take_range (s : Int) (ao : Option Addr) (n cap : Nat) (xss : List (List Int)) (col lv : Int) (w : World) (hl : xss.length = n) (hbig : n ≤ maxLen) (hr : ReadsL w ao xss) (hp : PartIs s xss col 0) (hlv : lv < 0 ∨ s ≤ lv) :
    Calls Try.prog 13 #[.int .i64 s, .slice ao n cap, .int .i64 col, .int .i64 lv] w fun e w' => e = .returned (.tuple #[.slice none 0 0, .int .i64 1]) ∧ Ext w w' := by
  have HC := Lib.hid (dropped_any s ao n cap xss col w hl hbig hr)
  have HP := Lib.hid hp
  have hcs : decide (lv < 0) = true ∨ (decide (lv < 0) = false ∧ decide (s ≤ lv) = true) := by
    by_cases h : lv < 0
    · exact .inl (decide_eq_true h)
    · exact .inr ⟨decide_eq_false h, decide_eq_true (by omega)⟩
  clear hl hr hp hlv
  rcases hcs with b1 | ⟨b1, b2⟩
  all_goals
    go_enter Try.func13, Try.ntmps13
    go_wp2_with (go_at_call 26; refine HC.out.mono ?_; rintro e w1 ⟨c', rfl, hca, hx⟩; obtain rfl := HP.out.one hca; have HX := Lib.hid hx; clear hx hca)
    exact bodyPost_ret (v := .tuple #[.slice none 0 0, .int .i64 1]) (by simp [results, Try.results13, go_sem]) rfl ⟨rfl, HX.out⟩

set_option maxHeartbeats 2000000 in
theorem arrayParts_bad (s : Int) (ao : Option Addr) (n cap : Nat) (xss : List (List Int)) (col lv c : Int) (w : World) (hl : xss.length = n) (hbig : n ≤ maxLen) (hr : ReadsL w ao xss) (hp : PartIs s xss col c) (hc : c ≠ 0) :
    Calls Try.prog 4 #[.int .i64 s, .slice ao n cap, .int .i64 col, .int .i64 lv] w fun e w' => e = .returned (.bool true) ∧ Ext w w' := by
  have H1 : Hid (∀ w', Ext w w' → Calls Try.prog 11 #[.int .i64 s, .slice ao n cap, .int .i64 col] w' fun e w'' => e = .returned (.int .i64 c) ∧ Ext w' w'') := fun w' hx =>
    (partFault_any s ao n cap xss col w' hl hbig (hr.ext hx)).mono fun e w'' ⟨c', h1, h2, h3⟩ => ⟨by rw [h1, hp.one h2], h3⟩
  have H2 : Hid (∀ w', Ext w w' → Calls Try.prog 12 #[.int .i64 s, .slice ao n cap, .int .i64 col] w' fun e w'' => e = .returned (.tuple #[.slice none 0 0, .int .i64 c]) ∧ Ext w' w'') := fun w' hx => drop_bad s ao n cap xss col c w' hl hbig (hr.ext hx) hp hc
  have H3 : Hid (∀ w', Ext w w' → Calls Try.prog 13 #[.int .i64 s, .slice ao n cap, .int .i64 col, .int .i64 lv] w' fun e w'' => e = .returned (.tuple #[.slice none 0 0, .int .i64 c]) ∧ Ext w' w'') := fun w' hx => take_bad s ao n cap xss col lv c w' hl hbig (hr.ext hx) hp hc
  have b1 : (c != 0) = true := by rw [bne_iff_ne]; exact hc
  clear hl hr hp hc
  go_enter Try.func4, Try.ntmps4
  go_wp2_with fail
  refine Calls.mono (H1.out _ (Ext.refl w)) ?_
  rintro e w1 ⟨rfl, hx1⟩
  go_wp2_with fail
  refine Calls.mono (H2.out _ hx1) ?_
  rintro e w2 ⟨rfl, hx2⟩
  go_wp2_with fail
  refine Calls.mono (H3.out _ (hx1.trans hx2)) ?_
  rintro e w3 ⟨rfl, hx3⟩
  go_wp2
  go_ret
  exact ⟨by simp, (hx1.trans hx2).trans hx3⟩

theorem taken_all (i : Nat) (xss : List (List Int)) (n : Nat) : outs (takenAt (-1) i) i xss n = outs (fun _ => true) i xss n := by
  rw [show takenAt (-1) i = fun _ => true from funext fun r => rfl]
theorem taken_lv {lv : Int} (h : 0 ≤ lv) (i : Nat) (xss : List (List Int)) (n : Nat) : outs (takenAt lv i) i xss n = outs (fun r => nth r i == lv) i xss n := by
  rw [show takenAt lv i = fun r => nth r i == lv from funext fun r => by unfold takenAt; rw [decide_eq_false (by omega)]; rfl]

set_option maxHeartbeats 4000000 in
set_option maxRecDepth 100000 in
theorem arrayParts_ok (s : Int) (i : Nat) (ao : Option Addr) (n cap : Nat) (xss : List (List Int)) (lv : Int) (w : World) (hl : xss.length = n) (hbig : n ≤ maxLen) (hr : ReadsL w ao xss) (hp : PartIs s xss i 0) (hR : IsRuns s xss) (hi : i < (row xss 0).length) :
    Calls Try.prog 4 #[.int .i64 s, .slice ao n cap, .int .i64 i, .int .i64 lv] w fun e w' => e = .returned (.bool true) ∧ Ext w w' := by
  have h128 := hR.n128
  rw [hl] at h128
  have H1 : Hid (∀ w', Ext w w' → Calls Try.prog 11 #[.int .i64 s, .slice ao n cap, .int .i64 i] w' fun e w'' => e = .returned (.int .i64 0) ∧ Ext w' w'') := fun w' hx =>
    (partFault_any s ao n cap xss i w' hl hbig (hr.ext hx)).mono fun e w'' ⟨c', h1, h2, h3⟩ => ⟨by rw [h1, hp.one h2], h3⟩
  have H2 : Hid (∀ w', Ext w w' → Calls Try.prog 12 #[.int .i64 s, .slice ao n cap, .int .i64 i] w' fun e w'' => ∃ v, e = .returned (.tuple #[v, .int .i64 0]) ∧ OwnTbl w' w'' v (outs (fun _ => true) i xss n)) := fun w' hx => drop_ok s i ao n cap xss w' hl hbig (hr.ext hx) hp hR hi
  have H4 : Hid (∀ w' lv, Ext w w' → Calls Try.prog 14 #[.slice ao n cap, .int .i64 i, .int .i64 lv] w' fun e w'' => ∃ v, e = .returned v ∧ OwnTbl w' w'' v (outs (takenAt lv i) i xss n)) := fun w' lv hx => withoutOf_ok s i lv ao n cap xss w' hl (hr.ext hx) hR hi
  have HLE : Hid (∀ p, (outs p i xss n).length ≤ n) := fun p => outs_le p i xss n
  have HLI : Hid (∀ (w1 w2 : World) (u v : Value) (yss zss : List (List Int)) (w' : World), OwnTbl w1 w' u yss → OwnTbl w2 w' v zss → yss = zss → yss.length ≤ n → Calls Try.prog 15 #[u, v] w' fun e w'' => e = .returned (.bool true) ∧ Ext w' w'') := by
    rintro w1 w2 u v yss zss w' ⟨a1, n1, c1, rfl, t1, _⟩ ⟨a2, n2, c2, rfl, t2, _⟩ rfl hle
    refine (lists_any a1 a2 n1 n2 c1 c2 yss yss w' t1.length t2.length (by rw [← t1.length]; unfold maxLen; omega) (by rw [← t2.length]; unfold maxLen; omega) t1.readsL t2.readsL).mono fun e w'' ⟨h1, h2⟩ => ⟨by rw [h1, decide_eq_true rfl], h2.ext⟩
  by_cases hlv : lv < 0 ∨ s ≤ lv
  · have H3 : Hid (∀ w', Ext w w' → Calls Try.prog 13 #[.int .i64 s, .slice ao n cap, .int .i64 i, .int .i64 lv] w' fun e w'' => e = .returned (.tuple #[.slice none 0 0, .int .i64 1]) ∧ Ext w' w'') := fun w' hx => take_range s ao n cap xss i lv w' hl hbig (hr.ext hx) hp hlv
    have hcs : decide (lv < 0) = true ∨ (decide (lv < 0) = false ∧ decide (s ≤ lv) = true) := by
      by_cases h : lv < 0
      · exact .inl (decide_eq_true h)
      · exact .inr ⟨decide_eq_false h, decide_eq_true (by omega)⟩
    clear hl hr hp hR hi hlv
    rcases hcs with b1 | ⟨b1, b2⟩
    all_goals
      go_enter Try.func4, Try.ntmps4
      go_wp2_with fail
      refine Calls.mono (H1.out _ (Ext.refl w)) ?_
      rintro e w1 ⟨rfl, hx1⟩
      go_wp2_with fail
      refine Calls.mono (H2.out _ hx1) ?_
      rintro e w2 ⟨v, rfl, ht2⟩
      have hx2 : Ext w w2 := hx1.trans ht2.choose_spec.choose_spec.choose_spec.2.2
      go_wp2_with fail
      refine Calls.mono (H3.out _ hx2) ?_
      rintro e w3 ⟨rfl, hx3⟩
      have ht3 := ht2.ext hx3
      go_wp2_with fail
      refine Calls.mono (H4.out _ _ (hx2.trans hx3)) ?_
      rintro e w4 ⟨v4, rfl, ht4⟩
      have hx4 : Ext w3 w4 := ht4.choose_spec.choose_spec.choose_spec.2.2
      go_wp2_with fail
      refine Calls.mono (HLI.out _ _ _ _ _ _ _ (ht3.ext hx4) ht4 (taken_all i xss n).symm (HLE.out _)) ?_
      rintro e w5 ⟨rfl, hx5⟩
      have HX5 := Lib.hid (((hx2.trans hx3).trans hx4).trans hx5)
      clear hx1 hx2 hx3 hx4 hx5 ht2 ht3 ht4
      go_wp2
      go_ret
      exact ⟨by simp, HX5.out⟩
  · have H3 : Hid (∀ w', Ext w w' → Calls Try.prog 13 #[.int .i64 s, .slice ao n cap, .int .i64 i, .int .i64 lv] w' fun e w'' =>
      ((outs (fun r => nth r i == lv) i xss n).length = 0 → e = .returned (.tuple #[.slice none 0 0, .int .i64 4]) ∧ Ext w' w'') ∧ ((outs (fun r => nth r i == lv) i xss n).length ≠ 0 → ∃ v, e = .returned (.tuple #[v, .int .i64 0]) ∧ OwnTbl w' w'' v (outs (fun r => nth r i == lv) i xss n))) := fun w' hx => take_ok s i lv ao n cap xss w' hl hbig (hr.ext hx) hp hR hi (by omega) (by omega)
    have b1 : decide (lv < 0) = false := decide_eq_false (by omega)
    have b2 : decide (s ≤ lv) = false := decide_eq_false (by omega)
    have HLV := Lib.hid (taken_lv (lv := lv) (by omega) i xss n)
    clear hl hr hp hR hi hlv
    go_enter Try.func4, Try.ntmps4
    go_wp2_with fail
    refine Calls.mono (H1.out _ (Ext.refl w)) ?_
    rintro e w1 ⟨rfl, hx1⟩
    go_wp2_with fail
    refine Calls.mono (H2.out _ hx1) ?_
    rintro e w2 ⟨v, rfl, ht2⟩
    have hx2 : Ext w w2 := hx1.trans ht2.choose_spec.choose_spec.choose_spec.2.2
    go_wp2_with fail
    refine Calls.mono (H3.out _ hx2) ?_
    rintro e w3 ⟨hn0, hn1⟩
    obtain ⟨q, hq⟩ : ∃ q, (outs (fun r => nth r i == lv) i xss n).length = q := ⟨_, rfl⟩
    rw [hq] at hn0 hn1
    by_cases h0 : q = 0
    · obtain ⟨rfl, hx3⟩ := hn0 h0
      have ht3 := ht2.ext hx3
      have HQ : Hid ((outs (takenAt lv i) i xss n).length = 0) := by show _ = _; rw [HLV.out, hq, h0]
      clear hn0 hn1 h0 hq
      go_wp2_with fail
      refine Calls.mono (H4.out _ _ (hx2.trans hx3)) ?_
      rintro e w4 ⟨v4, rfl, ht4⟩
      have hx4 : Ext w3 w4 := ht4.choose_spec.choose_spec.choose_spec.2.2
      go_wp2_with fail
      refine Calls.mono (HLI.out _ _ _ _ _ _ _ (ht3.ext hx4) ht4 (taken_all i xss n).symm (HLE.out _)) ?_
      rintro e w5 ⟨rfl, hx5⟩
      have hx6 := ((hx2.trans hx3).trans hx4).trans hx5
      clear hx1 hx2 hx3 hx4 hx5 ht2 ht3 ht4
      go_wp2_with fail
      refine Calls.mono (H4.out _ _ hx6) ?_
      rintro e w6 ⟨v6, rfl, ht6⟩
      obtain ⟨a6, n6, c6, rfl, t6, hx7⟩ := ht6
      have hn6 := t6.length
      rw [HQ.out] at hn6
      subst hn6
      have HX := Lib.hid (hx6.trans hx7)
      clear t6 hx6 hx7
      go_wp2
      go_ret
      exact ⟨by simp, HX.out⟩
    · obtain ⟨v3, rfl, ht3'⟩ := hn1 h0
      have hx3 : Ext w2 w3 := ht3'.choose_spec.choose_spec.choose_spec.2.2
      have ht3 := ht2.ext hx3
      have HQ : Hid ((outs (takenAt lv i) i xss n).length = q) := by show _ = _; rw [HLV.out, hq]
      clear hn0 hn1 hq
      go_wp2_with fail
      refine Calls.mono (H4.out _ _ (hx2.trans hx3)) ?_
      rintro e w4 ⟨v4, rfl, ht4⟩
      have hx4 : Ext w3 w4 := ht4.choose_spec.choose_spec.choose_spec.2.2
      have ht4' := ht3'.ext hx4
      go_wp2_with fail
      refine Calls.mono (HLI.out _ _ _ _ _ _ _ (ht3.ext hx4) ht4 (taken_all i xss n).symm (HLE.out _)) ?_
      rintro e w5 ⟨rfl, hx5⟩
      have hx6 := ((hx2.trans hx3).trans hx4).trans hx5
      have ht5' := ht4'.ext hx5
      clear hx1 hx2 hx3 hx4 hx5 ht2 ht3 ht4 ht3' ht4'
      go_wp2_with fail
      refine Calls.mono (H4.out _ _ hx6) ?_
      rintro e w6 ⟨v6, rfl, ht6⟩
      have hx7 : Ext w5 w6 := ht6.choose_spec.choose_spec.choose_spec.2.2
      have ht6' := ht5'.ext hx7
      have HTT := Lib.hid ht6
      obtain ⟨a6, n6, c6, rfl, t6, _⟩ := ht6
      have hn6 := t6.length
      rw [HQ.out] at hn6
      subst hn6
      have hq128 : q ≤ 128 := by have := HLE.out (takenAt lv i); rw [HQ.out] at this; omega
      have b3 : ((q : Int) == 0) = false := by rw [beq_eq_false_iff_ne]; omega
      clear t6 h0
      go_wp2_with fail
      refine Calls.mono (HLI.out _ _ _ _ _ _ _ ht6' HTT.out HLV.out.symm (HLE.out _)) ?_
      rintro e w7 ⟨rfl, hx8⟩
      have HX := Lib.hid ((hx6.trans hx7).trans hx8)
      clear hx6 hx7 hx8 ht5' ht6'
      go_wp2
      go_ret
      exact ⟨by simp, HX.out⟩

theorem FirstFault.some (s : Int) (xss : List (List Int)) : ∃ c, FirstFault s xss c := by
  have h : ∀ m, m ≤ xss.length → (∀ i, i < m → rowFault s (row xss 0).length (row xss i) = 0) ∨ ∃ j, j < m ∧ (∀ i, i < j → rowFault s (row xss 0).length (row xss i) = 0) ∧ rowFault s (row xss 0).length (row xss j) ≠ 0 := by
    intro m
    induction m with
    | zero => exact fun _ => .inl fun i hi => by omega
    | succ m ih =>
      intro hm
      rcases ih (by omega) with h1 | ⟨j, h1, h2, h3⟩
      · by_cases h0 : rowFault s (row xss 0).length (row xss m) = 0
        · refine .inl fun i hi => ?_
          rcases Nat.lt_succ_iff_lt_or_eq.1 hi with h2 | rfl
          · exact h1 i h2
          · exact h0
        · exact .inr ⟨m, by omega, h1, h0⟩
      · exact .inr ⟨j, by omega, h2, h3⟩
  rcases h _ (Nat.le_refl _) with h1 | ⟨j, h1, h2, h3⟩
  · exact ⟨0, .inr ⟨h1, rfl⟩⟩
  · exact ⟨_, .inl ⟨j, h1, h2, rfl, h3⟩⟩
theorem RunsAre.some (s : Int) (xss : List (List Int)) : ∃ c, RunsAre s xss c := by
  by_cases h : s < 2 ∨ 64 < s
  · exact ⟨1, .inl ⟨h, rfl⟩⟩
  · by_cases h0 : xss.length = 0
    · exact ⟨2, .inr (.inl ⟨by omega, by omega, h0, rfl⟩)⟩
    · by_cases h1 : 128 < xss.length
      · exact ⟨3, .inr (.inr (.inl ⟨by omega, by omega, h1, rfl⟩))⟩
      · obtain ⟨c, hc⟩ := FirstFault.some s xss
        exact ⟨c, .inr (.inr (.inr ⟨by omega, by omega, by omega, by omega, hc⟩))⟩

theorem arrayParts_any (s : Int) (_ : -9223372036854775808 ≤ s ∧ s ≤ 9223372036854775807) (ao : Option Addr) (n cap : Nat) (xss : List (List Int)) {w : World} (hx : ListsArg w ao n cap xss) (col : Int) (_ : -9223372036854775808 ≤ col ∧ col ≤ 9223372036854775807) (lv : Int) (_ : -9223372036854775808 ≤ lv ∧ lv ≤ 9223372036854775807) :
    Calls Try.prog 4 #[.int .i64 s, .slice ao n cap, .int .i64 col, .int .i64 lv] w fun e w' => e = .returned (.bool true) ∧ Below w.heap.size w w' := by
  obtain ⟨c, hc⟩ := RunsAre.some s xss
  by_cases h0 : c = 0
  · subst h0
    have hR := hc.zero
    by_cases h1 : col < 0 ∨ (row xss 0).length ≤ col
    · exact arrayParts_bad s ao n cap xss col lv 1 w hx.len hx.big hx.reads (.inr ⟨hR, .inl ⟨h1, rfl⟩⟩) (by decide)
    · by_cases h2 : (row xss 0).length = 1
      · exact arrayParts_bad s ao n cap xss col lv 2 w hx.len hx.big hx.reads (.inr ⟨hR, .inr (.inl ⟨by omega, by omega, h2, rfl⟩)⟩) (by decide)
      · obtain ⟨i, rfl⟩ : ∃ i : Nat, col = i := ⟨col.toNat, by omega⟩
        exact arrayParts_ok s i ao n cap xss lv w hx.len hx.big hx.reads (.inr ⟨hR, .inr (.inr ⟨by omega, by omega, h2, rfl⟩)⟩) hR (by omega)
  · exact arrayParts_bad s ao n cap xss col lv c w hx.len hx.big hx.reads (.inl ⟨hc, h0⟩) h0

end Go.Proofs.Ytfggmgfobcgadaa
