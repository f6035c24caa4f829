/- What ArrayRao returns. -/
import Derived.Test.YtfggmgfobcgadaaRaoBound
import Derived.Test.YtfggmgfobcgadaaArrayFact
import Derived.Test.YtfggmgfobcgadaaArgLists
namespace Go.Proofs.Ytfggmgfobcgadaa
open Go.RowKit Go.Maps

set_option maxHeartbeats 2000000 in
theorem arrayRao_bad (s : Int) (ao : Option Addr) (n cap : Nat) (xss : List (List Int)) (c : Int) (w : World) (hl : xss.length = n) (hbig : n ≤ maxLen) (hr : ReadsL w ao xss) (hc : RunsAre s xss c) (h0 : c ≠ 0) :
    Calls Try.prog 6 #[.int .i64 s, .slice ao n cap] w fun e w' => e = .returned (.bool true) ∧ Ext w w' := by
  have H1 : Hid (∀ w', Ext w w' → Calls Try.prog 18 #[.int .i64 s, .slice ao n cap] w' fun e w'' => e = .returned (.tuple #[.int .i64 0, .int .i64 c]) ∧ Ext w' w'') := fun w' hx => strength_bad s ao n cap xss c w' hl hbig (hr.ext hx) hc h0
  have b1 : (c != 0) = true := by rw [bne_iff_ne]; exact h0
  clear hl hr hc h0
  go_enter Try.func6, Try.ntmps6
  go_wp2_with fail
  refine Calls.mono (arrayFact_ok _) ?_
  rintro e w1 ⟨rfl, hx1⟩
  go_wp2_with fail
  refine Calls.mono (H1.out _ hx1) ?_
  rintro e w2 ⟨rfl, hx2⟩
  go_wp2
  go_ret
  exact ⟨by simp, hx1.trans hx2⟩

set_option maxHeartbeats 2000000 in
theorem arrayRao_ok (S : Nat) (ao : Option Addr) (n cap : Nat) (xss : List (List Int)) (w : World) (hl : xss.length = n) (hbig : n ≤ maxLen) (hr : ReadsL w ao xss) (hz : RunsAre S xss 0) :
    Calls Try.prog 6 #[.int .i64 S, .slice ao n cap] w fun e w' => e = .returned (.bool true) ∧ Ext w w' := by
  have hR := hz.zero
  have H1 : Hid (∀ w', Ext w w' → Calls Try.prog 18 #[.int .i64 S, .slice ao n cap] w' fun e w'' => ∃ t : Nat, e = .returned (.tuple #[.int .i64 t, .int .i64 0]) ∧ StrengthIs S xss t ∧ Ext w' w'') := fun w' hx => strength_ok S ao n cap xss w' hl hbig (hr.ext hx) hz
  obtain ⟨k, hk⟩ : ∃ k, (row xss 0).length = k := ⟨_, rfl⟩
  have hk8 := hR.k8
  have hk1 := hR.k1
  have h128 := hR.n128
  have h1n := hR.n1
  have HB : Hid (∀ t, StrengthIs S xss t → t ≤ k ∧ ∀ w', Calls Try.prog 9 #[.int .i64 k, .int .i64 S, .int .i64 t] w' fun e w'' => ∃ m : Int, m ≤ n ∧ e = .returned (.tuple #[.int .i64 m, .int .i64 0]) ∧ w' = w'') := fun t hs => by
    have ht := hs.1
    rw [hk] at ht hk8 hk1
    refine ⟨ht, fun w' => ?_⟩
    have hb := rao_bound hR hk hs
    rw [hl] at hb h128
    refine (rao_good k t S w' hk1 (by omega) hR.s2 hR.s64 ht).mono fun e w'' ⟨h1, h2⟩ => ⟨_, hb, ?_, h2⟩
    rw [h1]
    unfold raoVal
    rw [if_neg (by omega)]
  obtain ⟨b, off, a0, q0, rfl, hb, hc0⟩ := hR.first hr
  rw [hk] at hk8 hk1 hc0
  rw [hl] at h128 h1n
  clear hl hr hz hR hk
  go_enter Try.func6, Try.ntmps6
  go_wp2_with fail
  refine Calls.mono (arrayFact_ok _) ?_
  rintro e w1 ⟨rfl, hx1⟩
  go_wp2_with fail
  refine Calls.mono (H1.out _ hx1) ?_
  rintro e w2 ⟨t, rfl, hst, hx2⟩
  obtain ⟨htk, hrao⟩ := HB.out t hst
  have hx := hx1.trans hx2
  have c1 := (hx.cell hb).trans hc0
  have HRAO := Lib.hid hrao
  have HX := Lib.hid hx
  clear hst hrao hx1 hx2 hx
  go_wp2_with fail
  refine Calls.mono (HRAO.out _) ?_
  rintro e w3 ⟨m, hm, rfl, rfl⟩
  have e1 : decide (m ≤ (n : Int)) = true := decide_eq_true hm
  clear hm
  go_wp2
  go_ret
  exact ⟨by simp, HX.out⟩

theorem RunsAre.any (s : Int) (xss : List (List Int)) : ∃ c, RunsAre s xss c := by
  have hf : ∃ c, FirstFault s xss c := by
    have h : ∀ m, m ≤ xss.length → (∀ i, i < m → rowFault s (row xss 0).length (row xss i) = 0) ∨ ∃ j, j < m ∧ (∀ i, i < j → rowFault s (row xss 0).length (row xss i) = 0) ∧ rowFault s (row xss 0).length (row xss j) ≠ 0 := by
      intro m
      induction m with
      | zero => exact fun _ => .inl fun i hi => by omega
      | succ m ih =>
        intro hm
        rcases ih (by omega) with h1 | ⟨j, h1, h2, h3⟩
        · by_cases h0 : rowFault s (row xss 0).length (row xss m) = 0
          · refine .inl fun i hi => ?_
            rcases Nat.lt_succ_iff_lt_or_eq.1 hi with h2 | rfl
            · exact h1 i h2
            · exact h0
          · exact .inr ⟨m, by omega, h1, h0⟩
        · exact .inr ⟨j, by omega, h2, h3⟩
    rcases h _ (Nat.le_refl _) with h1 | ⟨j, h1, h2, h3⟩
    · exact ⟨0, .inr ⟨h1, rfl⟩⟩
    · exact ⟨_, .inl ⟨j, h1, h2, rfl, h3⟩⟩
  by_cases h : s < 2 ∨ 64 < s
  · exact ⟨1, .inl ⟨h, rfl⟩⟩
  · by_cases h0 : xss.length = 0
    · exact ⟨2, .inr (.inl ⟨by omega, by omega, h0, rfl⟩)⟩
    · by_cases h1 : 128 < xss.length
      · exact ⟨3, .inr (.inr (.inl ⟨by omega, by omega, h1, rfl⟩))⟩
      · obtain ⟨c, hc⟩ := hf
        exact ⟨c, .inr (.inr (.inr ⟨by omega, by omega, by omega, by omega, hc⟩))⟩

theorem arrayRao_any (s : Int) (_ : -9223372036854775808 ≤ s ∧ s ≤ 9223372036854775807) (ao : Option Addr) (n cap : Nat) (xss : List (List Int)) {w : World} (hx : ListsArg w ao n cap xss) :
    Calls Try.prog 6 #[.int .i64 s, .slice ao n cap] w fun e w' => e = .returned (.bool true) ∧ Below w.heap.size w w' := by
  obtain ⟨c, hc⟩ := RunsAre.any s xss
  by_cases h0 : c = 0
  · subst h0
    have hs2 := hc.zero.s2
    obtain ⟨S, rfl⟩ : ∃ S : Nat, s = S := ⟨s.toNat, by omega⟩
    exact arrayRao_ok S ao n cap xss w hx.len hx.big hx.reads hc
  · exact arrayRao_bad s ao n cap xss c w hx.len hx.big hx.reads hc h0

end Go.Proofs.Ytfggmgfobcgadaa
