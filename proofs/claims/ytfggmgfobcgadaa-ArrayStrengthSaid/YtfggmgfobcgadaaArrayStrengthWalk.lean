/- What ArrayStrength returns. -/
import Derived.Test.YtfggmgfobcgadaaStrengthOf
import Derived.Test.YtfggmgfobcgadaaRunsFault
import Derived.Test.YtfggmgfobcgadaaArrayRaoWalk
namespace Go.Proofs.Ytfggmgfobcgadaa
open Go.RowKit Go.Maps

set_option maxHeartbeats 2000000 in
theorem arrayStrength_bad (s : Int) (ao : Option Addr) (n cap : Nat) (xss : List (List Int)) (c : Int) (w : World) (hl : xss.length = n) (hbig : n ≤ maxLen) (hr : ReadsL w ao xss) (hc : RunsAre s xss c) (h0 : c ≠ 0) :
    Calls Try.prog 5 #[.int .i64 s, .slice ao n cap] w fun e w' => e = .returned (.bool true) ∧ Ext w w' := by
  have H1 : Hid (∀ w', Ext w w' → Calls Try.prog 16 #[.int .i64 s, .slice ao n cap] w' fun e w'' => e = .returned (.int .i64 c) ∧ Ext w' w'') := fun w' hx =>
    (runsFault_any s ao n cap xss w' hl hbig (hr.ext hx)).mono fun e w'' ⟨c', h1, h2, h3⟩ => ⟨by rw [h1, hc.one h2], h3.ext⟩
  have H2 : Hid (∀ w', Ext w w' → Calls Try.prog 17 #[.int .i64 s, .slice ao n cap] w' fun e w'' => e = .returned (.int .i64 c) ∧ Ext w' w'') := fun w' hx =>
    (runsCheck_any s ao n cap xss w' hl hbig (hr.ext hx)).mono fun e w'' ⟨c', h1, h2, h3⟩ => ⟨by rw [h1, hc.one h2], h3⟩
  have H3 : Hid (∀ w', Ext w w' → Calls Try.prog 18 #[.int .i64 s, .slice ao n cap] w' fun e w'' => e = .returned (.tuple #[.int .i64 0, .int .i64 c]) ∧ Ext w' w'') := fun w' hx => strength_bad s ao n cap xss c w' hl hbig (hr.ext hx) hc h0
  have b1 : (c != 0) = true := by rw [bne_iff_ne]; exact h0
  clear hl hr hc h0
  go_enter Try.func5, Try.ntmps5
  go_wp2_with fail
  refine Calls.mono (H1.out _ (Ext.refl w)) ?_
  rintro e w1 ⟨rfl, hx1⟩
  go_wp2_with fail
  refine Calls.mono (H2.out _ hx1) ?_
  rintro e w2 ⟨rfl, hx2⟩
  go_wp2_with fail
  refine Calls.mono (H3.out _ (hx1.trans hx2)) ?_
  rintro e w3 ⟨rfl, hx3⟩
  go_wp2
  go_ret
  exact ⟨by simp, (hx1.trans hx2).trans hx3⟩

set_option maxHeartbeats 2000000 in
theorem arrayStrength_ok (S : Nat) (ao : Option Addr) (n cap : Nat) (xss : List (List Int)) (w : World) (hl : xss.length = n) (hbig : n ≤ maxLen) (hr : ReadsL w ao xss) (hz : RunsAre S xss 0) :
    Calls Try.prog 5 #[.int .i64 S, .slice ao n cap] w fun e w' => e = .returned (.bool true) ∧ Ext w w' := by
  have H1 : Hid (∀ w', Ext w w' → Calls Try.prog 16 #[.int .i64 S, .slice ao n cap] w' fun e w'' => e = .returned (.int .i64 0) ∧ Ext w' w'') := fun w' hx =>
    (runsFault_any S ao n cap xss w' hl hbig (hr.ext hx)).mono fun e w'' ⟨c', h1, h2, h3⟩ => ⟨by rw [h1, hz.one h2], h3.ext⟩
  have H2 : Hid (∀ w', Ext w w' → Calls Try.prog 17 #[.int .i64 S, .slice ao n cap] w' fun e w'' => e = .returned (.int .i64 0) ∧ Ext w' w'') := fun w' hx =>
    (runsCheck_any S ao n cap xss w' hl hbig (hr.ext hx)).mono fun e w'' ⟨c', h1, h2, h3⟩ => ⟨by rw [h1, hz.one h2], h3⟩
  have H3 : Hid (∀ w', Ext w w' → Calls Try.prog 18 #[.int .i64 S, .slice ao n cap] w' fun e w'' => ∃ t : Nat, e = .returned (.tuple #[.int .i64 t, .int .i64 0]) ∧ StrengthIs S xss t ∧ Ext w' w'') := fun w' hx => strength_ok S ao n cap xss w' hl hbig (hr.ext hx) hz
  have H4 : Hid (∀ w', Ext w w' → Calls Try.prog 19 #[.int .i64 S, .slice ao n cap] w' fun e w'' => ∃ t : Nat, e = .returned (.int .i64 t) ∧ StrengthIs S xss t ∧ Ext w' w'') := fun w' hx => strengthOf_ok S ao n cap xss w' hl (hr.ext hx) hz.zero
  clear hl hr hz
  go_enter Try.func5, Try.ntmps5
  go_wp2_with fail
  refine Calls.mono (H1.out _ (Ext.refl w)) ?_
  rintro e w1 ⟨rfl, hx1⟩
  go_wp2_with fail
  refine Calls.mono (H2.out _ hx1) ?_
  rintro e w2 ⟨rfl, hx2⟩
  go_wp2_with fail
  refine Calls.mono (H3.out _ (hx1.trans hx2)) ?_
  rintro e w3 ⟨t, rfl, ht, hx3⟩
  go_wp2_with fail
  refine Calls.mono (H4.out _ ((hx1.trans hx2).trans hx3)) ?_
  rintro e w4 ⟨u, rfl, hu, hx4⟩
  obtain rfl := ht.one hu
  have HX := Lib.hid (((hx1.trans hx2).trans hx3).trans hx4)
  clear ht hu hx1 hx2 hx3 hx4
  go_wp2
  go_ret
  exact ⟨by simp, HX.out⟩

theorem arrayStrength_any (s : Int) (_ : -9223372036854775808 ≤ s ∧ s ≤ 9223372036854775807) (ao : Option Addr) (n cap : Nat) (xss : List (List Int)) {w : World} (hx : ListsArg w ao n cap xss) :
    Calls Try.prog 5 #[.int .i64 s, .slice ao n cap] w fun e w' => e = .returned (.bool true) ∧ Below w.heap.size w w' := by
  obtain ⟨c, hc⟩ := RunsAre.any s xss
  by_cases h0 : c = 0
  · subst h0
    have hs2 := hc.zero.s2
    obtain ⟨S, rfl⟩ : ∃ S : Nat, s = S := ⟨s.toNat, by omega⟩
    exact arrayStrength_ok S ao n cap xss w hx.len hx.big hx.reads hc
  · exact arrayStrength_bad s ao n cap xss c w hx.len hx.big hx.reads hc h0

end Go.Proofs.Ytfggmgfobcgadaa
