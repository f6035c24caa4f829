/- arrayFact returns true. -/
import Derived.Test.YtnhdngnolepkcaaStrength
namespace Go.Proofs.Ytnhdngnolepkcaa
open Go.RowKit Go.Maps

/-- The four runs. -/
def fourRuns : List (List Int) := [[0, 0, 0], [0, 1, 1], [1, 0, 1], [1, 1, 0]]
theorem four_are : RunsAre (2 : Nat) fourRuns 0 :=
  .inr (.inr (.inr ⟨by decide, by decide, by decide, by decide, .inr ⟨by decide, rfl⟩⟩))
instance alikeDec (S : Nat) (xss : List (List Int)) (C : Nat) : Decidable (AlikeP S xss C) := by unfold AlikeP; exact inferInstance
theorem four_strength : StrengthIs 2 fourRuns 2 := by
  have h1 : ∀ C, C < 2 ^ (row fourRuns 0).length → 1 ≤ onesOf C → onesOf C ≤ 2 → AlikeP 2 fourRuns C := by decide +kernel
  have h2 : onesOf 7 = 3 ∧ ¬ AlikeP 2 fourRuns 7 := by decide +kernel
  exact ⟨by decide, h1, .inr ⟨7, by decide, h2.1, h2.2⟩⟩

theorem inner_lit {w : World} {b : Nat} {cs : Array Value} {xs : List Int} (h : Blk w b cs 3) (hc : cs.toList = ints xs) (hm : xs.length ≤ maxLen) {n : Nat} (hn : n = xs.length) (c : Nat) : Inner w (.slice (some ⟨b, 0, none⟩) n c) xs := by
  subst hn
  refine ⟨_, c, rfl, .inr ⟨b, 0, rfl, h.lt, fun j u hu => ?_⟩, hm⟩
  rw [Nat.zero_add]
  refine h.c j u ?_
  rw [← hc] at hu
  simpa using hu

set_option maxHeartbeats 1000000 in
theorem arrayFact_ok (w : World) : Calls Try.prog 4 #[] w fun e w' => e = .returned (.bool true) ∧ Ext w w' := by
  have H1 : Hid (∀ ao cap w, ReadsL w ao fourRuns → Calls Try.prog 7 #[.int .i64 2, .slice ao 4 cap] w fun e w' => e = .returned (.tuple #[.int .i64 2, .int .i64 0]) ∧ Ext w w') := fun ao cap w hr =>
    (strength_ok 2 ao 4 cap fourRuns w rfl (by decide) hr four_are).mono fun e w' ⟨t, h1, h2, h3⟩ => ⟨by rw [h1, h2.one four_strength]; rfl, h3⟩
  obtain ⟨w5, hw5⟩ : ∃ w5, w5 = ((((w.alloc (.cells #[.int .i64 0, .int .i64 0, .int .i64 0] 3)).alloc (.cells #[.int .i64 0, .int .i64 1, .int .i64 1] 3)).alloc (.cells #[.int .i64 1, .int .i64 0, .int .i64 1] 3)).alloc (.cells #[.int .i64 1, .int .i64 1, .int .i64 0] 3)).alloc
      (.cells #[.slice (some ⟨w.heap.size, 0, none⟩) 3 3, .slice (some ⟨w.heap.size + 1, 0, none⟩) 3 3, .slice (some ⟨w.heap.size + 1 + 1, 0, none⟩) 3 3, .slice (some ⟨w.heap.size + 1 + 1 + 1, 0, none⟩) 3 3] 22) := ⟨_, rfl⟩
  have HR : Hid (ReadsL w5 (some ⟨w.heap.size + 1 + 1 + 1 + 1, 0, none⟩) fourRuns) := by
    have b0 : Blk w5 w.heap.size #[.int .i64 0, .int .i64 0, .int .i64 0] 3 := by rw [hw5]; exact ((((Blk.new w _ _).alloc _).alloc _).alloc _).alloc _
    have b1 : Blk w5 (w.heap.size + 1) #[.int .i64 0, .int .i64 1, .int .i64 1] 3 := by rw [hw5]; exact (((Blk.new' _ _ _ (by simp)).alloc _).alloc _).alloc _
    have b2 : Blk w5 (w.heap.size + 1 + 1) #[.int .i64 1, .int .i64 0, .int .i64 1] 3 := by rw [hw5]; exact ((Blk.new' _ _ _ (by simp)).alloc _).alloc _
    have b3 : Blk w5 (w.heap.size + 1 + 1 + 1) #[.int .i64 1, .int .i64 1, .int .i64 0] 3 := by rw [hw5]; exact (Blk.new' _ _ _ (by simp)).alloc _
    have b4 : Blk w5 (w.heap.size + 1 + 1 + 1 + 1) #[.slice (some ⟨w.heap.size, 0, none⟩) 3 3, .slice (some ⟨w.heap.size + 1, 0, none⟩) 3 3, .slice (some ⟨w.heap.size + 1 + 1, 0, none⟩) 3 3, .slice (some ⟨w.heap.size + 1 + 1 + 1, 0, none⟩) 3 3] 22 := by rw [hw5]; exact Blk.new' _ _ _ (by simp)
    refine ⟨[.slice (some ⟨w.heap.size, 0, none⟩) 3 3, .slice (some ⟨w.heap.size + 1, 0, none⟩) 3 3, .slice (some ⟨w.heap.size + 1 + 1, 0, none⟩) 3 3, .slice (some ⟨w.heap.size + 1 + 1 + 1, 0, none⟩) 3 3], .inr ⟨_, 0, rfl, b4.lt, fun j u hu => ?_⟩, rfl, fun j v hv => ?_⟩
    · rw [Nat.zero_add]
      exact b4.c j u (by simpa using hu)
    · match j, hv with
      | 0, hv => obtain rfl : .slice (some ⟨w.heap.size, 0, none⟩) 3 3 = v := by simpa using hv
                 exact inner_lit (xs := [0, 0, 0]) b0 rfl (by decide) rfl 3
      | 1, hv => obtain rfl : .slice (some ⟨w.heap.size + 1, 0, none⟩) 3 3 = v := by simpa using hv
                 exact inner_lit (xs := [0, 1, 1]) b1 rfl (by decide) rfl 3
      | 2, hv => obtain rfl : .slice (some ⟨w.heap.size + 1 + 1, 0, none⟩) 3 3 = v := by simpa using hv
                 exact inner_lit (xs := [1, 0, 1]) b2 rfl (by decide) rfl 3
      | 3, hv => obtain rfl : .slice (some ⟨w.heap.size + 1 + 1 + 1, 0, none⟩) 3 3 = v := by simpa using hv
                 exact inner_lit (xs := [1, 1, 0]) b3 rfl (by decide) rfl 3
      | j + 4, hv => simp at hv
  have HX : Hid (Ext w w5) := by show Ext w w5; rw [hw5]; exact (((((Ext.refl w).alloc _).alloc _).alloc _).alloc _).alloc _
  go_enter Try.func4, Try.ntmps4
  go_wp2_with fail
  rw [← hw5]
  clear hw5
  refine Calls.mono (H1.out _ _ _ HR.out) ?_
  rintro e w6 ⟨rfl, hx⟩
  have HX2 := Lib.hid (HX.out.trans hx)
  clear hx
  go_wp2
  go_ret
  exact ⟨by simp, HX2.out⟩

end Go.Proofs.Ytnhdngnolepkcaa
