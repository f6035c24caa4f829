/- strongFact returns true. -/
import Derived.Test.YtdmplinncaffpaaDoorTriangle
import Derived.Test.YtdmplinncaffpaaDoorNumbers
namespace Go.Proofs.YtdmplinncaffpaaDoor
open Go.RowKit

/-- The numbers of a graph that is seen to be strong. -/
theorem strong_known {xs : List Int} {n : Nat} {d l m : Int} (hm : IsTab n xs) (hd : ∀ p, p < n → comTo xs n p p n = d) (hl : ∀ p, p < n → ∀ q, q < p → comTo xs n p q n = if nth xs (p * n + q) = 1 then l else m) :
    ¬ Clash xs n ∧ outOf xs n 2 = d ∧ ((∃ p q, p < n ∧ q < p ∧ nth xs (p * n + q) = 1) → outOf xs n 1 = l) ∧ ((∃ p q, p < n ∧ q < p ∧ nth xs (p * n + q) = 0) → outOf xs n 0 = m) := by
  have h1 := hm.one
  have hS : ∀ c x, SeenO xs n n c x → (c = 2 ∧ x = d) ∨ (c = 1 ∧ x = l) ∨ (c = 0 ∧ x = m) := by
    rintro c x (⟨p, h1, h2, h3⟩ | ⟨p, q, h1, h2, h3, h4⟩)
    · exact .inl ⟨h2, by rw [h3, hd p h1]⟩
    · rw [hl p h1 q h2] at h4
      have hb := nth_bit hm (p * n + q) (place_lt h1 (by omega))
      rw [← h3] at hb h4
      rcases hb with hb | hb
      · rw [if_neg (by omega)] at h4; exact .inr (.inr ⟨hb, h4⟩)
      · rw [if_pos hb] at h4; exact .inr (.inl ⟨hb, h4⟩)
  have hout : ∀ c x, SeenO xs n n c x → (∀ y, SeenO xs n n c y → y = x) → outOf xs n c = x := fun c x h1 h2 => by
    unfold outOf
    rw [dif_pos ⟨x, h1⟩]
    exact h2 _ (Classical.choose_spec (p := fun m => SeenO xs n n c m) ⟨x, h1⟩)
  refine ⟨?_, ?_, ?_, ?_⟩
  · rintro ⟨c, x, y, hx, hy, hne⟩
    have := hS c x hx
    have := hS c y hy
    omega
  · exact hout 2 d (.inl ⟨0, h1, rfl, (hd 0 h1).symm⟩) fun y hy => by have := hS 2 y hy; omega
  · rintro ⟨p, q, hp, hq, hb⟩
    exact hout 1 l (.inr ⟨p, q, hp, hq, hb.symm, by rw [hl p hp q hq, if_pos hb]⟩) fun y hy => by have := hS 1 y hy; omega
  · rintro ⟨p, q, hp, hq, hb⟩
    exact hout 0 m (.inr ⟨p, q, hp, hq, hb.symm, by rw [hl p hp q hq, if_neg (by omega)]⟩) fun y hy => by have := hS 0 y hy; omega

/-- The graph of five numbers' pairs. -/
def fiveTab : List Int := tab (flat 10 (joinCell (triJoin 5))) 100
theorem five_tab : IsTab 10 fiveTab := ⟨by decide, by decide, tab_length _ _, by decide +kernel⟩
theorem five_sym : IsSym 10 fiveTab := by
  have h : ∀ i, i < 10 → ∀ j, j ≤ i → nth fiveTab (i * 10 + j) = nth fiveTab (j * 10 + i) ∧ (i = j → nth fiveTab (i * 10 + j) = 0) := by decide +kernel
  exact fun i j hi hj => h i hi j hj
theorem five_known : ¬ Clash fiveTab 10 ∧ outOf fiveTab 10 2 = 6 ∧ outOf fiveTab 10 1 = 3 ∧ outOf fiveTab 10 0 = 4 := by
  have h := strong_known (d := 6) (l := 3) (m := 4) five_tab (by decide +kernel) (by decide +kernel)
  exact ⟨h.1, h.2.1, h.2.2.1 ⟨1, 0, by decide +kernel⟩, h.2.2.2 ⟨7, 0, by decide +kernel⟩⟩

set_option maxHeartbeats 4000000 in
theorem strongFact_ok (w : World) : Calls Tryd.prog 13 #[] w fun e w' => e = .returned (.bool true) ∧ Ext w w' := by
  have H1 : Hid (∀ w, Calls Tryd.prog 8 #[.int .i64 5] w fun e w' => ∃ ao cap, e = .returned (.tuple #[.agg #[.int .i64 10, .slice ao 100 cap], .int .i64 0]) ∧ RowOf 3 w' w.heap.size ao 100 cap (ints fiveTab) ∧ Ext w w') :=
    fun w => triangle_ok 5 w (by decide) (by decide)
  have H2 : Hid (∀ ao cap w, Reads w ao (ints fiveTab) → Calls Tryd.prog 14 #[.agg #[.int .i64 10, .slice ao 100 cap]] w fun e w' => e = .returned (.tuple #[.agg #[.int .i64 10, .int .i64 6, .int .i64 3, .int .i64 4], .int .i64 0]) ∧ Ext w w') :=
    fun ao cap w hr => (numbers_ok 10 ao 100 cap fiveTab w (tab_length _ _) hr five_tab five_sym).mono fun e w' h => by
      obtain ⟨k0, k1, k2, k3⟩ := five_known
      have h1 := h.2.1 k0
      rw [k1, k2, k3] at h1
      exact ⟨h1, h.2.2⟩
  go_enter Tryd.func13, Tryd.ntmps13
  go_wp2_with fail
  refine Calls.mono (H1.out _) ?_
  rintro e w1 ⟨ao, cap, rfl, hrow, hx⟩
  have E1 := Lib.hid (hx.alloc (.cells #[.int .i64 10, .slice ao 100 cap] 26))
  have k1 := (Blk.new w1 #[.int .i64 10, .slice ao 100 cap] 26).two
  have R1 := Lib.hid (((Ext.refl w1).alloc (.cells #[.int .i64 10, .slice ao 100 cap] 26)).reads (RowOf.reads hrow))
  clear hx hrow
  go_wp2_with fail
  refine Calls.mono (H2.out _ _ _ R1.out) ?_
  rintro e w2 ⟨rfl, hx⟩
  have E2 := Lib.hid ((E1.out.trans hx).alloc (.cells #[.int .i64 10, .int .i64 6, .int .i64 3, .int .i64 4] 37))
  have k2 := (Blk.new w2 #[.int .i64 10, .int .i64 6, .int .i64 3, .int .i64 4] 37).four
  clear hx k1
  go_wp2
  go_ret
  exact ⟨by simp, E2.out⟩

end Go.Proofs.YtdmplinncaffpaaDoor
