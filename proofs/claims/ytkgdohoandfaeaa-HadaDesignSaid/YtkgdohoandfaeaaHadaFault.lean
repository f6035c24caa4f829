/- What hada.Check and parterreref3.SignsFault answer at any square, in one; what hada.Excess answers. -/
import Derived.Test.YtkgdohoandfaeaaSignsRef
namespace Go.Proofs.Ytkgdohoandfaeaa
open Go.RowKit

/-- Each two rows are orthogonal. -/
def Orth (n : Nat) (xs : List Int) : Prop := ∀ i k, i < n → k < i → dotTo xs n i k n = 0

open Classical in
/-- What is wrong. -/
noncomputable def signsFaultOf (m : Int) (xs : List Int) : Int :=
  if m < 1 ∨ 24 < m then 1 else if xs.length ≠ m.toNat * m.toNat then 2 else if xs.any notSign = true then 1 else if Orth m.toNat xs then 0 else 4

theorem isMat_of {n : Nat} {xs : List Int} (h1 : 1 ≤ n) (h2 : n ≤ 24) (hl : xs.length = n * n) (hs : ¬ xs.any notSign = true) : IsMat n xs :=
  ⟨h1, h2, hl, fun x hx => by
    by_cases h : x = 1 ∨ x = -1
    · exact h
    · exact absurd (List.any_eq_true.2 ⟨x, hx, notSign_true (fun e => h (.inl e)) (fun e => h (.inr e))⟩) hs⟩

theorem signsFaultOf_zero {m : Int} {xs : List Int} (h : signsFaultOf m xs = 0) : ∃ n : Nat, m = n ∧ IsMat n xs ∧ Orth n xs := by
  unfold signsFaultOf at h
  split at h
  · omega
  · rename_i h1
    split at h
    · omega
    · rename_i h2
      split at h
      · omega
      · rename_i h3
        split at h
        · rename_i h4
          exact ⟨m.toNat, by omega, isMat_of (by omega) (by omega) (by omega) h3, h4⟩
        · omega

theorem signsFaultOf_cases (m : Int) (xs : List Int) : signsFaultOf m xs = 0 ∨ signsFaultOf m xs = 1 ∨ signsFaultOf m xs = 2 ∨ signsFaultOf m xs = 4 := by
  unfold signsFaultOf
  split
  · simp
  · split
    · simp
    · split
      · simp
      · split <;> simp

theorem signsFaultOf_mat {n : Nat} {xs : List Int} (h : IsMat n xs) (ho : Orth n xs) : signsFaultOf n xs = 0 := by
  unfold signsFaultOf
  have h1 := h.one
  have h2 := h.big
  rw [if_neg (by omega), if_neg (by have := h.len; simpa using this), if_neg, if_pos (by simpa using ho)]
  intro hs
  rw [List.any_eq_true] at hs
  obtain ⟨x, hx, hp⟩ := hs
  rw [notSign_false (h.sign x hx)] at hp
  cases hp

theorem check_any (m : Int) (ao : Option Addr) (len cap : Nat) (xs : List Int) (w : World) (hl : xs.length = len) (hr : Reads w ao (ints xs)) :
    Calls Try.prog 6 #[.agg #[.int .i64 m, .slice ao len cap]] w fun e w' => e = .returned (.int .i64 (signsFaultOf m xs)) ∧ Below w.heap.size w w' := by
  unfold signsFaultOf
  split
  · rename_i h; exact check_range m ao len cap w h
  · rename_i h
    obtain ⟨n, rfl⟩ : ∃ n : Nat, m = n := ⟨m.toNat, by omega⟩
    rw [Int.toNat_natCast]
    split
    · rename_i h2; exact check_shape n ao len cap w (by omega) (by omega) (by omega)
    · rename_i h2
      obtain rfl : len = n * n := by omega
      split
      · rename_i h3; exact check_sign n ao cap xs w (by omega) (by omega) hl h3 hr
      · rename_i h3
        refine check_dots n ao cap xs _ w (isMat_of (by omega) (by omega) hl h3) hr (fun hz => ?_) (fun i k hi hk hne => ?_)
        · exact if_pos (c := Orth n xs) hz
        · exact if_neg (c := Orth n xs) (fun ho => hne (ho i k hi hk))

theorem fault_any (m : Int) (ao : Option Addr) (len cap : Nat) (xs : List Int) (w : World) (hl : xs.length = len) (hr : Reads w ao (ints xs)) :
    Calls Try.prog 5 #[.agg #[.int .i64 m, .slice ao len cap]] w fun e w' => e = .returned (.int .i64 (signsFaultOf m xs)) ∧ Below w.heap.size w w' := by
  unfold signsFaultOf
  split
  · rename_i h; exact fault_range m ao len cap w h
  · rename_i h
    obtain ⟨n, rfl⟩ : ∃ n : Nat, m = n := ⟨m.toNat, by omega⟩
    rw [Int.toNat_natCast]
    split
    · rename_i h2; exact fault_shape n ao len cap w (by omega) (by omega) (by omega)
    · rename_i h2
      obtain rfl : len = n * n := by omega
      split
      · rename_i h3; exact fault_sign n ao cap xs w (by omega) (by omega) hl h3 hr
      · rename_i h3
        refine fault_dots n ao cap xs _ w (isMat_of (by omega) (by omega) hl h3) hr (fun hz => ?_) (fun i k hi hk hne => ?_)
        · exact if_pos (c := Orth n xs) hz
        · exact if_neg (c := Orth n xs) (fun ho => hne (ho i k hi hk))

/-- The sum of the first numbers. -/
def sumTo (xs : List Int) : Nat → Int
  | 0 => 0
  | j + 1 => sumTo xs j + nth xs j
theorem sumTo_bound {n : Nat} {xs : List Int} (h : IsMat n xs) : ∀ j, j ≤ n * n → -(j : Int) ≤ sumTo xs j ∧ sumTo xs j ≤ j
  | 0, _ => by simp [sumTo]
  | j + 1, hj => by
    have := sumTo_bound h j (by omega)
    rw [sumTo]
    rcases nth_sign h j (by omega) with h1 | h1 <;> rw [h1] <;> omega

set_option maxHeartbeats 400000 in
theorem excess_bad (m : Int) (ao : Option Addr) (len cap : Nat) (xs : List Int) (w : World) (hl : xs.length = len) (hr : Reads w ao (ints xs)) (hbad : signsFaultOf m xs ≠ 0) :
    Calls Try.prog 8 #[.agg #[.int .i64 m, .slice ao len cap]] w fun e w' => e = .returned (.tuple #[.int .i64 0, .int .i64 (signsFaultOf m xs)]) ∧ Below w.heap.size w w' := by
  have hbel : Below w.heap.size w (w.alloc (.cells #[.int .i64 m, .slice ao len cap] 24)) := (Below.refl _ _).alloc (Nat.le_refl _) _
  have HB := Lib.hid hbel
  have HC := Lib.hid (check_any m ao len cap xs (w.alloc (.cells #[.int .i64 m, .slice ao len cap] 24)) hl (hr.below hbel (Nat.le_refl _)))
  obtain ⟨f, hf⟩ : ∃ f, signsFaultOf m xs = f := ⟨_, rfl⟩
  rw [hf] at HC hbad ⊢
  have b0 : (f != 0) = true := by rw [bne_iff_ne]; exact hbad
  clear hbel hl hr hf hbad
  go_enter Try.func8, Try.ntmps8
  go_wp2_with (go_at_call 6; refine HC.out.mono ?_; rintro e w' ⟨rfl, hb⟩)
  go_ret2
  exact ⟨rfl, HB.out.trans (hb.mono (by simp))⟩

set_option maxHeartbeats 400000 in
theorem excess_ok (n : Nat) (ao : Option Addr) (len cap : Nat) (xs : List Int) (w : World) (hl : xs.length = len) (hr : Reads w ao (ints xs)) (hm : IsMat n xs) (ho : Orth n xs) :
    Calls Try.prog 8 #[.agg #[.int .i64 n, .slice ao len cap]] w fun e w' => e = .returned (.tuple #[.int .i64 (sumTo xs len), .int .i64 0]) ∧ Below w.heap.size w w' := by
  have hbel : Below w.heap.size w (w.alloc (.cells #[.int .i64 n, .slice ao len cap] 24)) := (Below.refl _ _).alloc (Nat.le_refl _) _
  have HB := Lib.hid hbel
  have hc := check_any n ao len cap xs (w.alloc (.cells #[.int .i64 n, .slice ao len cap] 24)) hl (hr.below hbel (Nat.le_refl _))
  rw [signsFaultOf_mat hm ho] at hc
  have HC := Lib.hid hc
  have HX0 : Hid ((w.alloc (.cells #[.int .i64 n, .slice ao len cap] 24)).cell? ⟨w.heap.size, 1, none⟩ = some (.slice ao len cap)) := by
    show World.cell? _ _ = _
    simp [World.cell?_alloc_at]
  have hq := sq_bound hm.big
  have HSB : Hid (∀ j, j ≤ len → -(j : Int) ≤ sumTo xs j ∧ sumTo xs j ≤ j) := fun j hj => sumTo_bound hm j (by have := hm.len; omega)
  have HSG : Hid (∀ j, j < len → nth xs j = 1 ∨ nth xs j = -1) := fun j hj => nth_sign hm j (by have := hm.len; omega)
  have hlen0 : 0 < len := by have := hm.len; have := Nat.mul_pos hm.one hm.one; omega
  have hlen : len ≤ 576 := by have := hm.len; omega
  obtain ⟨b, off, rfl, hbl, hcl⟩ := Reads.int hr (by omega)
  rw [hl] at hcl
  have HCL := Lib.hid hcl
  clear hbel hl hr hm ho hc hcl hq
  go_enter Try.func8, Try.ntmps8
  have HSZ : Hid (w.heap.size + 1 = (w.alloc (.cells #[.int .i64 n, .slice (some ⟨b, off, none⟩) len cap] 24)).heap.size) := by show _ = _; simp
  go_wp2_with (go_at_call 6; refine HC.out.mono ?_; rintro e w1 ⟨rfl, hb⟩; have k1 := (hb.cell (p := ⟨w.heap.size, 1, none⟩) (by simp)).trans HX0.out)
  have HB1 := Lib.hid (HB.out.trans (hb.mono (by simp)))
  clear hb
  have HC0 : Hid (∀ j, j < len → w1.cell? ⟨b, off + j, none⟩ = some (.int .i64 (nth xs j))) := fun j hj => by rw [HB1.out.cell (by exact hbl)]; exact HCL.out j hj
  go_loop [5, 16] (fun s i => ∃ j : Nat, j ≤ len ∧ i = .int .i64 j ∧ s = .int .i64 (sumTo xs j)) (fun _ i => len - (intOf i).toNat)
  case atStart => exact ⟨0, by omega, rfl, rfl⟩
  case round =>
    obtain ⟨j, hj, rfl, rfl⟩ := hrel
    have hsb := HSB.out j hj
    by_cases hlt : j < len
    · have hck := HC0.out j hlt
      have hsg := HSG.out j hlt
      have HS : Hid (sumTo xs (j + 1) = sumTo xs j + nth xs j) := rfl
      obtain ⟨x, hx⟩ : ∃ x, nth xs j = x := ⟨_, rfl⟩
      obtain ⟨s, hs⟩ : ∃ s, sumTo xs j = s := ⟨_, rfl⟩
      rw [hx] at hck hsg HS
      rw [hs] at hsb HS ⊢
      have hx1 : -1 ≤ x ∧ x ≤ 1 := by rcases hsg with h | h <;> omega
      obtain ⟨hx2, hx3⟩ := hx1
      obtain ⟨hs1, hs2⟩ := hsb
      clear hx hs hsg
      go_wp2
      go_round
      case rel => exact ⟨j + 1, by omega, by go_num, by rw [HS.out]⟩
      case measure => simp [intOf]; omega
    · obtain rfl : j = len := by omega
      go_wp2
      go_ret2
      exact ⟨rfl, HB1.out⟩

end Go.Proofs.Ytkgdohoandfaeaa
