/- What strong.common answers at a table of noughts and ones. -/
import Derived.Test.YtdmplinncaffpaaDoorBlk
import Derived.Test.YtdmplinncaffpaaDoorSlicesFunc
namespace Go.Proofs.YtdmplinncaffpaaDoor
open Go.RowKit

/-- Neither 0 nor 1. -/
def notBit (x : Int) : Bool := x != 0 && x != 1
theorem notBit_false {x : Int} (h : x = 0 ∨ x = 1) : notBit x = false := by rcases h with rfl | rfl <;> rfl
theorem notBit_true {x : Int} (h0 : x ≠ 0) (h1 : x ≠ 1) : notBit x = true := by
  unfold notBit; rw [Bool.and_eq_true, bne_iff_ne, bne_iff_ne]; exact ⟨h0, h1⟩

/-- A table of noughts and ones. -/
structure IsTab (n : Nat) (xs : List Int) : Prop where
  one : 1 ≤ n
  big : n ≤ 24
  len : xs.length = n * n
  bit : ∀ x ∈ xs, x = 0 ∨ x = 1

/-- A row times another, as far as k. -/
def comTo (xs : List Int) (n i j : Nat) : Nat → Int
  | 0 => 0
  | k + 1 => comTo xs n i j k + nth xs (i * n + k) * nth xs (j * n + k)

theorem nth_bit {n : Nat} {xs : List Int} (h : IsTab n xs) (j : Nat) (hj : j < n * n) : nth xs j = 0 ∨ nth xs j = 1 := h.bit _ (nth_mem xs j (by rw [h.len]; exact hj))
theorem place_lt {n i j : Nat} (hi : i < n) (hj : j < n) : i * n + j < n * n := by
  have : (i + 1) * n ≤ n * n := Nat.mul_le_mul_right n hi
  rw [Nat.succ_mul] at this; omega
theorem comTo_bound {n : Nat} {xs : List Int} (h : IsTab n xs) (i j : Nat) (hi : i < n) (hj : j < n) : ∀ k, k ≤ n → 0 ≤ comTo xs n i j k ∧ comTo xs n i j k ≤ k
  | 0, _ => by simp [comTo]
  | k + 1, hk => by
    have := comTo_bound h i j hi hj k (by omega)
    rw [comTo]
    rcases nth_bit h (i * n + k) (place_lt hi (by omega)) with h1 | h1 <;> rcases nth_bit h (j * n + k) (place_lt hj (by omega)) with h2 | h2 <;> rw [h1, h2] <;> omega
theorem sq_bound {n : Nat} (h24 : n ≤ 24) : n * n ≤ 576 := Nat.mul_le_mul h24 h24

/-- What a table is, hidden from the walk. -/
structure TabAt (w : World) (n len : Nat) (b off : Nat) (xs : List Int) : Prop where
  tab : IsTab n xs
  eq : len = n * n
  lt : b < w.heap.size
  cells : ∀ j, j < len → w.cell? ⟨b, off + j, none⟩ = some (.int .i64 (nth xs j))
theorem TabAt.ext {w w' : World} {n len b off : Nat} {xs : List Int} (h : TabAt w n len b off xs) (hx : Ext w w') : TabAt w' n len b off xs :=
  ⟨h.tab, h.eq, Nat.lt_of_lt_of_le h.lt hx.size, fun j hj => by rw [hx.cell h.lt]; exact h.cells j hj⟩
theorem tabAt_of {w : World} {ao : Option Addr} {n : Nat} {xs : List Int} (hm : IsTab n xs) (hr : Reads w ao (ints xs)) : ∃ b off, ao = some ⟨b, off, none⟩ ∧ TabAt w n (n * n) b off xs := by
  obtain ⟨b, off, rfl, hb, hc⟩ := Reads.int hr (by rw [hm.len]; exact Nat.mul_pos hm.one hm.one)
  exact ⟨b, off, rfl, hm, rfl, hb, fun j hj => hc j (by rw [hm.len]; exact hj)⟩

set_option maxHeartbeats 1000000 in
theorem common_at (n len b off cap i j : Nat) (xs : List Int) (w : World) (hi : i < n) (hj : j < n) (ht : TabAt w n len b off xs) :
    Calls Tryd.prog 31 #[.agg #[.int .i64 n, .slice (some ⟨b, off, none⟩) len cap], .int .i64 i, .int .i64 j] w fun e w' => e = .returned (.int .i64 (comTo xs n i j n)) ∧ Ext w w' := by
  have HT := Lib.hid ht
  have h24 := ht.tab.big
  have hq := sq_bound h24
  rw [← ht.eq] at hq
  have HBN : Hid (∀ k, k ≤ n → 0 ≤ comTo xs n i j k ∧ comTo xs n i j k ≤ k) := comTo_bound ht.tab i j hi hj
  obtain ⟨u, hu⟩ : ∃ u, i * n = u := ⟨_, rfl⟩
  obtain ⟨v, hv⟩ : ∃ v, j * n = v := ⟨_, rfl⟩
  have hu' : (i : Int) * (n : Int) = u := by rw [← hu, Int.natCast_mul]
  have hv' : (j : Int) * (n : Int) = v := by rw [← hv, Int.natCast_mul]
  have HUV : Hid (∀ k, k < n → u + k < len ∧ v + k < len ∧ i * n + k = u + k ∧ j * n + k = v + k) := fun k hk => by
    have p1 := place_lt hi hk
    have p2 := place_lt hj hk
    rw [← ht.eq] at p1 p2
    rw [hu] at p1; rw [hv] at p2
    exact ⟨p1, p2, by rw [hu], by rw [hv]⟩
  have hub : u + n ≤ len := by
    have h1 : (i + 1) * n ≤ n * n := Nat.mul_le_mul_right n hi
    have h2 := ht.eq
    rw [Nat.succ_mul] at h1; omega
  have hvb : v + n ≤ len := by
    have h1 : (j + 1) * n ≤ n * n := Nat.mul_le_mul_right n hj
    have h2 := ht.eq
    rw [Nat.succ_mul] at h1; omega
  clear ht hu hv
  go_enter Tryd.func31, Tryd.ntmps31
  go_wp2
  have HB : Hid (Ext w (w.alloc (.cells #[.int .i64 n, .slice (some ⟨b, off, none⟩) len cap] 26))) := (Ext.refl _).alloc _
  have HX : Hid (Blk (w.alloc (.cells #[.int .i64 n, .slice (some ⟨b, off, none⟩) len cap] 26)) w.heap.size #[.int .i64 n, .slice (some ⟨b, off, none⟩) len cap] 26) := Blk.new _ _ _
  obtain ⟨w0, hw0⟩ : ∃ w0, w0 = w.alloc (.cells #[.int .i64 n, .slice (some ⟨b, off, none⟩) len cap] 26) := ⟨_, rfl⟩
  rw [← hw0] at HB HX ⊢
  clear hw0
  go_loopw [7, 11] (fun s a wr => ∃ k : Nat, k ≤ n ∧ a = .int .i64 k ∧ s = .int .i64 (comTo xs n i j k) ∧ Drawn w0 wr) (fun _ a _ => n - (intOf a).toNat)
  case atStart => exact ⟨0, by omega, rfl, rfl, Drawn.refl _⟩
  case round =>
    obtain ⟨k, hk, rfl, rfl, hd⟩ := hrel
    have HD := Lib.hid hd
    clear hd
    have hbn := HBN.out k hk
    by_cases hkn : k < n
    · obtain ⟨p1, p2, e1, e2⟩ := HUV.out k hkn
      have s1 := nth_bit HT.out.tab (i * n + k) (place_lt hi hkn)
      have s2 := nth_bit HT.out.tab (j * n + k) (place_lt hj hkn)
      have HS : Hid (comTo xs n i j (k + 1) = comTo xs n i j k + nth xs (i * n + k) * nth xs (j * n + k)) := rfl
      rw [e1] at s1 HS
      rw [e2] at s2 HS
      have c1 := HT.out.cells _ p1
      have c2 := HT.out.cells _ p2
      rw [← (HB.out.drawn HD.out).cell HT.out.lt] at c1 c2
      have c3 := (HX.out.drawn HD.out).two
      clear e1 e2
      obtain ⟨x, hx⟩ : ∃ x, nth xs (u + k) = x := ⟨_, rfl⟩
      obtain ⟨y, hy⟩ : ∃ y, nth xs (v + k) = y := ⟨_, rfl⟩
      obtain ⟨s, hs⟩ : ∃ s, comTo xs n i j k = s := ⟨_, rfl⟩
      rw [hx] at s1 c1 HS
      rw [hy] at s2 c2 HS
      rw [hs] at hbn HS ⊢
      have hxy : 0 ≤ x * y ∧ x * y ≤ 1 := by rcases s1 with rfl | rfl <;> rcases s2 with rfl | rfl <;> decide
      obtain ⟨hxy1, hxy2⟩ := hxy
      obtain ⟨hbn1, hbn2⟩ := hbn
      obtain ⟨c3a, c3b⟩ := c3
      clear hx hy hs s1 s2
      go_wp2_with fail
      go_quiet (fail)
      go_wp2
      go_roundw
      case rel => exact ⟨k + 1, by omega, by go_num, by rw [HS.out], HD.out.trans (Drawn.drewN _ _)⟩
      case measure => simp [intOf]; omega
    · have c3 := (HX.out.drawn HD.out).two
      obtain ⟨c3a, c3b⟩ := c3
      obtain rfl : k = n := by omega
      go_wp2
      go_ret
      exact ⟨by simp, HB.out.drawn HD.out⟩

end Go.Proofs.YtdmplinncaffpaaDoor
