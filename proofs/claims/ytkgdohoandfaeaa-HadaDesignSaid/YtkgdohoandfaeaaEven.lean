/- What hada.even makes of a matrix of signs. -/
import Derived.Test.YtkgdohoandfaeaaHadaFact
namespace Go.Proofs.Ytkgdohoandfaeaa
open Go.RowKit

/-- A cell of a matrix. -/
def at2 (xs : List Int) (n i j : Nat) : Int := nth xs (i * n + j)

/-- A matrix that lies behind boxes: the matrix's own, and the side's. -/
structure MatBox (w : World) (bs bn b off : Nat) (n len cap : Nat) (xs : List Int) : Prop where
  box : w.cell? ⟨bs, 1, none⟩ = some (.slice (some ⟨b, off, none⟩) len cap)
  side : w.cell? ⟨bn, 0, none⟩ = some (.int .i64 n)
  cells : ∀ j, j < len → w.cell? ⟨b, off + j, none⟩ = some (.int .i64 (nth xs j))

theorem MatBox.drawn {w w' : World} {bs bn b off n len cap : Nat} {xs : List Int} (h : MatBox w bs bn b off n len cap xs) (hd : Drawn w w') : MatBox w' bs bn b off n len cap xs :=
  ⟨by rw [hd.cell]; exact h.box, by rw [hd.cell]; exact h.side, fun j hj => by rw [hd.cell]; exact h.cells j hj⟩

set_option maxHeartbeats 400000 in
theorem even1_any (bs bn b off n len cap i j : Nat) (xs : List Int) (w : World) (hm : IsMat n xs) (hl : len = n * n) (hi : i < n) (hj : j < n) (hb : MatBox w bs bn b off n len cap xs) :
    Calls Try.prog 25 #[.int .i64 i, .int .i64 j, .pointer (some ⟨bs, 0, none⟩), .pointer (some ⟨bn, 0, none⟩)] w fun e w' => e = .returned (.int .i64 (at2 xs n i j * at2 xs n i 0)) ∧ Drawn w w' := by
  have hq := sq_bound hm.big
  have p1 := place_lt hi hj
  have p2 := place_lt hi (show 0 < n by omega)
  have s1 := nth_sign hm _ p1
  have s2 := nth_sign hm _ p2
  rw [← hl] at p1 p2 hq
  have c1 := hb.cells _ p1
  have c2 := hb.cells _ p2
  have c3 := hb.box
  have c4 := hb.side
  have HS : Hid (at2 xs n i j * at2 xs n i 0 = nth xs (i * n + j) * nth xs (i * n + 0)) := rfl
  obtain ⟨x, hx⟩ : ∃ x, nth xs (i * n + j) = x := ⟨_, rfl⟩
  obtain ⟨y, hy⟩ : ∃ y, nth xs (i * n + 0) = y := ⟨_, rfl⟩
  rw [hx] at s1 c1 HS
  rw [hy] at s2 c2 HS
  have hxy : -1 ≤ x * y ∧ x * y ≤ 1 := by rcases s1 with rfl | rfl <;> rcases s2 with rfl | rfl <;> decide
  obtain ⟨hxy1, hxy2⟩ := hxy
  obtain ⟨u, hu⟩ : ∃ u, i * n = u := ⟨_, rfl⟩
  have hu' : (i : Int) * (n : Int) = u := by rw [← hu, Int.natCast_mul]
  rw [hu] at p1 c1 p2 c2
  rw [Nat.add_zero] at p2 c2
  have n24 := hm.big
  clear hx hy hu hb hm s1 s2 hl
  go_enter Try.func25, Try.ntmps25
  go_wp2_with fail
  go_quiet (fail)
  go_wp2
  go_ret
  exact ⟨by rw [HS.out]; rfl, Drawn.drewN _ _⟩

/-- A cell of the matrix made even. -/
def evenCell (xs : List Int) (n i j : Nat) : Int := at2 xs n i j * at2 xs n i 0 * (at2 xs n 0 j * at2 xs n 0 0)

theorem at2_sign {n : Nat} {xs : List Int} (hm : IsMat n xs) {i j : Nat} (hi : i < n) (hj : j < n) : at2 xs n i j = 1 ∨ at2 xs n i j = -1 := nth_sign hm _ (place_lt hi hj)
theorem sign_mul {x y : Int} (hx : x = 1 ∨ x = -1) (hy : y = 1 ∨ y = -1) : x * y = 1 ∨ x * y = -1 := by rcases hx with rfl | rfl <;> rcases hy with rfl | rfl <;> decide

set_option maxHeartbeats 400000 in
theorem even2_any (bf bs bn b off n len cap i j : Nat) (xs : List Int) (w : World) (hm : IsMat n xs) (hl : len = n * n) (hi : i < n) (hj : j < n) (hb : MatBox w bs bn b off n len cap xs)
    (hf : w.cell? ⟨bf, 0, none⟩ = some (.func (.func 25) #[] #[.pointer (some ⟨bs, 0, none⟩), .pointer (some ⟨bn, 0, none⟩)])) :
    Calls Try.prog 27 #[.int .i64 i, .int .i64 j, .pointer (some ⟨bf, 0, none⟩)] w fun e w' => e = .returned (.int .i64 (evenCell xs n i j)) ∧ Drawn w w' := by
  have H1 := Lib.hid (fun k => even1_any bs bn b off n len cap i j xs (w.drewN k) hm hl hi hj (hb.drawn ⟨k, rfl⟩))
  have H2 := Lib.hid (fun k => even1_any bs bn b off n len cap 0 j xs (w.drewN k) hm hl (show 0 < n by omega) hj (hb.drawn ⟨k, rfl⟩))
  have s1 := sign_mul (at2_sign hm hi hj) (at2_sign hm hi (show 0 < n by omega))
  have s2 := sign_mul (at2_sign hm (show 0 < n by omega) hj) (at2_sign hm (show 0 < n by omega) (show 0 < n by omega))
  have HS : Hid (evenCell xs n i j = at2 xs n i j * at2 xs n i 0 * (at2 xs n 0 j * at2 xs n 0 0)) := rfl
  obtain ⟨x, hx⟩ : ∃ x, at2 xs n i j * at2 xs n i 0 = x := ⟨_, rfl⟩
  obtain ⟨y, hy⟩ : ∃ y, at2 xs n 0 j * at2 xs n 0 0 = y := ⟨_, rfl⟩
  rw [hx] at s1 HS H1
  rw [hy] at s2 HS H2
  have hxy : -1 ≤ x * y ∧ x * y ≤ 1 := by rcases s1 with rfl | rfl <;> rcases s2 with rfl | rfl <;> decide
  obtain ⟨hxy1, hxy2⟩ := hxy
  clear hx hy hb hm s1 s2 hl
  go_enter Try.func27, Try.ntmps27
  go_wp2_with fail
  go_quiet (first
    | (go_at_call_of 25 (Value.int IntKind.i64 (i : Int)); exact Calls.quiet_of (H1.out _))
    | (go_at_call_of 25 (Value.int IntKind.i64 0); exact Calls.quiet_of (H2.out _)))
  go_wp2
  go_ret
  exact ⟨by rw [HS.out]; rfl, Drawn.drewN _ _⟩

end Go.Proofs.Ytkgdohoandfaeaa
