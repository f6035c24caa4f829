/- Triples of elements, by their numbers; what parterreref3.triples answers. Condition: an order from 2 to 5. -/
import Derived.Test.YtnfonobdfkpkeaaDoorTbl
import Derived.Deep.LoopGhost
namespace Go.Proofs.YtnfonobdfkpkeaaDoor
open Go.RowKit
set_option linter.unusedVariables false

/-! ### Plain -/
def pX (q c : Nat) : Nat := c / (q * q)
def pY (q c : Nat) : Nat := c / q % q
def pZ (q c : Nat) : Nat := c % q
/-- The first that is not 0. -/
def lead (q c : Nat) : Nat := if pX q c ≠ 0 then pX q c else if pY q c ≠ 0 then pY q c else pZ q c
/-- The numbers of triples below n. -/
def tri (q : Nat) : Nat → List Nat
  | 0 => []
  | n + 1 => if lead q n = 1 then tri q n ++ [n] else tri q n
def trRow (q c : Nat) : List Int := [(pX q c : Int), (pY q c : Int), (pZ q c : Int)]
theorem tri_len (q : Nat) : ∀ n, (tri q n).length ≤ n
  | 0 => Nat.le_refl _
  | n + 1 => by
    rw [tri]
    have := tri_len q n
    split
    · rw [List.length_append]; simp; omega
    · omega
theorem tri_mem (q : Nat) : ∀ n c, c ∈ tri q n → c < n
  | 0, c, h => by simp [tri] at h
  | n + 1, c, h => by
    rw [tri] at h
    split at h
    · rcases List.mem_append.1 h with h | h
      · have := tri_mem q n c h; omega
      · have : c = n := by simpa using h
        omega
    · have := tri_mem q n c h; omega
theorem tri_zero (q : Nat) (hq : 2 ≤ q) : tri q 1 = [] := by
  rw [tri, if_neg]; · rfl
  unfold lead pX pY pZ
  simp
theorem tri_end (q : Nat) (h2 : 2 ≤ q) (h5 : q ≤ 5) : tri q (2 * (q * q)) = tri q (q * q * q) := by
  have : q = 2 ∨ q = 3 ∨ q = 4 ∨ q = 5 := by omega
  rcases this with rfl | rfl | rfl | rfl <;> decide +kernel
theorem tri_lt (q : Nat) (h2 : 2 ≤ q) {c : Nat} (h : c ∈ tri q (q * q * q)) : pX q c < q ∧ pY q c < q ∧ pZ q c < q :=
  ⟨Nat.div_lt_of_lt_mul (tri_mem q _ c h), Nat.mod_lt _ (by omega), Nat.mod_lt _ (by omega)⟩

def triRows (q n : Nat) : List (List Int) := (tri q n).map (trRow q)
theorem triRows_succ (q n : Nat) : triRows q (n + 1) = if lead q n = 1 then triRows q n ++ [trRow q n] else triRows q n := by
  unfold triRows
  rw [tri]
  split
  · rw [List.map_append]; rfl
  · rfl
theorem triRows_len (q n : Nat) : (triRows q n).length ≤ n := by unfold triRows; rw [List.length_map]; exact tri_len q n

set_option maxHeartbeats 4000000 in
theorem refTriples_any (q : Nat) (h2 : 2 ≤ q) (h5 : q ≤ 5) (w : World) :
    Calls Tryd.prog 18 #[.int .i64 q] w fun e w' => ∃ v, e = .returned v ∧ OwnTbl w w' v (triRows q (q * q * q)) := by
  obtain ⟨S, hS⟩ : ∃ S, q * q = S := ⟨_, rfl⟩
  obtain ⟨N, hN⟩ : ∃ N, S * q = N := ⟨_, rfl⟩
  have hSb : S ≤ 25 := by rw [← hS]; exact Nat.mul_le_mul h5 h5
  have hNb : N ≤ 125 := by rw [← hN]; exact Nat.mul_le_mul hSb h5
  have hS2 : 4 ≤ S := by rw [← hS]; exact Nat.mul_le_mul h2 h2
  have hN2 : 8 ≤ N := by rw [← hN]; exact Nat.mul_le_mul hS2 h2
  have hSi : (q : Int) * (q : Int) = S := by rw [← hS, Int.natCast_mul]
  have hNi : (S : Int) * (q : Int) = N := by rw [← hN, Int.natCast_mul]
  have HXE : Hid (∀ n, pX q n = n / S) := fun n => by show _ = _; unfold pX; rw [hS]
  have HT1 : Hid (triRows q 1 = []) := by show _ = _; unfold triRows; rw [tri_zero q h2]; rfl
  rw [hS, hN]
  clear hS hN
  go_enter Tryd.func18, Tryd.ntmps18
  go_wp2
  go_loopg [3, 4] (N - 1) (fun r y x wr => ∃ n : Nat, 1 ≤ n ∧ n + r = N ∧ x = .int .i64 n ∧ OwnTbl w wr y (triRows q n))
  case atStart => exact ⟨1, by omega, by omega, rfl, by rw [HT1.out]; exact OwnTbl.nil (Ext.refl _)⟩
  case round =>
    obtain ⟨n, hn1, hnN, rfl, hown⟩ := hrel
    obtain ⟨ao, un, uc, rfl, ht, hx⟩ := hown
    have HTB := Lib.hid ht
    have HX := Lib.hid hx
    have hun : un ≤ n := by have h1 := ht.length; have h2 := triRows_len q n; omega
    have hsz := hx.size
    clear ht hx
    cases gk with
    | zero =>
      obtain rfl : N = n := by omega
      go_wp2
      go_ret
      exact ⟨_, rfl, ao, un, uc, rfl, HTB.out, HX.out⟩
    | succ r1 =>
      have hnl : (n : Int) < (N : Int) := by omega
      have HNX := Lib.hid (triRows_succ q n)
      obtain ⟨x, hxx⟩ : ∃ x, pX q n = x := ⟨_, rfl⟩
      obtain ⟨y, hy⟩ : ∃ y, pY q n = y := ⟨_, rfl⟩
      obtain ⟨z, hz⟩ : ∃ z, pZ q n = z := ⟨_, rfl⟩
      have HLD : Hid (lead q n = if x ≠ 0 then x else if y ≠ 0 then y else z) := by show _ = _; unfold lead; rw [hxx, hy, hz]
      have HRW : Hid (trRow q n = [(x : Int), (y : Int), (z : Int)]) := by show _ = _; unfold trRow; rw [hxx, hy, hz]
      have hx' : (n : Int) / (S : Int) = x := by rw [← hxx, HXE.out]; simp
      obtain ⟨u, hu⟩ : ∃ u, n / q = u := ⟨_, rfl⟩
      have hu' : (n : Int) / (q : Int) = u := by rw [← hu]; simp
      have hy' : (u : Int) % (q : Int) = y := by rw [← hy, ← hu]; unfold pY; simp
      have hz' : (n : Int) % (q : Int) = z := by rw [← hz]; unfold pZ; simp
      have hxb : x ≤ 125 := by rw [← hxx]; unfold pX; exact Nat.le_trans (Nat.div_le_self _ _) (by omega)
      have hub : u ≤ 125 := by rw [← hu]; exact Nat.le_trans (Nat.div_le_self _ _) (by omega)
      have hyb : y ≤ 125 := by rw [← hy]; unfold pY; exact Nat.le_trans (Nat.le_of_lt (Nat.mod_lt _ (by omega))) (by omega)
      have hzb : z ≤ 125 := by rw [← hz]; unfold pZ; exact Nat.le_trans (Nat.le_of_lt (Nat.mod_lt _ (by omega))) (by omega)
      have hq0 : (q : Int) ≠ 0 := by omega
      have hS0 : (S : Int) ≠ 0 := by omega
      obtain ⟨f, hf⟩ : ∃ f, lead q n = f := ⟨_, rfl⟩
      rw [hf] at HNX HLD
      have hLD := HLD.out
      clear hxx hy hz hu hf
      by_cases hx0 : x = 0
      · rw [if_neg (fun h => h hx0)] at hLD
        have b1 : ((x : Int) == 0) = true := by rw [hx0]; rfl
        by_cases hy0 : y = 0
        · rw [if_neg (fun h => h hy0)] at hLD
          have b2 : ((y : Int) == 0) = true := by rw [hy0]; rfl
          clear hx0 hy0 HLD
          subst hLD
          by_cases hf1 : f = 1
          · have b3 : ((f : Int) == 1) = true := by rw [hf1]; rfl
            rw [if_pos hf1, HRW.out] at HNX
            clear hf1
            go_wp2_with (at_builtin; refine wpList_appRow (w := wr.alloc (.cells #[.int .i64 x, .int .i64 y, .int .i64 f] 3)) rfl (.tmp 40) (.tmp 45) rfl (fun b => w.heap.size ≤ b) w.heap.size (by rfl) (HTB.out.ext (ext_box _ _ _)) (by simp [Act.eval]) (y := .slice (some ⟨wr.heap.size, 0, none⟩) 3 3) (xs := [(x : Int), (y : Int), (f : Int)]) (RowOf.innerX (RowOf.lit 3 wr #[.int .i64 x, .int .i64 y, .int .i64 f] (by show 3 ≤ maxLen; unfold maxLen; omega)) _ _ (fun b hb => by omega) (fun b hb => (HTB.out.block b hb).2) (by unfold maxLen; omega)) (by omega) (by simp; omega) ?_; intro ao8 cap8 w8 hr8 hg8 hb8; have HR8 := Lib.hid hr8; have HB8 := Lib.hid (hb8 _ _ (HX.out.alloc (.cells #[.int .i64 x, .int .i64 y, .int .i64 f] 3)) (Nat.le_refl _)); clear hr8 hg8 hb8)
            go_roundg r1
            case measure => omega
            case rel => exact ⟨n + 1, by omega, by omega, by go_num, by rw [HNX.out]; exact ⟨ao8, un + 1, cap8, rfl, HR8.out, HB8.out⟩⟩
          · have b3 : ((f : Int) == 1) = false := by rw [beq_eq_false_iff_ne]; omega
            rw [if_neg hf1] at HNX
            clear hf1
            go_wp2
            go_roundg r1
            case measure => omega
            case rel => exact ⟨n + 1, by omega, by omega, by go_num, by rw [HNX.out]; exact ⟨ao, un, uc, rfl, HTB.out, HX.out⟩⟩
        · rw [if_pos hy0] at hLD
          have b2 : ((y : Int) == 0) = false := by rw [beq_eq_false_iff_ne]; omega
          clear hx0 hy0 HLD
          subst hLD
          by_cases hf1 : f = 1
          · have b3 : ((f : Int) == 1) = true := by rw [hf1]; rfl
            rw [if_pos hf1, HRW.out] at HNX
            clear hf1
            go_wp2_with (at_builtin; refine wpList_appRow (w := wr.alloc (.cells #[.int .i64 x, .int .i64 f, .int .i64 z] 3)) rfl (.tmp 40) (.tmp 45) rfl (fun b => w.heap.size ≤ b) w.heap.size (by rfl) (HTB.out.ext (ext_box _ _ _)) (by simp [Act.eval]) (y := .slice (some ⟨wr.heap.size, 0, none⟩) 3 3) (xs := [(x : Int), (f : Int), (z : Int)]) (RowOf.innerX (RowOf.lit 3 wr #[.int .i64 x, .int .i64 f, .int .i64 z] (by show 3 ≤ maxLen; unfold maxLen; omega)) _ _ (fun b hb => by omega) (fun b hb => (HTB.out.block b hb).2) (by unfold maxLen; omega)) (by omega) (by simp; omega) ?_; intro ao8 cap8 w8 hr8 hg8 hb8; have HR8 := Lib.hid hr8; have HB8 := Lib.hid (hb8 _ _ (HX.out.alloc (.cells #[.int .i64 x, .int .i64 f, .int .i64 z] 3)) (Nat.le_refl _)); clear hr8 hg8 hb8)
            go_roundg r1
            case measure => omega
            case rel => exact ⟨n + 1, by omega, by omega, by go_num, by rw [HNX.out]; exact ⟨ao8, un + 1, cap8, rfl, HR8.out, HB8.out⟩⟩
          · have b3 : ((f : Int) == 1) = false := by rw [beq_eq_false_iff_ne]; omega
            rw [if_neg hf1] at HNX
            clear hf1
            go_wp2
            go_roundg r1
            case measure => omega
            case rel => exact ⟨n + 1, by omega, by omega, by go_num, by rw [HNX.out]; exact ⟨ao, un, uc, rfl, HTB.out, HX.out⟩⟩
      · rw [if_pos hx0] at hLD
        have b1 : ((x : Int) == 0) = false := by rw [beq_eq_false_iff_ne]; omega
        clear hx0 HLD
        subst hLD
        by_cases hf1 : f = 1
        · have b3 : ((f : Int) == 1) = true := by rw [hf1]; rfl
          rw [if_pos hf1, HRW.out] at HNX
          clear hf1
          go_wp2_with (at_builtin; refine wpList_appRow (w := wr.alloc (.cells #[.int .i64 f, .int .i64 y, .int .i64 z] 3)) rfl (.tmp 40) (.tmp 45) rfl (fun b => w.heap.size ≤ b) w.heap.size (by rfl) (HTB.out.ext (ext_box _ _ _)) (by simp [Act.eval]) (y := .slice (some ⟨wr.heap.size, 0, none⟩) 3 3) (xs := [(f : Int), (y : Int), (z : Int)]) (RowOf.innerX (RowOf.lit 3 wr #[.int .i64 f, .int .i64 y, .int .i64 z] (by show 3 ≤ maxLen; unfold maxLen; omega)) _ _ (fun b hb => by omega) (fun b hb => (HTB.out.block b hb).2) (by unfold maxLen; omega)) (by omega) (by simp; omega) ?_; intro ao8 cap8 w8 hr8 hg8 hb8; have HR8 := Lib.hid hr8; have HB8 := Lib.hid (hb8 _ _ (HX.out.alloc (.cells #[.int .i64 f, .int .i64 y, .int .i64 z] 3)) (Nat.le_refl _)); clear hr8 hg8 hb8)
          go_roundg r1
          case measure => omega
          case rel => exact ⟨n + 1, by omega, by omega, by go_num, by rw [HNX.out]; exact ⟨ao8, un + 1, cap8, rfl, HR8.out, HB8.out⟩⟩
        · have b3 : ((f : Int) == 1) = false := by rw [beq_eq_false_iff_ne]; omega
          rw [if_neg hf1] at HNX
          clear hf1
          go_wp2
          go_roundg r1
          case measure => omega
          case rel => exact ⟨n + 1, by omega, by omega, by go_num, by rw [HNX.out]; exact ⟨ao, un, uc, rfl, HTB.out, HX.out⟩⟩

end Go.Proofs.YtnfonobdfkpkeaaDoor
