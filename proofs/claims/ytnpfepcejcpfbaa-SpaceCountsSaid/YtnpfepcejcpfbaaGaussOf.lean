/- What parterreref3.GaussOf computes: the entry of the last of its rows. -/
import Derived.Test.YtnpfepcejcpfbaaBase
import Derived.Test.YtnpfepcejcpfbaaTimesUp
namespace Go.Proofs.Ytnpfepcejcpfbaa
open Go.RowKit

/-- The power, -1 above 10^18. -/
def gPow (q : Int) : Nat → Int
  | 0 => 1
  | j + 1 => tUp (gPow q j) q

def gCell (q : Int) (m : Nat) (row : List Int) (j : Nat) : Int :=
  let x := if j < m then tUp (gPow q j) (nth row j) else 0
  let y := if 0 < j then nth row (j - 1) else 0
  if 0 ≤ x ∧ 0 ≤ y ∧ x + y ≤ 1000000000000000000 then x + y else -1

def gTake (q : Int) (m : Nat) (row : List Int) : Nat → List Int
  | 0 => []
  | j + 1 => gTake q m row j ++ [gCell q m row j]

def gRow (q : Int) : Nat → List Int
  | 0 => [1]
  | m + 1 => gTake q (m + 1) (gRow q m) (m + 2)

def Cap (x : Int) : Prop := -1 ≤ x ∧ x ≤ 1000000000000000000

theorem tUp_cap (a b : Int) : Cap (tUp a b) := by
  unfold tUp Cap
  split
  · omega
  · rename_i h
    have h1 : 0 ≤ a := by omega
    have h2 : 0 ≤ b := by omega
    split
    · omega
    · rename_i h4
      have := Int.mul_nonneg h1 h2
      by_cases h3 : 0 < b
      · have h5 : a ≤ 1000000000000000000 / b := by omega
        have h6 := Int.mul_le_mul_of_nonneg_right h5 h2
        have h7 := Int.ediv_mul_le 1000000000000000000 (b := b) (by omega)
        omega
      · have : b = 0 := by omega
        subst this
        simp

theorem gPow_cap (q : Int) : ∀ j, Cap (gPow q j)
  | 0 => by unfold Cap gPow; omega
  | j + 1 => tUp_cap _ _

theorem gCell_cap (q : Int) (m : Nat) (row : List Int) (j : Nat) : Cap (gCell q m row j) := by
  unfold gCell Cap
  dsimp only
  split <;> omega

theorem gTake_length (q : Int) (m : Nat) (row : List Int) : ∀ j, (gTake q m row j).length = j
  | 0 => rfl
  | j + 1 => by rw [gTake, List.length_append, gTake_length q m row j]; rfl

theorem gTake_cap (q : Int) (m : Nat) (row : List Int) : ∀ j, ∀ x ∈ gTake q m row j, Cap x
  | 0, _, h => by simp [gTake] at h
  | j + 1, x, h => by
    rw [gTake, List.mem_append] at h
    rcases h with h | h
    · exact gTake_cap q m row j x h
    · simp at h; subst h; exact gCell_cap _ _ _ _

theorem gRow_length (q : Int) : ∀ m, (gRow q m).length = m + 1
  | 0 => rfl
  | _ + 1 => gTake_length _ _ _ _

theorem gRow_cap (q : Int) : ∀ m, ∀ x ∈ gRow q m, Cap x
  | 0, x, h => by simp [gRow] at h; subst h; unfold Cap; omega
  | _ + 1, x, h => gTake_cap _ _ _ _ x h

theorem getD_cap (l : List Int) (h : ∀ x ∈ l, Cap x) (j : Nat) : Cap (nth l j) := by
  rw [nth, List.getD_eq_getElem?_getD]
  by_cases hj : j < l.length
  · rw [List.getElem?_eq_getElem hj]; exact h _ (List.getElem_mem hj)
  · rw [List.getElem?_eq_none (by omega)]; simp [Cap]

theorem gCell_yes (q : Int) (m : Nat) (row : List Int) (j : Nat) (x y : Int) (hx : x = if j < m then tUp (gPow q j) (nth row j) else 0) (hy : y = if 0 < j then nth row (j - 1) else 0)
    (h1 : 0 ≤ x) (h2 : 0 ≤ y) (h3 : x + y ≤ 1000000000000000000) : gCell q m row j = x + y := by
  unfold gCell; dsimp only; rw [← hx, ← hy, if_pos ⟨h1, h2, h3⟩]
theorem gCell_no (q : Int) (m : Nat) (row : List Int) (j : Nat) (x y : Int) (hx : x = if j < m then tUp (gPow q j) (nth row j) else 0) (hy : y = if 0 < j then nth row (j - 1) else 0)
    (h : ¬ (0 ≤ x ∧ 0 ≤ y ∧ x + y ≤ 1000000000000000000)) : gCell q m row j = -1 := by
  unfold gCell; dsimp only; rw [← hx, ← hy, if_neg h]

theorem gTake_snoc (q : Int) (m : Nat) (row : List Int) (j : Nat) (s : Int) (h : gCell q m row j = s) : ints (gTake q m row j) ++ [.int .i64 s] = ints (gTake q m row (j + 1)) := by
  rw [gTake, ints_append, h]; rfl

set_option maxHeartbeats 1000000 in
theorem gaussOf_any (n k : Nat) (q : Int) (w : World) (hn : n ≤ 30) (hk : k ≤ n) (hq : 2 ≤ q) (hq' : q ≤ 64) :
    Calls Try.prog 5 #[.int .i64 n, .int .i64 k, .int .i64 q] w fun e w' => e = .returned (.int .i64 (nth (gRow q n) k)) ∧ Below w.heap.size w w' := by
  go_enter Try.func5, Try.ntmps5
  go_wp2
  go_loopw [7, 8] (fun v i wr => ∃ (m : Nat) (ao : Option Addr) (cap : Nat), m ≤ n ∧ i = .int .i64 (m + 1) ∧ v = .slice ao (m + 1) cap ∧ RowOf 3 wr w.heap.size ao (m + 1) cap (ints (gRow q m)) ∧ Below w.heap.size w wr)
    (fun _ i _ => n + 1 - (intOf i).toNat)
  case atStart => exact ⟨0, _, 1, Nat.zero_le _, rfl, rfl, RowOf.lit 3 w #[.int .i64 1] (by decide), (Below.refl _ _).alloc (Nat.le_refl _) _⟩
  case round =>
    obtain ⟨m, ao, cap, hm, rfl, rfl, hrow, hbel⟩ := hrel
    obtain ⟨g, rfl, hg1, hg2, hcl, _⟩ := hrow.opened (by omega)
    by_cases hlt : m < n
    · have hd : decide ((m : Int) + 1 ≤ (n : Int)) = true := by simp; omega
      go_wp2
      obtain ⟨wo, rfl⟩ : ∃ wo : World, wo = wr := ⟨_, rfl⟩
      go_loopw [9, 10, 11] (fun v p j wi => ∃ (jj : Nat) (ao2 : Option Addr) (cap2 : Nat), jj ≤ m + 2 ∧ j = .int .i64 jj ∧ p = .int .i64 (gPow q jj) ∧ v = .slice ao2 jj cap2 ∧
          RowOf 3 wi wo.heap.size ao2 jj cap2 (ints (gTake q (m + 1) (gRow q m) jj)) ∧ Below wo.heap.size wo wi)
        (fun _ _ j _ => m + 2 - (intOf j).toNat)
      case atStart => exact ⟨0, none, 0, by omega, rfl, rfl, rfl, RowOf.nil _ _ _, Below.refl _ _⟩
      case round =>
        obtain ⟨jj, ao2, cap2, hjj, rfl, rfl, rfl, hrow2, hbel2⟩ := hrel
        by_cases hlt2 : jj < m + 2
        · have hgc : ∀ j, j < m + 1 → wr.cell? ⟨g, j, none⟩ = some (.int .i64 (nth (gRow q m) j)) := fun j hj => by
            rw [hbel2.cell (p := ⟨g, j, none⟩) (by simpa using hg2)]
            exact hcl j _ (ints_get _ _ (by rw [gRow_length]; exact hj))
          have hp := gPow_cap q jj
          have hp' := gPow_cap q (jj + 1)
          have hr1 := getD_cap _ (gRow_cap q m) jj
          have hr2 := getD_cap _ (gRow_cap q m) (jj - 1)
          have hc1 : jj < m + 1 → wr.cell? ⟨g, jj, none⟩ = some (.int .i64 (nth (gRow q m) jj)) := hgc jj
          have hc2 : 0 < jj → wr.cell? ⟨g, jj - 1, none⟩ = some (.int .i64 (nth (gRow q m) (jj - 1))) := fun h => hgc (jj - 1) (by omega)
          have HX : ∃ x, Hid (x = nth (gRow q m) jj) := ⟨_, rfl⟩
          obtain ⟨x0, HX⟩ := HX
          have HY : ∃ x, Hid (x = nth (gRow q m) (jj - 1)) := ⟨_, rfl⟩
          obtain ⟨y0, HY⟩ := HY
          have HP : ∃ x, Hid (x = gPow q jj) := ⟨_, rfl⟩
          obtain ⟨p0, HP⟩ := HP
          have HP' : Hid (gPow q (jj + 1) = tUp p0 q) := by rw [HP.out]; rfl
          rw [← HX.out] at hc1 hr1
          rw [← HY.out] at hc2 hr2
          rw [← HP.out] at hp ⊢
          rw [HP'.out] at hp'
          have ht := tUp_cap p0 x0
          unfold Cap at hp hp' hr1 hr2 ht
          obtain ⟨hp1, hp2⟩ := hp
          obtain ⟨hp3, hp4⟩ := hp'
          obtain ⟨hr3, hr4⟩ := hr1
          obtain ⟨hr5, hr6⟩ := hr2
          obtain ⟨ht1, ht2⟩ := ht
          have HR := Lib.hid hrow2
          have HB := Lib.hid hbel2
          have hsz := hbel2.size
          clear hrow2 hbel2 hgc hcl hrow hbel
          have hend : ∀ (x y s : Int) (ao' : Option Addr) (cap' : Nat) (w1 : World), x = (if jj < m + 1 then tUp p0 x0 else 0) → y = (if 0 < jj then y0 else 0) →
              (0 ≤ x ∧ 0 ≤ y ∧ x + y ≤ 1000000000000000000 ∧ s = x + y ∨ ¬ (0 ≤ x ∧ 0 ≤ y ∧ x + y ≤ 1000000000000000000) ∧ s = -1) →
              RowOf 3 w1 wo.heap.size ao' (jj + 1) cap' (ints (gTake q (m + 1) (gRow q m) jj) ++ [.int .i64 s]) →
              RowOf 3 w1 wo.heap.size ao' (jj + 1) cap' (ints (gTake q (m + 1) (gRow q m) (jj + 1))) := by
            intro x y s ao' cap' w1 hx hy hs h
            rw [HP.out, HX.out] at hx
            rw [HY.out] at hy
            rw [gTake_snoc] at h
            · exact h
            · rcases hs with ⟨h1, h2, h3, rfl⟩ | ⟨h1, rfl⟩
              · exact gCell_yes q (m + 1) (gRow q m) jj x y hx hy h1 h2 h3
              · exact gCell_no q (m + 1) (gRow q m) jj x y hx hy h1
          have HE := Lib.hid hend
          clear hend
          rcases (show jj < 1 ∨ (0 < jj ∧ jj < m + 1) ∨ m + 1 ≤ jj by omega) with h1 | ⟨h1, h2⟩ | h1
          · have hc1' := hc1 (by omega)
            clear hc1 hc2
            go_wp2_with (first
              | (go_at_call 6; refine (timesUp_any _ _ _ (by omega) (by omega) (by omega) (by omega)).mono ?_; rintro e w' ⟨rfl, rfl⟩)
              | (at_builtin; refine wpList_appInt eInt rfl (.tmp 57) (.tmp 59) rfl wo.heap.size rfl HR.out rfl (by omega) (by omega) ?_; intro ao' cap' w1 hr1 hg1 hb1))
            all_goals
              have hr2 := HE.out (tUp p0 x0) 0 _ ao' cap' w1 (by rw [if_pos (by omega)]) (by rw [if_neg (by omega)]) (by omega) hr1
              go_roundw
              case rel => exact ⟨jj + 1, ao', cap', by omega, by go_num, by rw [HP'.out], rfl, hr2, hb1 _ _ HB.out (Nat.le_refl _)⟩
              case measure => simp [intOf]; omega
          · have hc1' := hc1 h2
            have hc2' := hc2 h1
            clear hc1 hc2
            go_wp2_with (first
              | (go_at_call 6; refine (timesUp_any _ _ _ (by omega) (by omega) (by omega) (by omega)).mono ?_; rintro e w' ⟨rfl, rfl⟩)
              | (at_builtin; refine wpList_appInt eInt rfl (.tmp 57) (.tmp 59) rfl wo.heap.size rfl HR.out rfl (by omega) (by omega) ?_; intro ao' cap' w1 hr1 hg1 hb1))
            all_goals
              have hr2 := HE.out (tUp p0 x0) y0 _ ao' cap' w1 (by rw [if_pos h2]) (by rw [if_pos h1]) (by omega) hr1
              go_roundw
              case rel => exact ⟨jj + 1, ao', cap', by omega, by go_num, by rw [HP'.out], rfl, hr2, hb1 _ _ HB.out (Nat.le_refl _)⟩
              case measure => simp [intOf]; omega
          · have hc2' := hc2 (by omega)
            clear hc1 hc2
            go_wp2_with (first
              | (go_at_call 6; refine (timesUp_any _ _ _ (by omega) (by omega) (by omega) (by omega)).mono ?_; rintro e w' ⟨rfl, rfl⟩)
              | (at_builtin; refine wpList_appInt eInt rfl (.tmp 57) (.tmp 59) rfl wo.heap.size rfl HR.out rfl (by omega) (by omega) ?_; intro ao' cap' w1 hr1 hg1 hb1))
            all_goals
              have hr2 := HE.out 0 y0 _ ao' cap' w1 (by rw [if_neg (by omega)]) (by rw [if_pos (by omega)]) (by omega) hr1
              go_roundw
              case rel => exact ⟨jj + 1, ao', cap', by omega, by go_num, by rw [HP'.out], rfl, hr2, hb1 _ _ HB.out (Nat.le_refl _)⟩
              case measure => simp [intOf]; omega
        · obtain rfl : jj = m + 2 := by omega
          go_wp2
          go_roundw
          case rel => exact ⟨m + 1, ao2, cap2, by omega, by go_num, rfl, hrow2.mono (by omega), hbel.trans (hbel2.mono (by omega))⟩
          case measure => simp [intOf]; omega
    · obtain rfl : m = n := by omega
      have hck := hcl k _ (ints_get _ _ (by rw [gRow_length]; omega))
      go_wp2
      go_ret
      exact ⟨rfl, hbel⟩

end Go.Proofs.Ytnpfepcejcpfbaa
