/- What space.Gauss computes: the entry of the last of its rows. -/
import Derived.Test.YthkafhmciapipaaDoorJSpaceNormalAA
namespace Go.Proofs.YthkafhmciapipaaDoor
open Go.RowKit

/-- The power as the program holds it, at place j + 1. -/
def gaP (q : Int) : Nat → Int
  | 0 => q
  | j + 1 => if 1000000000000000000 < wrap64 (gaP q j * q) then 1000000000000000000 else wrap64 (gaP q j * q)

def gaCell (q : Int) (row : List Int) (i : Nat) : Int :=
  if nth row i ≤ wrap64 ((1000000000000000000 : Int).tdiv (gaP q (i - 1))) then (if wrap64 (wrap64 (nth row i * gaP q (i - 1)) + nth row (i - 1)) < 1000000000000000001 then wrap64 (wrap64 (nth row i * gaP q (i - 1)) + nth row (i - 1)) else 1000000000000000001) else 1000000000000000001

/-- The answer: the entry, or ErrFull. -/
def gaussVal (x : Int) : Value := if 1000000000000000000 < x then .tuple #[.int .i64 0, .int .i64 3] else .tuple #[.int .i64 x, .int .i64 0]

def gaTake (q : Int) (row : List Int) : Nat → List Int
  | 0 => [1]
  | j + 1 => gaTake q row j ++ [gaCell q row (j + 1)]

def gaRow (q : Int) : Nat → List Int
  | 0 => [1]
  | m + 1 => gaTake q (gaRow q m) m ++ [1]

theorem gaTake_length (q : Int) (row : List Int) : ∀ j, (gaTake q row j).length = j + 1
  | 0 => rfl
  | j + 1 => by rw [gaTake, List.length_append, gaTake_length q row j]; rfl

theorem gaRow_length (q : Int) : ∀ m, (gaRow q m).length = m + 1
  | 0 => rfl
  | m + 1 => by rw [gaRow, List.length_append, gaTake_length]; rfl

theorem gaTake_snoc (q : Int) (row : List Int) (j : Nat) (s : Int) (h : gaCell q row (j + 1) = s) : ints (gaTake q row j) ++ [.int .i64 s] = ints (gaTake q row (j + 1)) := by
  rw [gaTake, ints_append, h]; rfl

set_option maxHeartbeats 1000000 in
theorem gauss_any (n k : Nat) (q : Int) (w : World) (hn : n ≤ 30) (hk : k ≤ n) (hq : 2 ≤ q) (hq' : q ≤ 64) (hp0 : ∀ j, j < 30 → gaP q j ≠ 0) :
    Calls Tryd.prog 9 #[.int .i64 n, .int .i64 k, .int .i64 q] w fun e w' =>
      e = .returned (gaussVal (nth (gaRow q n) k)) ∧ Below w.heap.size w w' := by
  have HP0 := Lib.hid hp0
  clear hp0
  have b1 : decide ((n : Int) < 0) = false := decide_eq_false (by omega)
  have b2 : decide (30 < (n : Int)) = false := decide_eq_false (by omega)
  have b3 : decide ((k : Int) < 0) = false := decide_eq_false (by omega)
  have b4 : decide (n < k) = false := decide_eq_false (by omega)
  have b5 : decide (q < 2) = false := decide_eq_false (by omega)
  have b6 : decide (64 < q) = false := decide_eq_false (by omega)
  go_enter Tryd.func9, Tryd.ntmps9
  go_wp2
  go_loopw [8, 38] (fun v i wr => ∃ (m : Nat) (ao : Option Addr) (cap : Nat), m ≤ n ∧ i = .int .i64 m ∧ v = .slice ao (m + 1) cap ∧ RowOf 3 wr w.heap.size ao (m + 1) cap (ints (gaRow q m)) ∧ Below w.heap.size w wr)
    (fun _ i _ => n - (intOf i).toNat)
  case atStart => exact ⟨0, _, 1, Nat.zero_le _, rfl, rfl, RowOf.lit 3 w #[.int .i64 1] (by decide), (Below.refl _ _).alloc (Nat.le_refl _) _⟩
  case round =>
    obtain ⟨m, ao, cap, hm, rfl, rfl, hrow, hbel⟩ := hrel
    obtain ⟨g, rfl, hg1, hg2, hcl, _⟩ := hrow.opened (by omega)
    by_cases hlt : m < n
    · have hd : decide ((m : Int) < (n : Int)) = true := decide_eq_true (by omega)
      go_wp2
      obtain ⟨wo, rfl⟩ : ∃ wo : World, wo = wr := ⟨_, rfl⟩
      go_loopw [9, 10, 11] (fun v p j wi => ∃ (jj : Nat) (ao2 : Option Addr) (cap2 : Nat), jj ≤ m ∧ j = .int .i64 (jj + 1) ∧ p = .int .i64 (gaP q jj) ∧ v = .slice ao2 (jj + 1) cap2 ∧
          RowOf 3 wi wo.heap.size ao2 (jj + 1) cap2 (ints (gaTake q (gaRow q m) jj)) ∧ Below wo.heap.size wo wi)
        (fun _ _ j _ => m + 1 - (intOf j).toNat)
      case atStart => exact ⟨0, _, 1, by omega, rfl, rfl, rfl, RowOf.lit 3 wo #[.int .i64 1] (by decide), (Below.refl _ _).alloc (Nat.le_refl _) _⟩
      case round =>
        obtain ⟨jj, ao2, cap2, hjj, rfl, rfl, rfl, hrow2, hbel2⟩ := hrel
        by_cases hlt2 : jj < m
        · have hgc : ∀ j, j < m + 1 → wr.cell? ⟨g, j, none⟩ = some (.int .i64 (nth (gaRow q m) j)) := fun j hj => by
            rw [hbel2.cell (p := ⟨g, j, none⟩) (by simpa using hg2)]
            exact hcl j _ (ints_get _ _ (by rw [gaRow_length]; exact hj))
          have hc1 := hgc (jj + 1) (by omega)
          have hc2 := hgc jj (by omega)
          have hpn : gaP q jj ≠ 0 := HP0.out jj (by omega)
          have HX : ∃ x, Hid (x = nth (gaRow q m) (jj + 1)) := ⟨_, rfl⟩
          obtain ⟨x0, HX⟩ := HX
          have HY : ∃ x, Hid (x = nth (gaRow q m) jj) := ⟨_, rfl⟩
          obtain ⟨y0, HY⟩ := HY
          have HP : ∃ x, Hid (x = gaP q jj) := ⟨_, rfl⟩
          obtain ⟨p0, HP⟩ := HP
          rw [← HX.out] at hc1
          rw [← HY.out] at hc2
          rw [← HP.out] at hpn ⊢
          have HR := Lib.hid hrow2
          have HB := Lib.hid hbel2
          have hsz := hbel2.size
          clear hrow2 hbel2 hgc hcl hrow hbel
          have hend : ∀ (c p' : Int) (ao' : Option Addr) (cap' : Nat) (w1 : World),
              (if x0 ≤ wrap64 ((1000000000000000000 : Int).tdiv p0) then (if wrap64 (wrap64 (x0 * p0) + y0) < 1000000000000000001 then wrap64 (wrap64 (x0 * p0) + y0) else 1000000000000000001) else 1000000000000000001) = c →
              (if 1000000000000000000 < wrap64 (p0 * q) then 1000000000000000000 else wrap64 (p0 * q)) = p' →
              RowOf 3 w1 wo.heap.size ao' (jj + 1 + 1) cap' (ints (gaTake q (gaRow q m) jj) ++ [.int .i64 c]) →
              RowOf 3 w1 wo.heap.size ao' (jj + 1 + 1) cap' (ints (gaTake q (gaRow q m) (jj + 1))) ∧ Value.int .i64 p' = .int .i64 (gaP q (jj + 1)) := by
            intro c p' ao' cap' w1 hx hp h
            rw [gaTake_snoc] at h
            · exact ⟨h, by rw [← hp, HP.out]; rfl⟩
            · rw [HX.out, HY.out, HP.out] at hx
              exact hx
          have HE := Lib.hid hend
          clear hend
          by_cases hmin : 1000000000000000000 < wrap64 (p0 * q)
          all_goals
            have HM := Lib.hid hmin
            by_cases hle : x0 ≤ wrap64 ((1000000000000000000 : Int).tdiv p0)
            · have HL := Lib.hid hle
              by_cases hsm : wrap64 (wrap64 (x0 * p0) + y0) < 1000000000000000001
              all_goals
                have HS := Lib.hid hsm
                go_wp2_with fail
                go_quiet (fail)
                go_wp2_with fail
                go_quiet (fail)
                go_wp2_with (at_builtin; refine wpList_appInt eInt rfl (.tmp 69) (.tmp 71) rfl wo.heap.size rfl HR.out rfl (by omega) (by first | omega | (simp; omega)) ?_; intro ao' cap' w1 hr1 hg1 hb1)
                have hr2 := HE.out _ _ ao' cap' w1 (by rw [if_pos HL.out]; first | rw [if_pos HS.out] | rw [if_neg (by have := HS.out; omega)]) (by first | rw [if_pos HM.out] | rw [if_neg (by have := HM.out; omega)]) hr1
                go_roundw
                case rel => exact ⟨jj + 1, ao', cap', by omega, by go_num, hr2.2, rfl, hr2.1, hb1 _ _ (HB.out.trans (World.drewN_below _ _ _)) (Nat.le_refl _)⟩
                case measure => simp [intOf]; omega
            · have HL := Lib.hid hle
              go_wp2_with fail
              go_quiet (fail)
              go_wp2_with (at_builtin; refine wpList_appInt eInt rfl (.tmp 69) (.tmp 71) rfl wo.heap.size rfl HR.out rfl (by omega) (by first | omega | (simp; omega)) ?_; intro ao' cap' w1 hr1 hg1 hb1)
              have hr2 := HE.out _ _ ao' cap' w1 (by rw [if_neg (by have := HL.out; omega)]) (by first | rw [if_pos HM.out] | rw [if_neg (by have := HM.out; omega)]) hr1
              go_roundw
              case rel => exact ⟨jj + 1, ao', cap', by omega, by go_num, hr2.2, rfl, hr2.1, hb1 _ _ (HB.out.trans (World.drewN_below _ _ _)) (Nat.le_refl _)⟩
              case measure => simp [intOf]; omega
        · obtain rfl : jj = m := by omega
          have HR := Lib.hid hrow2
          have HB := Lib.hid hbel2
          have hsz := hbel2.size
          have hsz0 := hbel.size
          have hr3 : RowOf 3 wr w.heap.size ao2 (jj + 1) cap2 (ints (gaTake q (gaRow q jj) jj)) := hrow2.mono hsz0
          have HR3 := Lib.hid hr3
          have HB0 := Lib.hid (hbel.trans (hbel2.mono hsz0))
          clear hrow2 hbel2 hr3
          go_wp2_with (at_builtin; refine wpList_appInt eInt rfl (.tmp 77) (.tmp 78) rfl w.heap.size rfl HR3.out rfl (by omega) (by first | omega | (simp; omega)) ?_; intro ao' cap' w1 hr1 hg1 hb1)
          go_roundw
          case rel => exact ⟨jj + 1, ao', cap', by omega, by go_num, rfl, (by rw [gaRow, ints_append]; exact hr1), hb1 _ _ HB0.out (Nat.le_refl _)⟩
          case measure => simp [intOf]; omega
    · obtain rfl : m = n := by omega
      have hck := hcl k _ (ints_get _ _ (by rw [gaRow_length]; omega))
      have HX : ∃ x, Hid (x = nth (gaRow q m) k) := ⟨_, rfl⟩
      obtain ⟨r, HX⟩ := HX
      rw [← HX.out] at hck
      by_cases hbig : 1000000000000000000 < r
      · have HF : Hid (gaussVal (nth (gaRow q m) k) = .tuple #[.int .i64 0, .int .i64 3]) := by rw [← HX.out]; exact if_pos hbig
        go_wp2
        go_ret2
        exact ⟨by rw [HF.out]; rfl, hbel⟩
      · have HF : Hid (gaussVal (nth (gaRow q m) k) = .tuple #[.int .i64 r, .int .i64 0]) := by rw [← HX.out]; exact if_neg hbig
        go_wp2
        go_ret2
        exact ⟨by rw [HF.out]; rfl, hbel⟩

end Go.Proofs.YthkafhmciapipaaDoor
