/- What parterreref3.chosen answers: Pascal's numbers. Conditions: 0 ≤ i ≤ n ≤ 30. -/
import Derived.Test.YtfggmgfobcgadaaBase
namespace Go.Proofs.Ytfggmgfobcgadaa
open Go.RowKit

def pasTake (row : List Int) : Nat → List Int
  | 0 => [1]
  | j + 1 => pasTake row j ++ [nth row j + nth row (j + 1)]
def pasRow : Nat → List Int
  | 0 => [1]
  | m + 1 => pasTake (pasRow m) m ++ [1]
theorem pasTake_length (row : List Int) : ∀ j, (pasTake row j).length = j + 1
  | 0 => rfl
  | j + 1 => by rw [pasTake, List.length_append, pasTake_length row j]; rfl
theorem pasRow_length : ∀ m, (pasRow m).length = m + 1
  | 0 => rfl
  | m + 1 => by rw [pasRow, List.length_append, pasTake_length]; rfl
theorem pasTake_snoc (row : List Int) (j : Nat) (s : Int) (h : nth row j + nth row (j + 1) = s) : ints (pasTake row j) ++ [.int .i64 s] = ints (pasTake row (j + 1)) := by
  rw [pasTake, ints_append, h]; rfl

theorem pas_check : ((List.range 31).all fun m => (pasRow m).all fun x => decide (1 ≤ x ∧ x ≤ 200000000)) = true := by decide +kernel
theorem pas_bound (m j : Nat) (hm : m ≤ 30) (hj : j ≤ m) : 1 ≤ nth (pasRow m) j ∧ nth (pasRow m) j ≤ 200000000 := by
  have h := pas_check
  rw [List.all_eq_true] at h
  have h := h m (List.mem_range.2 (by omega))
  rw [List.all_eq_true] at h
  exact of_decide_eq_true (h _ (nth_mem _ j (by rw [pasRow_length]; omega)))

set_option maxHeartbeats 1000000 in
theorem chosen_any (n i : Nat) (w : World) (hn : n ≤ 30) (hi : i ≤ n) :
    Calls Try.prog 24 #[.int .i64 n, .int .i64 i] w fun e w' => e = .returned (.int .i64 (nth (pasRow n) i)) ∧ Below w.heap.size w w' := by
  have b1 : decide ((i : Int) < 0) = false := decide_eq_false (by omega)
  have b2 : decide (n < i) = false := decide_eq_false (by omega)
  go_enter Try.func24, Try.ntmps24
  go_wp2
  go_loopw [5, 6] (fun v a wr => ∃ (m : Nat) (ao : Option Addr) (cap : Nat), m ≤ n ∧ a = .int .i64 (m + 1) ∧ v = .slice ao (m + 1) cap ∧ RowOf 3 wr w.heap.size ao (m + 1) cap (ints (pasRow m)) ∧ Below w.heap.size w wr)
    (fun _ a _ => n + 1 - (intOf a).toNat)
  case atStart => exact ⟨0, _, 1, Nat.zero_le _, rfl, rfl, RowOf.lit 3 w #[.int .i64 1] (by decide), (Below.refl _ _).alloc (Nat.le_refl _) _⟩
  case round =>
    obtain ⟨m, ao, cap, hm, rfl, rfl, hrow, hbel⟩ := hrel
    obtain ⟨g, rfl, hg1, hg2, hcl, _⟩ := hrow.opened (by omega)
    by_cases hlt : m < n
    · have hd : decide ((m : Int) + 1 ≤ (n : Int)) = true := decide_eq_true (by omega)
      go_wp2
      obtain ⟨wo, rfl⟩ : ∃ wo : World, wo = wr := ⟨_, rfl⟩
      go_loopw [7, 8] (fun v j wi => ∃ (jj : Nat) (ao2 : Option Addr) (cap2 : Nat), jj ≤ m ∧ j = .int .i64 (jj + 1) ∧ v = .slice ao2 (jj + 1) cap2 ∧
          RowOf 3 wi wo.heap.size ao2 (jj + 1) cap2 (ints (pasTake (pasRow m) jj)) ∧ Below wo.heap.size wo wi)
        (fun _ j _ => m + 1 - (intOf j).toNat)
      case atStart => exact ⟨0, _, 1, by omega, rfl, rfl, RowOf.lit 3 wo #[.int .i64 1] (by decide), (Below.refl _ _).alloc (Nat.le_refl _) _⟩
      case round =>
        obtain ⟨jj, ao2, cap2, hjj, rfl, rfl, hrow2, hbel2⟩ := hrel
        have HR := Lib.hid hrow2
        have HB := Lib.hid hbel2
        have hsz := hbel2.size
        have hsz0 := hbel.size
        by_cases hlt2 : jj < m
        · have hgc : ∀ j, j < m + 1 → wr.cell? ⟨g, j, none⟩ = some (.int .i64 (nth (pasRow m) j)) := fun j hj => by
            rw [hbel2.cell (p := ⟨g, j, none⟩) (by simpa using hg2)]
            exact hcl j _ (ints_get _ _ (by rw [pasRow_length]; exact hj))
          have hc1 := hgc jj (by omega)
          have hc2 := hgc (jj + 1) (by omega)
          have hb1 := pas_bound m jj (by omega) (by omega)
          have hb2 := pas_bound m (jj + 1) (by omega) (by omega)
          obtain ⟨x, hx⟩ : ∃ x, nth (pasRow m) jj = x := ⟨_, rfl⟩
          obtain ⟨y, hy⟩ : ∃ y, nth (pasRow m) (jj + 1) = y := ⟨_, rfl⟩
          rw [hx] at hc1 hb1
          rw [hy] at hc2 hb2
          have HX := Lib.hid hx
          have HY := Lib.hid hy
          clear hrow2 hbel2 hgc hcl hrow hbel hx hy
          have ei1 : IntKind.i64.wrap (jj : Int) = (jj : Int) := IntWalk.i64_in _ (by omega)
          have ei2 : ((jj : Int) + 1).toNat = jj + 1 := by omega
          have ei3 : IntKind.i64.wrap (x + y) = x + y := IntWalk.i64_in _ (by omega)
          have ei4 : (0 : Int) ≤ (jj : Int) + 1 := by omega
          have ei5 : (jj : Int) < (m : Int) + 1 := by omega
          have ei6 : (jj : Int) + 1 < (m : Int) + 1 := by omega
          go_wp2_with fail
          go_region_law (refine step_app eInt rfl (.tmp 28) (.tmp 39) rfl wo.heap.size (by simp [Act.eval]; try exact ⟨rfl, rfl, rfl⟩) (World.ownsRow.drew (World.ownsRow.alloc HR.out _)) ⟨wr.heap.size, 0, none⟩ (.int .i64 (x + y)) (by simp [Act.eval]) (by simp [World.cell?_alloc_at]) rfl (by omega) (by simp; omega) ?_; intro ao' cap' w1 hr1 hg1 hb1)
          all_goals
            go_wp2
            go_roundw
            case rel => exact ⟨jj + 1, ao', cap', by omega, by go_num, rfl, by rw [← pasTake_snoc (pasRow m) jj (x + y) (by rw [HX.out, HY.out])]; exact hr1, hb1 _ _ ((HB.out.alloc hsz _).drew) (Nat.le_refl _)⟩
            case measure => simp [intOf]; omega
        · obtain rfl : jj = m := by omega
          have hr3 : RowOf 3 wr w.heap.size ao2 (jj + 1) cap2 (ints (pasTake (pasRow jj) jj)) := hrow2.mono hsz0
          have HR3 := Lib.hid hr3
          have HB0 := Lib.hid (hbel.trans (hbel2.mono hsz0))
          clear hrow2 hbel2 hr3
          go_wp2_with (at_builtin; refine wpList_appInt eInt rfl (.tmp 41) (.tmp 42) rfl w.heap.size rfl HR3.out rfl (by omega) (by first | omega | (simp; omega)) ?_; intro ao' cap' w1 hr1 hg1 hb1)
          go_roundw
          case rel => exact ⟨jj + 1, ao', cap', by omega, by go_num, rfl, (by rw [pasRow, ints_append]; exact hr1), hb1 _ _ HB0.out (Nat.le_refl _)⟩
          case measure => simp [intOf]; omega
    · obtain rfl : m = n := by omega
      have hck := hcl i _ (ints_get _ _ (by rw [pasRow_length]; omega))
      go_wp2
      go_ret
      exact ⟨rfl, hbel⟩

end Go.Proofs.Ytfggmgfobcgadaa
