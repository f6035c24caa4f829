/- What parterreref3.SpectrumOf answers at a list of zeros and ones, not longer than 256. -/
import Derived.Test.YtbbjjfgainbmdaaSpectrum
namespace Go.Proofs.Ytbbjjfgainbmdaa
open Go.RowKit

theorem wt_le (x : Nat) : wt x ≤ 8 := wtF_le 8 x

/-- One place of the sum. -/
def spStep (xs : List Int) (a x : Nat) (s : Int) : Int := if ((wt (a &&& x) : Int) + nth xs x) % 2 = 0 then s + 1 else s - 1
def spAcc (xs : List Int) (a : Nat) : Nat → Int := acc (spStep xs a) 0

theorem spAcc_bound (xs : List Int) (a : Nat) : ∀ k : Nat, -(k : Int) ≤ spAcc xs a k ∧ spAcc xs a k ≤ k
  | 0 => by simp [spAcc, acc]
  | k + 1 => by
    have h := spAcc_bound xs a k
    have e : spAcc xs a (k + 1) = spStep xs a k (spAcc xs a k) := rfl
    rw [e, spStep]
    split <;> omega

set_option maxHeartbeats 1000000 in
theorem spectrumOf_any (b off n cap : Nat) (xs : List Int) (w : World) (hn : xs.length = n) (hn8 : n ≤ 256) (h01 : ∀ i, nth xs i = 0 ∨ nth xs i = 1) (hlt : b < w.heap.size) (hc : ∀ j u, (ints xs)[j]? = some u → w.cell? ⟨b, off + j, none⟩ = some u) :
    Calls Try.prog 23 #[.slice (some ⟨b, off, none⟩) n cap] w fun e w' =>
      ∃ ao cap', e = .returned (.slice ao n cap') ∧ RowOf 3 w' w.heap.size ao n cap' (ints (tab (fun a => spAcc xs a n) n)) ∧ Below w.heap.size w w' := by
  have HN := Lib.hid hn
  have HC := Lib.hid hc
  have H01 := Lib.hid h01
  clear hn hc h01
  go_enter Try.func23, Try.ntmps23
  go_wp2
  go_loopw [3, 4] (fun v i wr => ∃ (a : Nat) (ao : Option Addr) (cp : Nat), a ≤ n ∧ i = .int .i64 a ∧ v = .slice ao a cp ∧ RowOf 3 wr w.heap.size ao a cp (ints (tab (fun a => spAcc xs a n) a)) ∧ Below w.heap.size w wr) (fun _ i _ => n - (intOf i).toNat)
  case atStart => exact ⟨0, none, 0, by omega, rfl, rfl, RowOf.nil _ _ _, Below.refl _ _⟩
  case round =>
    obtain ⟨a, ao, cp, ha, rfl, rfl, hrow, hbel⟩ := hrel
    have HROW := Lib.hid hrow
    have HBEL := Lib.hid hbel
    have hs2 := hbel.size
    clear hrow
    by_cases han : a < n
    · have hd : decide (a < n) = true := decide_eq_true han
      clear hbel
      go_wp2
      obtain ⟨wo, rfl⟩ : ∃ wo : World, wo = wr := ⟨_, rfl⟩
      go_loop [5, 6] (fun s i => ∃ x : Nat, x ≤ n ∧ i = .int .i64 x ∧ s = .int .i64 (spAcc xs a x)) (fun _ i => n - (intOf i).toNat)
      case atStart => exact ⟨0, by omega, rfl, rfl⟩
      case round =>
        obtain ⟨x, hx, rfl, rfl⟩ := hrel
        by_cases hxn : x < n
        · have hcx : wo.cell? ⟨b, off + x, none⟩ = some (.int .i64 (nth xs x)) := by
            rw [HBEL.out.cell (p := ⟨b, off + x, none⟩) hlt]
            exact HC.out x _ (ints_get xs x (by rw [HN.out]; exact hxn))
          have hand : bits .and .i64 (a : Int) (x : Int) = ((a &&& x : Nat) : Int) := bits_and_nat a x (by omega) (by omega)
          have hw := weight_any (a &&& x) wo (Nat.lt_of_le_of_lt Nat.and_le_left (by omega))
          have hwl := wt_le (a &&& x)
          have hb := spAcc_bound xs a x
          have hb' := spAcc_bound xs a (x + 1)
          have h01 := H01.out x
          have HS : Hid (spAcc xs a (x + 1) = spStep xs a x (spAcc xs a x)) := rfl
          unfold spStep at HS
          obtain ⟨s0, hs0⟩ : ∃ s0, spAcc xs a x = s0 := ⟨_, rfl⟩
          obtain ⟨y, hy⟩ : ∃ y, nth xs x = y := ⟨_, rfl⟩
          obtain ⟨u, hu⟩ : ∃ u, wt (a &&& x) = u := ⟨_, rfl⟩
          rw [hu] at hw hwl HS
          rw [hy] at hcx h01 HS
          rw [hs0] at hb HS ⊢
          have HW := Lib.hid hw
          have hy0 : 0 ≤ y := by omega
          have hy1 : y ≤ 1 := by omega
          obtain ⟨hb1, hb2⟩ := hb
          clear hu hy hs0 hw h01 hb'
          by_cases hp : ((u : Int) + y) % 2 = 0
          · have hp2 : (((u : Int) + y) % 2 == 0) = true := by rw [hp]; rfl
            have HS2 : Hid (spAcc xs a (x + 1) = s0 + 1) := by rw [HS.out, if_pos hp]; rfl
            clear hp
            go_wp2_with (go_at_call 34; refine HW.out.mono ?_; rintro e w' ⟨rfl, rfl⟩)
            go_round
            case rel => exact ⟨x + 1, by omega, by go_num, by rw [HS2.out]⟩
            case measure => simp [intOf]; omega
          · have hp2 : (((u : Int) + y) % 2 == 0) = false := by rw [beq_eq_false_iff_ne]; exact hp
            have HS2 : Hid (spAcc xs a (x + 1) = s0 - 1) := by rw [HS.out, if_neg hp]; rfl
            clear hp
            go_wp2_with (go_at_call 34; refine HW.out.mono ?_; rintro e w' ⟨rfl, rfl⟩)
            go_round
            case rel => exact ⟨x + 1, by omega, by go_num, by rw [HS2.out]⟩
            case measure => simp [intOf]; omega
        · obtain rfl : x = n := by omega
          obtain ⟨s0, hs0⟩ : ∃ s0, spAcc xs a x = s0 := ⟨_, rfl⟩
          have HS := Lib.hid hs0
          rw [hs0]
          clear hs0
          go_wp2_with (at_builtin; refine wpList_appInt eInt rfl (.tmp 36) (.tmp 38) rfl w.heap.size rfl HROW.out rfl (by omega) (by omega) ?_; intro ao' cap' w2 hr1 hg1 hb1)
          go_roundw
          case rel => exact ⟨a + 1, ao', cap', by omega, by go_num, rfl, by rw [← tab_snoc (fun a => spAcc xs a x) a s0 HS.out]; exact hr1, hb1 _ _ HBEL.out (Nat.le_refl _)⟩
          case measure => simp [intOf]; omega
    · obtain rfl : a = n := by omega
      go_wp2
      go_ret
      exact ⟨ao, cp, rfl, HROW.out, hbel⟩

end Go.Proofs.Ytbbjjfgainbmdaa
