/- Where rows begin, as the program finds it. No conditions. -/
import Derived.Test.YthkafhmciapipaaDoorJmhopkphflc
namespace Go.Proofs.YthkafhmciapipaaDoor
open Go.RowKit

def nz (x : Int) : Bool := x != 0
def leadOf (n : Nat) (f : Nat → Nat) : Int := idxFrom nz (nrow f n) 0
theorem leadOf_is {n i : Nat} {f : Nat → Nat} (hi : i < n) (h : f i ≠ 0) (hz : ∀ j, j < i → f j = 0) : leadOf n f = i := by
  unfold leadOf
  rw [idxFrom_hit nz (nrow f n) 0 i (by rw [nrow_length]; exact hi) (by rw [nth_nrow f hi]; unfold nz; rw [bne_iff_ne]; omega) (fun j hj => by rw [nth_nrow f (by omega), hz j hj]; rfl)]
  omega

set_option maxHeartbeats 400000 in
theorem leads_pred (xs : List Int) (w : World) : PredOn 66 #[] xs nz w := by
  intro x _ w' _
  unfold nz
  go_enter Tryd.func66, Tryd.ntmps66
  go_wp2
  go_ret
  exact ⟨rfl, Drawn.refl _⟩

set_option maxHeartbeats 2000000 in
theorem leads_any (n : Nat) (ao : Option Addr) (m cap : Nat) (B : List (Nat → Nat)) (w : World) (hm : B.length = m) (hbig : m ≤ 100) (hn : n ≤ 64) (hr : ReadsL w ao (rowsN n B)) :
    Calls Tryd.prog 51 #[.slice ao m cap] w fun e w' => ∃ v, e = .returned v ∧ OwnInts w w' v (tab (fun i => leadOf n (fAt B i)) m) := by
  have HR := Lib.hid hr
  have HM := Lib.hid hm
  clear hr hm
  go_enter Tryd.func51, Tryd.ntmps51
  go_wp2
  go_loopw [3, 8] (fun x y wr => ∃ j : Nat, j ≤ m ∧ y = .int .i64 j ∧ OwnInts w wr x (tab (fun i => leadOf n (fAt B i)) j)) (fun _ y _ => m - (intOf y).toNat)
  case atStart => exact ⟨0, by omega, rfl, OwnInts.nil (Ext.refl _)⟩
  case round =>
    obtain ⟨j, hj, rfl, hown⟩ := hrel
    obtain ⟨ao3, len2, cap3, rfl, hrow, hx⟩ := hown
    have HRW := Lib.hid hrow
    have HX := Lib.hid hx
    have hl2 : len2 = j := by have := hrow.length; rw [ints_length, tab_length] at this; omega
    have hBw := hx.size
    clear hrow hx
    subst hl2
    by_cases hjm : len2 < m
    · obtain ⟨bb, off, rfl, _, hrw⟩ := (HR.out.ext HX.out).row (by rw [rowsN_length, HM.out]; omega)
      obtain ⟨ra, rc, k1, hrd, _⟩ := hrw len2 (by rw [rowsN_length, HM.out]; exact hjm)
      rw [row_rowsN n B (by rw [HM.out]; exact hjm)] at k1 hrd
      rw [nrow_length] at k1
      have HIX := Lib.hid (indexFunc_any 66 #[] ra n rc (nrow (fAt B len2) n) nz wr (nrow_length _ _) (by unfold maxLen; omega) hrd (leads_pred _ _) (fun _ _ => rfl))
      have HV : Hid (tab (fun i => leadOf n (fAt B i)) (len2 + 1) = tab (fun i => leadOf n (fAt B i)) len2 ++ [idxFrom nz (nrow (fAt B len2) n) 0]) := rfl
      obtain ⟨v, hv⟩ : ∃ v, idxFrom nz (nrow (fAt B len2) n) 0 = v := ⟨_, rfl⟩
      rw [hv] at HIX HV
      clear hrw hrd hv
      go_wp2_with fail
      refine Calls.mono HIX.out ?_
      rintro e w5 ⟨rfl, hd⟩
      have HX5 := Lib.hid (HX.out.drawn hd)
      have HR5 : Hid (RowOf 3 w5 w.heap.size ao3 len2 cap3 (ints (tab (fun i => leadOf n (fAt B i)) len2))) := (Drawn.ext hd).row HRW.out
      have hB5 := HX5.out.size
      clear hd k1
      go_wp2_with (at_builtin; refine wpList_appInt eInt rfl (.tmp 12) (.tmp 15) rfl w.heap.size (by rfl) HR5.out (by rfl) (by omega) hB5 ?_; intro ao4 cap4 w4 hr4 hg4 hb4)
      have HR4 : Hid (RowOf 3 w4 w.heap.size ao4 (len2 + 1) cap4 (ints (tab (fun i => leadOf n (fAt B i)) (len2 + 1)))) := by
        show RowOf _ _ _ _ _ _ _
        rw [HV.out]; simpa [ints_append, ints_one] using hr4
      have HX4 : Hid (Ext w w4) := hb4 _ _ HX5.out (Nat.le_refl _)
      clear hr4 hg4 hb4
      go_roundw
      case rel => exact ⟨len2 + 1, by omega, by go_num, ao4, len2 + 1, cap4, rfl, HR4.out, HX4.out⟩
      case measure => simp [intOf]; omega
    · obtain rfl : len2 = m := by omega
      go_wp2
      go_ret
      exact ⟨_, rfl, ao3, len2, cap3, rfl, HRW.out, HX.out⟩

end Go.Proofs.YthkafhmciapipaaDoor
