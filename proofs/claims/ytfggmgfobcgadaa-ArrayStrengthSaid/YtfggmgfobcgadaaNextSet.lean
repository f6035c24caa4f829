/- What parterreref1.Still and parterreref2.NextSet answer. -/
import Derived.Test.YtfggmgfobcgadaaTbl
import Derived.Test.YtfggmgfobcgadaaLists
import Derived.BigRegion
namespace Go.Proofs.Ytfggmgfobcgadaa
open Go.RowKit

/-- 0, 1, .. -/
def still (t : Nat) : List Int := tab (fun i => (i : Int)) t

set_option maxHeartbeats 1000000 in
theorem still_any (t : Nat) (w : World) (ht : t ≤ 1000) :
    Calls Try.prog 33 #[.int .i64 t] w fun e w' => ∃ ao cap, e = .returned (.slice ao t cap) ∧ RowOf 3 w' w.heap.size ao t cap (ints (still t)) ∧ Ext w w' := by
  go_enter Try.func33, Try.ntmps33
  go_wp2
  go_loopw [3, 4] (fun y a wr => ∃ (i : Nat) (ao : Option Addr) (cap : Nat), i ≤ t ∧ a = .int .i64 i ∧ y = .slice ao i cap ∧ RowOf 3 wr w.heap.size ao i cap (ints (still i)) ∧ Ext w wr) (fun _ a _ => t - (intOf a).toNat)
  case atStart => exact ⟨0, none, 0, by omega, rfl, rfl, RowOf.nil _ _ _, Ext.refl w⟩
  case round =>
    obtain ⟨i, ao, cap, hi, rfl, rfl, hrow, hx⟩ := hrel
    have HROW := Lib.hid hrow
    have HX := Lib.hid hx
    have hsz := hx.size
    clear hrow hx
    by_cases hin : i < t
    · go_wp2_with (at_builtin; refine wpList_appInt eInt rfl (.tmp 10) (.tmp 12) rfl w.heap.size (by rfl) HROW.out (by rfl) (by omega) (by omega) ?_; intro ao4 cap4 w4 hr4 hg4 hb4; have HR4 := Lib.hid hr4; have HB4 := Lib.hid (hb4 _ _ HX.out (Nat.le_refl _)); clear hr4 hg4 hb4)
      go_roundw
      case rel => exact ⟨i + 1, ao4, cap4, by omega, by go_num, by simp, by unfold still; rw [tab, ints_append]; exact HR4.out, HB4.out⟩
      case measure => simp [intOf] <;> omega
    · obtain rfl : t = i := by omega
      go_wp2
      go_ret
      exact ⟨ao, cap, rfl, HROW.out, HX.out⟩

/-- From place j on: one more than ahead of it, up to place t. -/
def runOn (xs : List Int) (j : Nat) : Nat → List Int
  | 0 => xs
  | c + 1 => runOn (xs.set j (nth xs (j - 1) + 1)) (j + 1) c
/-- The next set: where the first place from the right that can grow is one of the first i. -/
def nextFrom (k : Int) (xs : List Int) : Nat → Option (List Int)
  | 0 => none
  | i + 1 => if nth xs i < k - xs.length + i then some (runOn (xs.set i (nth xs i + 1)) (i + 1) (xs.length - (i + 1))) else nextFrom k xs i
/-- Places below 100. -/
def Small (xs : List Int) : Prop := ∀ x ∈ xs, 0 ≤ x ∧ x ≤ 100

set_option maxHeartbeats 4000000 in
theorem nextSet_any (k t B g cap : Nat) (xs : List Int) (w : World) (hk : k ≤ 8) (ht : xs.length = t) (ht8 : t ≤ 8) (hs : ∀ x ∈ xs, 0 ≤ x ∧ x ≤ 10) (hrow : RowOf 3 w B (some ⟨g, 0, none⟩) t cap (ints xs)) :
    Calls Try.prog 35 #[.slice (some ⟨g, 0, none⟩) t cap, .int .i64 k] w fun e w' =>
      (nextFrom k xs t = none → e = .returned (.bool false) ∧ w' = w) ∧
      (∀ ys, nextFrom k xs t = some ys → e = .returned (.bool true) ∧ RowOf 3 w' B (some ⟨g, 0, none⟩) t cap (ints ys) ∧ w.grownBy w' (some g)) := by
  have HROW := Lib.hid hrow
  have HT := Lib.hid ht
  have HSM := Lib.hid hs
  clear hrow ht hs
  go_enter Try.func35, Try.ntmps35
  go_wp2
  go_loopw [6] (fun a wr => ∃ i : Nat, i ≤ t ∧ a = .int .i64 ((i : Int) - 1) ∧ wr = w ∧ Hid (nextFrom k xs t = nextFrom k xs i)) (fun a _ => ((intOf a) + 1).toNat)
  case atStart => exact ⟨t, Nat.le_refl _, rfl, rfl, rfl⟩
  case round =>
    obtain ⟨i, hi, rfl, rfl, HN⟩ := hrel
    cases i with
    | zero =>
      go_wp2
      go_ret
      exact ⟨fun _ => ⟨rfl, rfl⟩, fun ys h => by rw [HN.out] at h; simp [nextFrom] at h⟩
    | succ i =>
      obtain ⟨hBg, hgl, hkc, hkf⟩ := HROW.out.known
      have c1 := hkc i _ (ints_get xs i (by rw [HT.out]; omega))
      have f1 := hkf i
      have hsm := HSM.out (nth xs i) (nth_mem xs i (by rw [HT.out]; omega))
      obtain ⟨x, hx⟩ : ∃ x, nth xs i = x := ⟨_, rfl⟩
      have HX := Lib.hid hx
      rw [hx] at c1 hsm
      obtain ⟨hx0, hx1⟩ := hsm
      have HST : Hid (RowOf 3 (wr.setCell ⟨g, i, none⟩ (.int .i64 (x + 1))) B (some ⟨g, 0, none⟩) t cap (ints (xs.set i (x + 1)))) := by
        show RowOf _ _ _ _ _ _ _
        rw [← ints_set]; exact HROW.out.stored i _
      clear hkc hkf hx
      by_cases hlt : x < (k : Int) - t + i
      · have HY : Hid (nextFrom k xs t = some (runOn (xs.set i (x + 1)) (i + 1) (t - (i + 1)))) := by
          show _ = _
          rw [HN.out, nextFrom, HX.out, HT.out, if_pos hlt]
        have hgr : wr.grownBy (wr.setCell ⟨g, i, none⟩ (.int .i64 (x + 1))) (some g) := ⟨rfl, rfl, rfl, by simp, fun k' _ hne => Below.heap_setCell wr _ _ k' (fun e => hne (by rw [e]))⟩
        have HGR := Lib.hid hgr
        have HB : Hid (∀ y ∈ xs.set i (x + 1), 0 ≤ y ∧ y ≤ 11 + ((i + 1 : Nat) : Int)) := fun y hy => by
          rcases List.mem_or_eq_of_mem_set hy with h | h
          · have := HSM.out y h; omega
          · omega
        have HLS : Hid ((xs.set i (x + 1)).length = t) := by show _ = _; rw [List.length_set, HT.out]
        obtain ⟨ys, hys⟩ : ∃ ys, xs.set i (x + 1) = ys := ⟨_, rfl⟩
        rw [hys] at HST HY HB HLS
        clear hys hgr
        obtain ⟨w0, rfl⟩ : ∃ w0 : World, w0 = wr := ⟨_, rfl⟩
        go_wp2
        obtain ⟨w1, hw1⟩ : ∃ w1, w1 = w0.setCell ⟨g, i, none⟩ (.int .i64 (x + 1)) := ⟨_, rfl⟩
        rw [← hw1] at HST HGR ⊢
        clear hw1 c1 f1
        go_loopw [7] (fun a wr => ∃ (j : Nat) (zs : List Int), i + 1 ≤ j ∧ j ≤ t ∧ a = .int .i64 j ∧ RowOf 3 wr B (some ⟨g, 0, none⟩) t cap (ints zs) ∧ w0.grownBy wr (some g) ∧ Hid (zs.length = t ∧ runOn zs j (t - j) = runOn ys (i + 1) (t - (i + 1)) ∧ ∀ y ∈ zs, 0 ≤ y ∧ y ≤ 11 + (j : Int))) (fun a _ => t - (intOf a).toNat)
        case atStart => exact ⟨i + 1, ys, Nat.le_refl _, hi, by go_num, HST.out, HGR.out, HLS.out, rfl, HB.out⟩
        case round =>
          obtain ⟨j, zs, hj1, hj2, rfl, hrow, hgr, HZ⟩ := hrel
          have HR2 := Lib.hid hrow
          have HG2 := Lib.hid hgr
          obtain ⟨_, hgl2, hkc, hkf⟩ := hrow.known
          clear hrow hgr HST HGR
          by_cases hjt : j < t
          · have c1 := hkc (j - 1) _ (ints_get zs (j - 1) (by have := HZ.out.1; omega))
            have c2 := hkc j _ (ints_get zs j (by have := HZ.out.1; omega))
            have f2 := hkf j
            have hb := HZ.out.2.2 (nth zs (j - 1)) (nth_mem zs (j - 1) (by have := HZ.out.1; omega))
            obtain ⟨y, hy⟩ : ∃ y, nth zs (j - 1) = y := ⟨_, rfl⟩
            obtain ⟨z, hz⟩ : ∃ z, nth zs j = z := ⟨_, rfl⟩
            rw [hy] at c1 hb
            rw [hz] at c2
            have HN2 : Hid ((zs.set j (y + 1)).length = t ∧ runOn (zs.set j (y + 1)) (j + 1) (t - (j + 1)) = runOn ys (i + 1) (t - (i + 1)) ∧ ∀ q ∈ zs.set j (y + 1), 0 ≤ q ∧ q ≤ 11 + ((j + 1 : Nat) : Int)) := by
              refine ⟨by rw [List.length_set]; exact HZ.out.1, ?_, fun q hq => ?_⟩
              · rw [← HZ.out.2.1, show t - j = t - (j + 1) + 1 by omega, runOn, hy]
              · rcases List.mem_or_eq_of_mem_set hq with h | h
                · have := HZ.out.2.2 q h; omega
                · omega
            have HST2 : Hid (RowOf 3 (wr.setCell ⟨g, j, none⟩ (.int .i64 (y + 1))) B (some ⟨g, 0, none⟩) t cap (ints (zs.set j (y + 1)))) := by
              show RowOf _ _ _ _ _ _ _
              rw [← ints_set]; exact HR2.out.stored j _
            have HGR2 : Hid (w0.grownBy (wr.setCell ⟨g, j, none⟩ (.int .i64 (y + 1))) (some g)) := HG2.out.trans ⟨rfl, rfl, rfl, by simp, fun k' _ hne => Below.heap_setCell wr _ _ k' (fun e => hne (by rw [e]))⟩
            obtain ⟨hb0, hb1⟩ := hb
            have i1 : IntKind.i64.wrap ((j : Int) - 1) = (j : Int) - 1 := IntWalk.i64_in _ (by omega)
            have i2 : ((j : Int) - 1).toNat = j - 1 := by omega
            have i3 : 0 ≤ (j : Int) - 1 := by omega
            have i4 : (j : Int) - 1 < (t : Int) := by omega
            clear hkc hkf hy hz
            go_wp2
            go_roundw
            case rel => exact ⟨j + 1, zs.set j (y + 1), by omega, by omega, by go_num, HST2.out, HGR2.out, HN2.out⟩
            case measure => simp [intOf] <;> omega
          · obtain rfl : j = t := by omega
            go_wp2
            go_ret
            exact ⟨fun h => by rw [HY.out] at h; simp at h, fun us h => by
              rw [HY.out] at h
              simp only [Option.some.injEq] at h
              have h1 := HZ.out.2.1
              rw [Nat.sub_self, runOn, h] at h1
              rw [← h1]
              exact ⟨rfl, HR2.out, HG2.out⟩⟩
      · have HY : Hid (nextFrom k xs (i + 1) = nextFrom k xs i) := by
          show _ = _
          rw [nextFrom, HX.out, HT.out, if_neg hlt]
        have hlt' : (k : Int) - t + i ≤ x := by omega
        go_wp2
        go_roundw
        case rel => exact ⟨i, by omega, rfl, trivial, HN.out.trans HY.out⟩
        case measure => simp [intOf] <;> omega

end Go.Proofs.Ytfggmgfobcgadaa
