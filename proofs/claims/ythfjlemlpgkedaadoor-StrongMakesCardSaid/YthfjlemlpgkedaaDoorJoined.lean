/- What strong.joined makes of a function of two numbers that only reads. Conditions: as the theorem says. -/
import Derived.Test.YthfjlemlpgkedaaDoorFilling
namespace Go.Proofs.YthfjlemlpgkedaaDoor
open Go.RowKit

/-- What is asked of the function that tells who is joined. -/
def JoinOn (f : FuncId) (caps : Array Value) (n : Nat) (p : Nat → Nat → Bool) (w : World) : Prop :=
  ∀ i j, i < n → j < n → ∀ w', Ext w w' → Calls Tryd.prog f (#[.int .i64 i, .int .i64 j] ++ caps) w' fun e w'' => e = .returned (.bool (p i j)) ∧ Ext w' w''
/-- The cells. -/
def joinCell (p : Nat → Nat → Bool) (i j : Nat) : Int := if i ≠ j ∧ p i j = true then 1 else 0

theorem Filling.ext {w0 w w' : World} {b n m : Nat} {g : Nat → Int} {ao : Option Addr} {cap : Nat} (h : Filling w0 w b n m g ao cap) (hd : Ext w w') : Filling w0 w' b n m g ao cap :=
  ⟨h.box.carry (hd.block b h.box.lt), hd.row h.row, Below.trans h.bel (Below.mono hd (Nat.le_of_lt h.box.lt))⟩

set_option maxHeartbeats 2000000 in
set_option maxRecDepth 1000000 in
theorem joined_any (f : FuncId) (caps : Array Value) (n : Nat) (p : Nat → Nat → Bool) (w : World) (hn : n ≤ 24) (hp : JoinOn f caps n p w) (henter : ∀ args w, (callFunc f args).run Tryd.prog w = .ok (.enter f args) w) :
    Calls Tryd.prog 13 #[.int .i64 n, .func (.func f) #[] caps] w fun e w' =>
      ∃ ao cap, e = .returned (.agg #[.int .i64 n, .slice ao (n * n) cap]) ∧ RowOf 3 w' w.heap.size ao (n * n) cap (ints (tab (flat n (joinCell p)) (n * n))) ∧ Ext w w' := by
  have HP := Lib.hid hp
  have hq : n * n ≤ 576 := Nat.mul_le_mul hn hn
  have HQ := Lib.hid hq
  clear hp hq
  go_enter Tryd.func13, Tryd.ntmps13
  go_wp2
  obtain ⟨r, hr⟩ : ∃ r, r = w.heap.size := ⟨_, rfl⟩
  have HB : Hid (Below r w ((w.alloc (.cells #[.int .i64 0, .slice none 0 0] 26)).alloc (.cells #[.int .i64 n, .slice none 0 0] 26))) := ((Below.refl _ _).alloc (by omega) _).alloc (by simp; omega) _
  have HX : Hid (BoxAt ((w.alloc (.cells #[.int .i64 0, .slice none 0 0] 26)).alloc (.cells #[.int .i64 n, .slice none 0 0] 26)) r (.int .i64 0) (.slice none 0 0)) := by
    rw [hr]; exact (BoxAt.new _ _ _ _).alloc _
  have HF : Hid (Filling ((w.alloc (.cells #[.int .i64 0, .slice none 0 0] 26)).alloc (.cells #[.int .i64 n, .slice none 0 0] 26)) ((w.alloc (.cells #[.int .i64 0, .slice none 0 0] 26)).alloc (.cells #[.int .i64 n, .slice none 0 0] 26)) (r + 1) n 0 (flat n (joinCell p)) none 0) :=
    ⟨by have := BoxAt.new (w.alloc (.cells #[.int .i64 0, .slice none 0 0] 26)) (.int .i64 n) (.slice none 0 0) 26; rwa [show (w.alloc (.cells #[.int .i64 0, .slice none 0 0] 26)).heap.size = r + 1 by simp [hr]] at this, RowOf.nil _ _ _, Below.refl _ _⟩
  obtain ⟨w0, hw0⟩ : ∃ w0, w0 = ((w.alloc (.cells #[.int .i64 0, .slice none 0 0] 26)).alloc (.cells #[.int .i64 n, .slice none 0 0] 26)) := ⟨_, rfl⟩
  rw [← hw0] at HB HX HF ⊢
  have HSR := Lib.hid hr
  rw [← hr]
  clear hw0 hr
  go_loopw [12] (fun a wr => ∃ (i m : Nat) (ao : Option Addr) (cap : Nat), i ≤ n ∧ a = .int .i64 i ∧ Hid (m = i * n) ∧ Filling w0 wr (r + 1) n m (flat n (joinCell p)) ao cap) (fun i _ => n - (intOf i).toNat)
  case atStart => exact ⟨0, 0, none, 0, by omega, rfl, (Nat.zero_mul n).symm, HF.out⟩
  case round =>
    obtain ⟨i, m, ao, cap, hi, rfl, HM, hf⟩ := hrel
    have HF1 := Lib.hid hf
    clear hf
    by_cases hin : i < n
    · go_wp2
      go_loopw [16] (fun a wi => ∃ (j m' : Nat) (ao : Option Addr) (cap : Nat), j ≤ n ∧ a = .int .i64 j ∧ Hid (m' = i * n + j) ∧ Filling w0 wi (r + 1) n m' (flat n (joinCell p)) ao cap) (fun i' _ => n - (intOf i').toNat)
      case atStart => exact ⟨0, m, ao, cap, by omega, rfl, HM, HF1.out⟩
      case round =>
        obtain ⟨j, m', ao2, cap2, hj, rfl, HM2, hf2⟩ := hrel
        have HF2 := Lib.hid hf2
        clear hf2
        by_cases hjn : j < n
        · have hcell : ∀ w', Ext w w' → Calls Tryd.prog f (#[.int .i64 i, .int .i64 j] ++ caps) w' fun e w'' => e = .returned (.bool (p i j)) ∧ Ext w' w'' := fun w' hb => HP.out i j hin hjn w' hb
          have HY : Hid (flat n (joinCell p) m' = joinCell p i j) := by show flat n (joinCell p) m' = joinCell p i j; rw [HM2.out]; exact flat_at (joinCell p) hjn
          have hm : m' ≤ 576 := by
            have h1 : i * n + j < n * n := by
              have : (i + 1) * n ≤ n * n := Nat.mul_le_mul_right n hin
              rw [Nat.succ_mul] at this; omega
            have := HM2.out; have := HQ.out; omega
          have hbs := HF2.out.size
          have HXW : Hid (Ext w wr) := by
            have h1 := HB.out.trans (HF2.out.bel.mono (by omega))
            have h2 := HSR.out
            unfold Hid; unfold Ext; rw [← h2]; exact h1
          by_cases hij : i = j
          · have hv : joinCell p i j = 0 := by unfold joinCell; rw [if_neg (fun h => h.1 hij)]
            rw [hv] at HY
            have b1 : ((i : Int) != (j : Int)) = false := by rw [hij]; simp
            have k1 := HF2.out.box.c1
            clear hv hij hcell
            go_wp2_with (at_builtin; refine wpList_appInt eInt rfl (.tmp 29) (.tmp 31) rfl (r + 1 + 1) (by rfl) (HF2.out).row (by rfl) (by omega) (HF2.out).size ?_; intro ao4 cap4 w4 hr4 hg4 hb4; have HG := Lib.hid ((HF2.out).grown2 hg4 hr4 hb4 HY.out); have k4 := HG.out.1.c1; have k5 := HG.out.1.f1; clear hr4 hg4 hb4)
            go_roundw
            case rel => exact ⟨j + 1, m' + 1, ao4, cap4, by omega, by go_num, (by show m' + 1 = i * n + (j + 1); rw [HM2.out]; omega), HG.out.2⟩
            case measure => simp [intOf]; omega
          · have b1 : ((i : Int) != (j : Int)) = true := by rw [bne_iff_ne]; omega
            have HC := Lib.hid hcell
            clear hcell
            cases hpx : p i j with
            | false =>
              have hv : joinCell p i j = 0 := by unfold joinCell; rw [if_neg (fun h => by rw [hpx] at h; simp at h)]
              rw [hv] at HY
              rw [hpx] at HC
              clear hv hij hpx
              go_wp2_with (first | (with_reducible refine Calls.mono (HC.out wr HXW.out) ?_; rintro e w1 ⟨rfl, hx1⟩; have HX1 := Lib.hid hx1; clear hx1; have k6 := (HF2.out.ext HX1.out).box.c1) | (at_builtin; refine wpList_appInt eInt rfl (.tmp 29) (.tmp 31) rfl (r + 1 + 1) (by rfl) (HF2.out.ext HX1.out).row (by rfl) (by omega) (HF2.out.ext HX1.out).size ?_; intro ao4 cap4 w4 hr4 hg4 hb4; have HG := Lib.hid ((HF2.out.ext HX1.out).grown2 hg4 hr4 hb4 HY.out); have k4 := HG.out.1.c1; have k5 := HG.out.1.f1; clear hr4 hg4 hb4))
              go_roundw
              case rel => exact ⟨j + 1, m' + 1, ao4, cap4, by omega, by go_num, (by show m' + 1 = i * n + (j + 1); rw [HM2.out]; omega), HG.out.2⟩
              case measure => simp [intOf]; omega
            | true =>
              have hv : joinCell p i j = 1 := by unfold joinCell; rw [if_pos ⟨hij, hpx⟩]
              rw [hv] at HY
              rw [hpx] at HC
              clear hv hij hpx
              go_wp2_with (first | (with_reducible refine Calls.mono (HC.out wr HXW.out) ?_; rintro e w1 ⟨rfl, hx1⟩; have HX1 := Lib.hid hx1; clear hx1; have k6 := (HF2.out.ext HX1.out).box.c1) | (at_builtin; refine wpList_appInt eInt rfl (.tmp 29) (.tmp 31) rfl (r + 1 + 1) (by rfl) (HF2.out.ext HX1.out).row (by rfl) (by omega) (HF2.out.ext HX1.out).size ?_; intro ao4 cap4 w4 hr4 hg4 hb4; have HG := Lib.hid ((HF2.out.ext HX1.out).grown2 hg4 hr4 hb4 HY.out); have k4 := HG.out.1.c1; have k5 := HG.out.1.f1; clear hr4 hg4 hb4))
              go_roundw
              case rel => exact ⟨j + 1, m' + 1, ao4, cap4, by omega, by go_num, (by show m' + 1 = i * n + (j + 1); rw [HM2.out]; omega), HG.out.2⟩
              case measure => simp [intOf]; omega
        · obtain rfl : j = n := by omega
          go_wp2
          go_roundw
          case rel => exact ⟨i + 1, m', ao2, cap2, by omega, by go_num, (by show m' = (i + 1) * j; rw [HM2.out, Nat.succ_mul]), HF2.out⟩
          case measure => simp [intOf]; omega
    · obtain rfl : i = n := by omega
      have hx := (HX.out.carry (HF1.out.bel.block r (by omega)))
      have hput := hx.put (.int .i64 i) (.slice ao m cap)
      have HPUT := Lib.hid hput
      clear hput
      obtain ⟨x0, x1, x2, x3⟩ := hx
      obtain ⟨y0, y1, y2, y3⟩ := HF1.out.box
      go_wp2
      have e0 := HPUT.out.c0
      have e1 := HPUT.out.c1
      refine bodyPost_ret (v := .agg #[.int .i64 i, .slice ao m cap]) (by simp [results, Tryd.results13, go_sem, e0, e1]) rfl ⟨ao, cap, by rw [show m = i * i from HM.out], ?_, ?_⟩
      · have h1 := (HF1.out.row.beside ⟨r, 0, none⟩ (by simp; omega) (.int .i64 i)).beside ⟨r, 1, none⟩ (by simp; omega) (.slice ao m cap)
        have h2 := h1.mono (B' := r) (by omega)
        rw [← show r = w.heap.size from HSR.out, ← show m = i * i from HM.out]
        exact h2
      · have h1 := ((HB.out.trans (HF1.out.bel.mono (by omega))).setCell (p := ⟨r, 0, none⟩) (Nat.le_refl _) (.int .i64 i)).setCell (p := ⟨r, 1, none⟩) (Nat.le_refl _) (.slice ao m cap)
        have h2 := HSR.out
        unfold Ext
        rw [← h2]
        exact h1

end Go.Proofs.YthfjlemlpgkedaaDoor
