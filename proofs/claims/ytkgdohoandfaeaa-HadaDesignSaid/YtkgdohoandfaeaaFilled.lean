/- What hada.filled makes of a function of two numbers that only reads. Conditions: as the theorem says. -/
import Derived.Test.YtkgdohoandfaeaaFilling
namespace Go.Proofs.Ytkgdohoandfaeaa
open Go.RowKit

/-- What is asked of the function that tells the cells. -/
def CellOn (f : FuncId) (caps : Array Value) (n : Nat) (cell : Nat → Nat → Int) (w : World) : Prop :=
  ∀ i j, i < n → j < n → ∀ w', Below w.heap.size w w' → Calls Try.prog f (#[.int .i64 i, .int .i64 j] ++ caps) w' fun e w'' => e = .returned (.int .i64 (cell i j)) ∧ Drawn w' w''

set_option maxHeartbeats 1000000 in
set_option maxRecDepth 1000000 in
theorem filled_any (f : FuncId) (caps : Array Value) (n : Nat) (cell : Nat → Nat → Int) (w : World) (hn : n ≤ 24) (hp : CellOn f caps n cell w) (henter : ∀ args w, (callFunc f args).run Try.prog w = .ok (.enter f args) w) :
    Calls Try.prog 26 #[.int .i64 n, .func (.func f) #[] caps] w fun e w' =>
      ∃ ao cap, e = .returned (.agg #[.int .i64 n, .slice ao (n * n) cap]) ∧ RowOf 3 w' w.heap.size ao (n * n) cap (ints (tab (flat n cell) (n * n))) ∧ Below w.heap.size w w' := by
  have HP := Lib.hid hp
  have hq : n * n ≤ 576 := Nat.mul_le_mul hn hn
  have HQ := Lib.hid hq
  clear hp hq
  go_enter Try.func26, Try.ntmps26
  go_wp2
  obtain ⟨r, hr⟩ : ∃ r, r = w.heap.size := ⟨_, rfl⟩
  have HB : Hid (Below r w ((w.alloc (.cells #[.int .i64 0, .slice none 0 0] 24)).alloc (.cells #[.int .i64 n, .slice none 0 0] 24))) := ((Below.refl _ _).alloc (by omega) _).alloc (by simp; omega) _
  have HX : Hid (BoxAt ((w.alloc (.cells #[.int .i64 0, .slice none 0 0] 24)).alloc (.cells #[.int .i64 n, .slice none 0 0] 24)) r (.int .i64 0) (.slice none 0 0)) := by
    rw [hr]; exact (BoxAt.new _ _ _ _).alloc _
  have HF : Hid (Filling ((w.alloc (.cells #[.int .i64 0, .slice none 0 0] 24)).alloc (.cells #[.int .i64 n, .slice none 0 0] 24)) ((w.alloc (.cells #[.int .i64 0, .slice none 0 0] 24)).alloc (.cells #[.int .i64 n, .slice none 0 0] 24)) (r + 1) n 0 (flat n cell) none 0) :=
    ⟨by have := BoxAt.new (w.alloc (.cells #[.int .i64 0, .slice none 0 0] 24)) (.int .i64 n) (.slice none 0 0) 24; rwa [show (w.alloc (.cells #[.int .i64 0, .slice none 0 0] 24)).heap.size = r + 1 by simp [hr]] at this, RowOf.nil _ _ _, Below.refl _ _⟩
  obtain ⟨w0, hw0⟩ : ∃ w0, w0 = ((w.alloc (.cells #[.int .i64 0, .slice none 0 0] 24)).alloc (.cells #[.int .i64 n, .slice none 0 0] 24)) := ⟨_, rfl⟩
  rw [← hw0] at HB HX HF ⊢
  have HSR := Lib.hid hr
  rw [← hr]
  clear hw0 hr
  go_loopw [11] (fun a wr => ∃ (i m : Nat) (ao : Option Addr) (cap : Nat), i ≤ n ∧ a = .int .i64 i ∧ Hid (m = i * n) ∧ Filling w0 wr (r + 1) n m (flat n cell) ao cap) (fun i _ => n - (intOf i).toNat)
  case atStart => exact ⟨0, 0, none, 0, by omega, rfl, (Nat.zero_mul n).symm, HF.out⟩
  case round =>
    obtain ⟨i, m, ao, cap, hi, rfl, HM, hf⟩ := hrel
    have HF1 := Lib.hid hf
    clear hf
    by_cases hin : i < n
    · go_wp2
      go_loopw [15] (fun a wi => ∃ (j m' : Nat) (ao : Option Addr) (cap : Nat), j ≤ n ∧ a = .int .i64 j ∧ Hid (m' = i * n + j) ∧ Filling w0 wi (r + 1) n m' (flat n cell) ao cap) (fun i' _ => n - (intOf i').toNat)
      case atStart => exact ⟨0, m, ao, cap, by omega, rfl, HM, HF1.out⟩
      case round =>
        obtain ⟨j, m', ao2, cap2, hj, rfl, HM2, hf2⟩ := hrel
        have HF2 := Lib.hid hf2
        clear hf2
        by_cases hjn : j < n
        · have hcell : ∀ w', Below r w w' → Calls Try.prog f (#[.int .i64 i, .int .i64 j] ++ caps) w' fun e w'' => e = .returned (.int .i64 (cell i j)) ∧ Drawn w' w'' := fun w' hb => HP.out i j hin hjn w' (by rw [← show r = w.heap.size from HSR.out]; exact hb)
          have HY : Hid (flat n cell m' = cell i j) := by show flat n cell m' = cell i j; rw [HM2.out]; exact flat_at cell hjn
          obtain ⟨y, hy⟩ : ∃ y, cell i j = y := ⟨_, rfl⟩
          rw [hy] at hcell HY
          have HC := Lib.hid hcell
          have hm : m' ≤ 576 := by
            have h1 : i * n + j < n * n := by
              have : (i + 1) * n ≤ n * n := Nat.mul_le_mul_right n hin
              rw [Nat.succ_mul] at this; omega
            have := HM2.out; have := HQ.out; omega
          have k1 := HF2.out.box.c1
          clear hcell hy
          go_wp2_with fail
          go_region_law (first
            | (refine step_call (.int .i64 y) rfl (HC.out _ (HB.out.trans ((HF2.out.bel.mono (by omega)).trans (Drawn.below ⟨1, rfl⟩ _)))) (by simp [execOp, resolve, invoke, Act.eval]; exact henter _ _) ?_; intro w1 hd1; have kd1 := (HF2.out.box.drawn (w' := w1) (Drawn.trans ⟨1, rfl⟩ hd1)).c1; have kd2 := ((HF2.out.box.drawn (w' := w1) (Drawn.trans ⟨1, rfl⟩ hd1)).alloc (.cells #[.int .i64 y] 3)).c1)
            | (refine step_app eInt rfl (.tmp 19) (.tmp 24) rfl (r + 1 + 1) (by simp [Act.eval]; try exact ⟨rfl, rfl, rfl⟩) (World.ownsRow.alloc (HF2.out.drawn (Drawn.trans ⟨1, rfl⟩ hd1)).row _) ⟨w1.heap.size, 0, none⟩ (.int .i64 y) (by simp [Act.eval]) (by simp [World.cell?_alloc_at]) rfl (by omega) (by have := (HF2.out.drawn (Drawn.trans ⟨1, rfl⟩ hd1)).size; simp; omega) ?_; intro ao' cap' w2 hr2 hg2 hb2; have hfl := Filling.grown (HF2.out.drawn (Drawn.trans ⟨1, rfl⟩ hd1)) rfl hg2 hr2 HY.out; have k2 := hfl.1.c1; have k3 := hfl.1.f1; have HFL := Lib.hid hfl.2; clear hfl))
          all_goals
            go_wp2
            go_roundw
            case rel => exact ⟨j + 1, m' + 1, ao', cap', by omega, by go_num, (by show m' + 1 = i * n + (j + 1); rw [HM2.out]; omega), HFL.out⟩
            case measure => simp [intOf]; omega
        · obtain rfl : j = n := by omega
          go_wp2
          go_roundw
          case rel => exact ⟨i + 1, m', ao2, cap2, by omega, by go_num, (by show m' = (i + 1) * j; rw [HM2.out, Nat.succ_mul]), HF2.out⟩
          case measure => simp [intOf]; omega
    · obtain rfl : i = n := by omega
      have hx := (HX.out.carry (HF1.out.bel.block r (by omega)))
      have hput := hx.put (.int .i64 i) (.slice ao m cap)
      have HPUT := Lib.hid hput
      clear hput
      obtain ⟨x0, x1, x2, x3⟩ := hx
      obtain ⟨y0, y1, y2, y3⟩ := HF1.out.box
      go_wp2
      have e0 := HPUT.out.c0
      have e1 := HPUT.out.c1
      refine bodyPost_ret (v := .agg #[.int .i64 i, .slice ao m cap]) (by simp [results, Try.results26, go_sem, e0, e1]) rfl ⟨ao, cap, by rw [show m = i * i from HM.out], ?_, ?_⟩
      · have h1 := (HF1.out.row.beside ⟨r, 0, none⟩ (by simp; omega) (.int .i64 i)).beside ⟨r, 1, none⟩ (by simp; omega) (.slice ao m cap)
        have h2 := h1.mono (B' := r) (by omega)
        rw [← show r = w.heap.size from HSR.out, ← show m = i * i from HM.out]
        exact h2
      · have h1 := ((HB.out.trans (HF1.out.bel.mono (by omega))).setCell (p := ⟨r, 0, none⟩) (Nat.le_refl _) (.int .i64 i)).setCell (p := ⟨r, 1, none⟩) (Nat.le_refl _) (.slice ao m cap)
        rw [← show r = w.heap.size from HSR.out]
        exact h1

end Go.Proofs.Ytkgdohoandfaeaa
