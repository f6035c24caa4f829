/- What field's add answers. No conditions. -/
import Derived.Test.YtnfonobdfkpkeaaDoorFShift
import Derived.Test.YtnfonobdfkpkeaaDoorPut7
import Derived.Deep.RegionHeld3
import Derived.Deep.DeepCutAuto
namespace Go.Proofs.YtnfonobdfkpkeaaDoor
open Go.RowKit
attribute [local go_sem ↓] storePol_eq
attribute [local go_sem] run_put7 pol_alloc0 pol_put0

/-- The sum, as far as a place. -/
def adU (p a b i m : Nat) : Int := if m < i then ((dgt p a m + dgt p b m) % p : Nat) else dgI p a m

theorem adU_succ (p a b i m : Nat) : adU p a b (i + 1) m = upd (adU p a b i) i ((dgI p a i + dgI p b i) % p) m := by
  unfold upd adU
  by_cases e : m = i
  · subst e; rw [if_pos (by omega), if_pos rfl]; unfold dgI; simp
  · rw [if_neg e]
    by_cases h : m < i
    · rw [if_pos (by omega), if_pos h]
    · rw [if_neg (by omega), if_neg h]

set_option maxHeartbeats 4000000 in
set_option maxRecDepth 100000 in
theorem add_any (p k a b : Nat) (q : Int) (ao : Option Addr) (len cap : Nat) (w : World) (h2 : 2 ≤ p) (h61 : p ≤ 61) (hk1 : 1 ≤ k) (hk6 : k ≤ 6) (h64 : p ^ k ≤ 64) (ha : a < 64) (hb : b < 64) :
    Calls Tryd.prog 32 #[.agg #[.int .i64 p, .int .i64 k, .slice ao len cap, .int .i64 q], .int .i64 a, .int .i64 b] w fun e w' => e = .returned (.int .i64 (addF p k a b : Nat)) ∧ Ext w w' := by
  have HA : Hid (∀ w, _) := fun w => digits_any p a w h2 h61 (by omega)
  have HB : Hid (∀ w, _) := fun w => digits_any p b w h2 h61 (by omega)
  have H0 : Hid (Blk (w.alloc (.cells #[.int .i64 p, .int .i64 k, .slice ao len cap, .int .i64 q] 55)) w.heap.size #[.int .i64 p, .int .i64 k, .slice ao len cap, .int .i64 q] 55) := Blk.new _ _ _
  have HX0 : Hid (Ext w (w.alloc (.cells #[.int .i64 p, .int .i64 k, .slice ao len cap, .int .i64 q] 55))) := (Ext.refl w).alloc _
  go_enter Tryd.func32, Tryd.ntmps32
  go_upto_region 1 with fail
  obtain ⟨w0, hw0⟩ : ∃ w0, w0 = w.alloc (.cells #[.int .i64 p, .int .i64 k, .slice ao len cap, .int .i64 q] 55) := ⟨_, rfl⟩
  rw [← hw0] at H0 HX0 ⊢
  clear hw0
  have k1 := H0.out.c 0 _ rfl
  have hlt := H0.out.lt
  have n0 : w.heap.size ≠ w0.heap.size := by omega
  have n0' : w.heap.size ≠ w0.heap.size + 1 := by omega
  go_cut [7, 8] (fun s7 s8 wx => ∃ b7 b8 : Nat, s7 = .pointer (some ⟨b7, 0, none⟩) ∧ s8 = .pointer (some ⟨b8, 0, none⟩) ∧ AdSt w wx p k q ao len cap b7 b8 (dgI p a) (dgI p b))
  case first =>
    go_region_held3 (fun w' => w'.cell? ⟨w.heap.size, 0, none⟩ = some (.int .i64 p)) (first | (rw [cell_put7]; (repeat' (first | with_reducible assumption | rw [cell_put7] | rw [cell_past] | omega | (simp; omega)))) | go_keep)
      ((first
      | (go_at_call_of 33 (Value.int IntKind.i64 (a : Int)); refine Calls.mono (HA.out _) ?_; rintro e w1 ⟨rfl, hx1⟩; have hl1 := Ext.size hx1; (try simp at hl1); have qa := (Ext.cell hx1 (b := w.heap.size) (o := 0) (by first | omega | (simp; omega))); (first | (simp [k1] at qa) | (simp [World.cell?_alloc_past, hlt, k1] at qa) | skip);
          have n1 : w.heap.size ≠ w1.heap.size := (by omega); have n1' : w.heap.size ≠ w1.heap.size + 1 := (by omega);
          (try (have zA := IsPol.ext (pol_new0 w0.drew _ rfl) hx1; simp at zA; have m1 : w0.heap.size ≠ w1.heap.size := (by omega))); (try (have zA := IsPol.ext (pol_alloc0 _ _ _ (pol_new0 w0.drew _ rfl)) hx1; have zB := IsPol.ext (pol_new0 (w0.drew.alloc _) _ rfl) hx1; simp at zA zB; have m1 : w0.heap.size + 1 ≠ w0.heap.size := (by omega))))
      | (go_at_call_of 33 (Value.int IntKind.i64 (b : Int)); refine Calls.mono (HB.out _) ?_; rintro e w2 ⟨rfl, hx2⟩; have hl2 := Ext.size hx2; (try simp at hl2); have qb := (Ext.cell hx2 (b := w.heap.size) (o := 0) (by first | omega | (simp; omega))); (first | (rw [qa] at qb) | (simp [World.cell?_alloc_past, hlt, k1, qa] at qb) | (simp [World.cell?_alloc_past, hlt, k1] at qb) | skip);
          have n2 : w.heap.size ≠ w2.heap.size := (by omega); have l2 : w.heap.size < w2.heap.size := (by omega); have n2' : w.heap.size ≠ w2.heap.size + 1 := (by omega);
          (try (have yA := IsPol.ext zA hx2)); (try (have yB := IsPol.ext zB hx2)); (try (have yA := IsPol.ext (pol_alloc0 _ _ _ zA) hx2)); (try (have yC := IsPol.ext (pol_new0 w1 _ rfl) hx2)); (try (have yC := IsPol.ext (pol_alloc0 _ _ _ (pol_new0 w1 _ rfl)) hx2; have yD := IsPol.ext (pol_new0 (w1.alloc _) _ rfl) hx2; simp at yD));
          have g1 := pol_new0 w2 _ rfl; have g2 := pol_alloc0 _ w2.heap.size (.cells #[.int .i64 0, .int .i64 0, .int .i64 0, .int .i64 0, .int .i64 0, .int .i64 0, .int .i64 0] 63) (pol_new0 w2 _ rfl); have g3 := pol_new0 (w2.alloc (.cells #[.int .i64 0, .int .i64 0, .int .i64 0, .int .i64 0, .int .i64 0, .int .i64 0, .int .i64 0] 63)) (w2.heap.size + 1) (by simp);
          (try (have yAa := fun o => pol_alloc0 _ _ o yA)); (try (have yBa := fun o => pol_alloc0 _ _ o yB)); (try (have yCa := fun o => pol_alloc0 _ _ o yC)); (try (have yDa := fun o => pol_alloc0 _ _ o yD));
          (try (have m2 : w1.heap.size ≠ w2.heap.size := (by omega); have m3 : w2.heap.size ≠ w1.heap.size := (by omega))); (try (have m4 : w0.heap.size ≠ w2.heap.size := (by omega); have m5 : w2.heap.size ≠ w0.heap.size := (by omega))); (try (have m6 : w1.heap.size ≠ w0.heap.size := (by omega))))))
    all_goals
      go_wp2_with fail
      go_meet
      refine ⟨_, _, rfl, rfl, AdSt.mk7 (dgI p a) (dgI p b) HX0.out hlt H0.out ?_ ?_ ?_ ?_ ?_ ?_⟩
      · repeat (first | exact hx1 | exact hx2 | exact Ext.refl _ | exact (Ext.refl _).drew | refine Ext.alloc ?_ _ | refine Ext.drew ?_ | refine Ext.trans ?_ hx2 | refine Ext.trans ?_ hx1)
      · first | with_reducible exact g1 | with_reducible exact g2 | with_reducible exact g3 | with_reducible exact yA | with_reducible exact yB | with_reducible exact yC | with_reducible exact yD | with_reducible exact yAa _ | with_reducible exact yBa _ | with_reducible exact yCa _ | with_reducible exact yDa _ | trace_state
      · first | with_reducible exact g1 | with_reducible exact g2 | with_reducible exact g3 | with_reducible exact yA | with_reducible exact yB | with_reducible exact yC | with_reducible exact yD | with_reducible exact yAa _ | with_reducible exact yBa _ | with_reducible exact yCa _ | with_reducible exact yDa _ | trace_state
      · first | assumption | omega | (simp; omega)
      · first | assumption | omega | (simp; omega)
      · first | assumption | omega | (simp; omega)
  case rest =>
    obtain ⟨b7, b8, rfl, rfl, hst⟩ := hcut
    have HS := Lib.hid hst
    clear hst k1 hlt n0 n0'
    go_wp2
    have H1 : Hid (AdSt w wc p k q ao len cap b7 b8 (adU p a b 0) (dgI p b)) := HS.out.congr fun m _ => by unfold adU; rw [if_neg (by omega)]
    go_loopw [20] (fun x wr => ∃ i : Nat, i ≤ 7 ∧ x = .int .i64 i ∧ AdSt w wr p k q ao len cap b7 b8 (adU p a b i) (dgI p b)) (fun x _ => 7 - (intOf x).toNat)
    case atStart => exact ⟨0, by omega, rfl, H1.out⟩
    case round =>
      obtain ⟨i, hi, rfl, hst⟩ := hrel
      have HS2 := Lib.hid hst
      clear hst H1 HS
      by_cases hi7 : i < 7
      · have hia : (0 : Int) ≤ (i : Int) := by omega
        have hib : (i : Int) < 7 := by omega
        have t1 := HS2.out.p7.at i hi7
        have t2 := HS2.out.p7.f i
        have t3 := HS2.out.p8.at i hi7
        obtain ⟨t4, t5, t6, t7⟩ := HS2.out.rb.four
        rw [show adU p a b i i = dgI p a i from by unfold adU; rw [if_neg (by omega)]] at t1
        have HN : Hid (AdSt w (wr.setCell ⟨b7, i, none⟩ (.int .i64 ((dgI p a i + dgI p b i) % p))) p k q ao len cap b7 b8 (adU p a b (i + 1)) (dgI p b)) := (HS2.out.set hi7 _).congr fun m _ => (adU_succ p a b i m).symm
        have hx := dgI_dig (p := p) (by omega) a i
        have hy := dgI_dig (p := p) (by omega) b i
        obtain ⟨x, hxx⟩ : ∃ x, dgI p a i = x := ⟨_, rfl⟩
        obtain ⟨y, hyy⟩ : ∃ y, dgI p b i = y := ⟨_, rfl⟩
        rw [hxx] at t1 HN hx
        rw [hyy] at t3 HN hy
        obtain ⟨hx1, hx2⟩ := hx
        obtain ⟨hy1, hy2⟩ := hy
        clear hxx hyy
        obtain ⟨wo, rfl⟩ : ∃ wo : World, wo = wr := ⟨_, rfl⟩
        go_wp2
        go_region
        all_goals
          go_wp2
          exact ⟨⟨i + 1, by omega, by go_num, HN.out.drew⟩, by simp [intOf]; omega⟩
      · obtain rfl : i = 7 := by omega
        have t1 := HS2.out.p7.seven
        have t2 := HS2.out.rb.four
        have HNUM := Lib.hid (number_any p k q ao len cap (adU p a b 7) (fun m => (dgt p a m + dgt p b m) % p) wr h2 h61 hk1 hk6 h64 (fun _ => Nat.mod_lt _ (by omega)) (fun m hm => by unfold adU; rw [if_pos hm]))
        go_wp2_with fail
        refine Calls.mono HNUM.out ?_
        rintro e w3 ⟨rfl, hx⟩
        have HX := Lib.hid (HS2.out.ext.trans hx)
        clear hx
        go_wp2
        go_ret
        exact ⟨rfl, HX.out⟩

end Go.Proofs.YtnfonobdfkpkeaaDoor
