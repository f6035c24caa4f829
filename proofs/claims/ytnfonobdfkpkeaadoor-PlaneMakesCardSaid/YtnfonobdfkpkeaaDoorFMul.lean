/- What field's mul answers. No conditions. -/
import Derived.Test.YtnfonobdfkpkeaaDoorFMulMath
import Derived.Test.YtnfonobdfkpkeaaDoorPut7
import Derived.Deep.RegionHeld3
import Derived.Deep.DeepCutAuto
namespace Go.Proofs.YtnfonobdfkpkeaaDoor
open Go.RowKit
attribute [local go_sem ↓] storePol_eq
attribute [local go_sem] run_put7 pol_alloc0 pol_put0

/-- .. and what is gathered. -/
structure MuSt (w wr : World) (p k q : Int) (ao : Option Addr) (len cap b7 b8 b9 : Nat) (f g o : Nat → Int) : Prop where
  st : AdSt w wr p k q ao len cap b7 b8 f g
  p9 : Pol wr b9 o
  n7 : b9 ≠ b7
  n8 : b9 ≠ b8
  l9 : w.heap.size < b9
theorem MuSt.drew {w wr : World} {p k q : Int} {ao : Option Addr} {len cap b7 b8 b9 : Nat} {f g o : Nat → Int} (h : MuSt w wr p k q ao len cap b7 b8 b9 f g o) : MuSt w wr.drew p k q ao len cap b7 b8 b9 f g o := ⟨h.st.drew, h.p9.drew, h.n7, h.n8, h.l9⟩
theorem MuSt.congr {w wr : World} {p k q : Int} {ao : Option Addr} {len cap b7 b8 b9 : Nat} {f g o o' : Nat → Int} (h : MuSt w wr p k q ao len cap b7 b8 b9 f g o) (he : ∀ i, i < 7 → o i = o' i) : MuSt w wr p k q ao len cap b7 b8 b9 f g o' := ⟨h.st, h.p9.congr he, h.n7, h.n8, h.l9⟩
theorem MuSt.set {w wr : World} {p k q : Int} {ao : Option Addr} {len cap b7 b8 b9 : Nat} {f g o : Nat → Int} (h : MuSt w wr p k q ao len cap b7 b8 b9 f g o) {j : Nat} (hj : j < 7) (v : Int) : MuSt w (wr.setCell ⟨b9, j, none⟩ (.int .i64 v)) p k q ao len cap b7 b8 b9 f g (upd o j v) :=
  ⟨⟨h.st.ext.set (by have := h.l9; simp; omega) _, h.st.rb.beside _ (by have := h.l9; simp; omega) _, h.st.p7.beside _ (by simpa using h.n7) _, h.st.p8.beside _ (by simpa using h.n8) _, h.st.ne, h.st.l7, h.st.l8⟩, h.p9.set j hj v, h.n7, h.n8, h.l9⟩
theorem MuSt.carry {w wr w' : World} {p k q : Int} {ao : Option Addr} {len cap b7 b8 b9 : Nat} {f g o : Nat → Int} (h : MuSt w wr p k q ao len cap b7 b8 b9 f g o) (hx : Ext wr w') : MuSt w w' p k q ao len cap b7 b8 b9 f g o :=
  ⟨⟨h.st.ext.trans hx, h.st.rb.ext hx, h.st.p7.ext hx, h.st.p8.ext hx, h.st.ne, h.st.l7, h.st.l8⟩, h.p9.ext hx, h.n7, h.n8, h.l9⟩
theorem MuSt.put {w wr : World} {p k q : Int} {ao : Option Addr} {len cap b7 b8 b9 : Nat} {f g o : Nat → Int} (h : MuSt w wr p k q ao len cap b7 b8 b9 f g o) (f' : Nat → Int) : MuSt w (put7 wr b7 (f' 0) (f' 1) (f' 2) (f' 3) (f' 4) (f' 5) (f' 6)) p k q ao len cap b7 b8 b9 f' g o := by
  have e := h.st.l7
  exact ⟨⟨h.st.ext.put (by omega) _ _ _ _ _ _ _, h.st.rb.put (by omega) _ _ _ _ _ _ _, h.st.p7.put f', h.st.p8.put_other (Ne.symm h.st.ne) _ _ _ _ _ _ _, h.st.ne, h.st.l7, h.st.l8⟩, h.p9.put_other h.n7 _ _ _ _ _ _ _, h.n7, h.n8, h.l9⟩
theorem MuSt.new {w wr : World} {p k q : Int} {ao : Option Addr} {len cap b7 b8 : Nat} {f g : Nat → Int} (h : AdSt w wr p k q ao len cap b7 b8 f g) : MuSt w (wr.alloc (.cells #[.int .i64 0, .int .i64 0, .int .i64 0, .int .i64 0, .int .i64 0, .int .i64 0, .int .i64 0] 63)) p k q ao len cap b7 b8 wr.heap.size f g (fun _ => 0) := by
  have e7 := h.p7.lt
  have e8 := h.p8.lt
  have e := h.rb.lt
  exact ⟨⟨h.ext.alloc _, h.rb.alloc _, h.p7.alloc _, h.p8.alloc _, h.ne, h.l7, h.l8⟩, Pol.new wr (fun _ => 0), by omega, by omega, e⟩

set_option maxHeartbeats 4000000 in
set_option maxRecDepth 100000 in
theorem mul_any (p k a b : Nat) (q : Int) (ao : Option Addr) (cap : Nat) (low : List Int) (w : World) (h2 : 2 ≤ p) (h61 : p ≤ 61) (hk1 : 1 ≤ k) (hk6 : k ≤ 6) (h64 : p ^ k ≤ 64) (ha : a < 64) (hb : b < 64) (hl : low.length = k) (hr : Reads w ao (ints low)) (hld : Dig p (nth low)) :
    Calls Tryd.prog 27 #[.agg #[.int .i64 p, .int .i64 k, .slice ao k cap, .int .i64 q], .int .i64 a, .int .i64 b] w fun e w' => e = .returned (.int .i64 (mulF p k (nth low) a b : Nat)) ∧ Ext w w' := by
  have HA : Hid (∀ w, _) := fun w => digits_any p a w h2 h61 (by omega)
  have HB : Hid (∀ w, _) := fun w => digits_any p b w h2 h61 (by omega)
  have H0 : Hid (Blk (w.alloc (.cells #[.int .i64 p, .int .i64 k, .slice ao k cap, .int .i64 q] 55)) w.heap.size #[.int .i64 p, .int .i64 k, .slice ao k cap, .int .i64 q] 55) := Blk.new _ _ _
  have HX0 : Hid (Ext w (w.alloc (.cells #[.int .i64 p, .int .i64 k, .slice ao k cap, .int .i64 q] 55))) := (Ext.refl w).alloc _
  have HR := Lib.hid hr
  have HL := Lib.hid hl
  have HLD := Lib.hid hld
  clear hr hl hld
  go_enter Tryd.func27, Tryd.ntmps27
  go_upto_region 1 with fail
  obtain ⟨w0, hw0⟩ : ∃ w0, w0 = w.alloc (.cells #[.int .i64 p, .int .i64 k, .slice ao k cap, .int .i64 q] 55) := ⟨_, rfl⟩
  rw [← hw0] at H0 HX0 ⊢
  clear hw0
  have k1 := H0.out.c 0 _ rfl
  have hlt := H0.out.lt
  have n0 : w.heap.size ≠ w0.heap.size := by omega
  have n0' : w.heap.size ≠ w0.heap.size + 1 := by omega
  go_cut [7, 8] (fun s7 s8 wx => ∃ b7 b8 : Nat, s7 = .pointer (some ⟨b7, 0, none⟩) ∧ s8 = .pointer (some ⟨b8, 0, none⟩) ∧ AdSt w wx p k q ao k cap b7 b8 (dgI p a) (dgI p b))
  case first =>
    go_region_held3 (fun w' => w'.cell? ⟨w.heap.size, 0, none⟩ = some (.int .i64 p)) (first | (rw [cell_put7]; (repeat' (first | with_reducible assumption | rw [cell_put7] | rw [cell_past] | omega | (simp; omega)))) | go_keep)
      ((first
      | (go_at_call_of 33 (Value.int IntKind.i64 (a : Int)); refine Calls.mono (HA.out _) ?_; rintro e w1 ⟨rfl, hx1⟩; have hl1 := Ext.size hx1; (try simp at hl1); have qa := (Ext.cell hx1 (b := w.heap.size) (o := 0) (by first | omega | (simp; omega))); (first | (simp [k1] at qa) | (simp [World.cell?_alloc_past, hlt, k1] at qa) | skip);
          have n1 : w.heap.size ≠ w1.heap.size := (by omega); have n1' : w.heap.size ≠ w1.heap.size + 1 := (by omega);
          (try (have zA := IsPol.ext (pol_new0 w0.drew _ rfl) hx1; simp at zA; have m1 : w0.heap.size ≠ w1.heap.size := (by omega))); (try (have zA := IsPol.ext (pol_alloc0 _ _ _ (pol_new0 w0.drew _ rfl)) hx1; have zB := IsPol.ext (pol_new0 (w0.drew.alloc _) _ rfl) hx1; simp at zA zB; have m1 : w0.heap.size + 1 ≠ w0.heap.size := (by omega))))
      | (go_at_call_of 33 (Value.int IntKind.i64 (b : Int)); refine Calls.mono (HB.out _) ?_; rintro e w2 ⟨rfl, hx2⟩; have hl2 := Ext.size hx2; (try simp at hl2); have qb := (Ext.cell hx2 (b := w.heap.size) (o := 0) (by first | omega | (simp; omega))); (first | (rw [qa] at qb) | (simp [World.cell?_alloc_past, hlt, k1, qa] at qb) | (simp [World.cell?_alloc_past, hlt, k1] at qb) | skip);
          have n2 : w.heap.size ≠ w2.heap.size := (by omega); have l2 : w.heap.size < w2.heap.size := (by omega); have n2' : w.heap.size ≠ w2.heap.size + 1 := (by omega);
          (try (have yA := IsPol.ext zA hx2)); (try (have yB := IsPol.ext zB hx2)); (try (have yA := IsPol.ext (pol_alloc0 _ _ _ zA) hx2)); (try (have yC := IsPol.ext (pol_new0 w1 _ rfl) hx2)); (try (have yC := IsPol.ext (pol_alloc0 _ _ _ (pol_new0 w1 _ rfl)) hx2; have yD := IsPol.ext (pol_new0 (w1.alloc _) _ rfl) hx2; simp at yD));
          have g1 := pol_new0 w2 _ rfl; have g2 := pol_alloc0 _ w2.heap.size (.cells #[.int .i64 0, .int .i64 0, .int .i64 0, .int .i64 0, .int .i64 0, .int .i64 0, .int .i64 0] 63) (pol_new0 w2 _ rfl); have g3 := pol_new0 (w2.alloc (.cells #[.int .i64 0, .int .i64 0, .int .i64 0, .int .i64 0, .int .i64 0, .int .i64 0, .int .i64 0] 63)) (w2.heap.size + 1) (by simp);
          (try (have yAa := fun o => pol_alloc0 _ _ o yA)); (try (have yBa := fun o => pol_alloc0 _ _ o yB)); (try (have yCa := fun o => pol_alloc0 _ _ o yC)); (try (have yDa := fun o => pol_alloc0 _ _ o yD));
          (try (have m2 : w1.heap.size ≠ w2.heap.size := (by omega); have m3 : w2.heap.size ≠ w1.heap.size := (by omega))); (try (have m4 : w0.heap.size ≠ w2.heap.size := (by omega); have m5 : w2.heap.size ≠ w0.heap.size := (by omega))); (try (have m6 : w1.heap.size ≠ w0.heap.size := (by omega))))))
    all_goals
      go_wp2_with fail
      go_meet
      refine ⟨_, _, rfl, rfl, AdSt.mk7 (dgI p a) (dgI p b) HX0.out hlt H0.out ?_ ?_ ?_ ?_ ?_ ?_⟩
      · repeat (first | exact hx1 | exact hx2 | exact Ext.refl _ | exact (Ext.refl _).drew | refine Ext.alloc ?_ _ | refine Ext.drew ?_ | refine Ext.trans ?_ hx2 | refine Ext.trans ?_ hx1)
      · first | with_reducible exact g1 | with_reducible exact g2 | with_reducible exact g3 | with_reducible exact yA | with_reducible exact yB | with_reducible exact yC | with_reducible exact yD | with_reducible exact yAa _ | with_reducible exact yBa _ | with_reducible exact yCa _ | with_reducible exact yDa _ | trace_state
      · first | with_reducible exact g1 | with_reducible exact g2 | with_reducible exact g3 | with_reducible exact yA | with_reducible exact yB | with_reducible exact yC | with_reducible exact yD | with_reducible exact yAa _ | with_reducible exact yBa _ | with_reducible exact yCa _ | with_reducible exact yDa _ | trace_state
      · first | assumption | omega | (simp; omega)
      · first | assumption | omega | (simp; omega)
      · first | assumption | omega | (simp; omega)
  case rest =>
    obtain ⟨b7, b8, rfl, rfl, hst⟩ := hcut
    have HS := Lib.hid hst
    clear hst k1 hlt n0 n0'
    have H1 : Hid (MuSt w _ p k q ao k cap b7 b8 wc.heap.size (mulX p k low a 0) (dgI p b) (mulO p k low a b 0)) := MuSt.new HS.out
    have t0 := HS.out.rb.lt
    have t1 : ∀ o, (wc.alloc o).cell? ⟨w.heap.size, 1, none⟩ = some (.int .i64 k) := fun o => (HS.out.rb.alloc o).c 1 _ rfl
    go_wp2
    obtain ⟨b9, hb9⟩ : ∃ b9, b9 = wc.heap.size := ⟨_, rfl⟩
    obtain ⟨w4, hw4⟩ : ∃ w4, w4 = wc.alloc (.cells #[.int .i64 0, .int .i64 0, .int .i64 0, .int .i64 0, .int .i64 0, .int .i64 0, .int .i64 0] 63) := ⟨_, rfl⟩
    rw [← hw4, ← hb9] at H1
    rw [← hw4, ← hb9]
    clear hw4 hb9 t0 t1
    go_loopw [25] (fun x wr => ∃ i : Nat, i ≤ k ∧ x = .int .i64 i ∧ MuSt w wr p k q ao k cap b7 b8 b9 (mulX p k low a i) (dgI p b) (mulO p k low a b i)) (fun x _ => k - (intOf x).toNat)
    case atStart => exact ⟨0, by omega, rfl, H1.out⟩
    case round =>
      obtain ⟨i, hi, rfl, hst⟩ := hrel
      have HS2 := Lib.hid hst
      clear hst H1 HS
      by_cases hik : i < k
      · have hia : (0 : Int) ≤ (i : Int) := by omega
        have hib : (i : Int) < 7 := by omega
        obtain ⟨X, hX⟩ : ∃ X, mulX p k low a i = X := ⟨_, rfl⟩
        obtain ⟨O, hO⟩ : ∃ O, mulO p k low a b i = O := ⟨_, rfl⟩
        have HXD : Hid (Dig p X) := by rw [← hX]; exact mulX_dig (by omega) a i
        have HOD : Hid (Dig p O) := by rw [← hO]; exact mulO_dig (by omega) a b i
        have HNX : Hid (mulX p k low a (i + 1) = shP p k low X) := by rw [← hX]; rfl
        have HNO : Hid (mulO p k low a b (i + 1) = mulIn p O X (dgI p b i) k) := by rw [← hO, ← hX]; rfl
        rw [hX, hO] at HS2
        clear hX hO
        have t0 := HS2.out.st.rb.c 1 _ rfl
        obtain ⟨wo, rfl⟩ : ∃ wo : World, wo = wr := ⟨_, rfl⟩
        go_wp2
        have H2 : Hid (MuSt w wo p k q ao k cap b7 b8 b9 X (dgI p b) (mulIn p O X (dgI p b i) 0)) := HS2.out.congr fun m _ => by unfold mulIn; rw [if_neg (by omega)]
        go_loopw [31] (fun x wr => ∃ j : Nat, j ≤ k ∧ x = .int .i64 j ∧ MuSt w wr p k q ao k cap b7 b8 b9 X (dgI p b) (mulIn p O X (dgI p b i) j)) (fun x _ => k - (intOf x).toNat)
        case atStart => exact ⟨0, by omega, rfl, H2.out⟩
        case round =>
          obtain ⟨j, hj, rfl, hst⟩ := hrel
          have HS3 := Lib.hid hst
          clear hst H2 HS2 t0
          by_cases hjk : j < k
          · have hja : (0 : Int) ≤ (j : Int) := by omega
            have hjb : (j : Int) < 7 := by omega
            have t1 := HS3.out.p9.at j (by omega)
            have t2 := HS3.out.p9.f j
            have t3 := HS3.out.st.p7.at j (by omega)
            have t4 := HS3.out.st.p8.at i (by omega)
            obtain ⟨t5, t6, t7, t8⟩ := HS3.out.st.rb.four
            rw [show mulIn p O X (dgI p b i) j j = O j from by unfold mulIn; rw [if_neg (by omega)]] at t1
            have HN : Hid (MuSt w (wr.setCell ⟨b9, j, none⟩ (.int .i64 ((O j + X j * dgI p b i) % p))) p k q ao k cap b7 b8 b9 X (dgI p b) (mulIn p O X (dgI p b i) (j + 1))) := (HS3.out.set (by omega) _).congr fun m _ => (mulIn_succ p O X (dgI p b i) j m).symm
            have hx := HXD.out j
            have ho := HOD.out j
            have hy := dgI_dig (p := p) (by omega) b i
            obtain ⟨x, hxx⟩ : ∃ x, X j = x := ⟨_, rfl⟩
            obtain ⟨o, hoo⟩ : ∃ o, O j = o := ⟨_, rfl⟩
            obtain ⟨y, hyy⟩ : ∃ y, dgI p b i = y := ⟨_, rfl⟩
            rw [hxx] at t3 HN hx
            rw [hoo] at t1 HN ho
            rw [hyy] at t4 HN hy ⊢
            obtain ⟨hx1, hx2⟩ := hx
            obtain ⟨ho1, ho2⟩ := ho
            obtain ⟨hy1, hy2⟩ := hy
            have hm1 : 0 ≤ x * y := Int.mul_nonneg (by omega) (by omega)
            have hm2 : x * y ≤ 61 * 61 := Int.mul_le_mul (by omega) (by omega) (by omega) (by omega)
            obtain ⟨z, hz⟩ : ∃ z, x * y = z := ⟨_, rfl⟩
            rw [hz] at hm1 hm2 HN
            clear hxx hoo hyy
            obtain ⟨wq, rfl⟩ : ∃ wq : World, wq = wr := ⟨_, rfl⟩
            go_wp2
            go_region
            all_goals
              go_wp2
              exact ⟨⟨j + 1, by omega, by go_num, HN.out.drew⟩, by simp [intOf]; omega⟩
          · obtain rfl : k = j := by omega
            have t1 := HS3.out.st.p7.seven
            have t2 := HS3.out.st.rb.four
            have HSH := Lib.hid (shift_any p k q ao cap low X wr h2 h61 hk1 hk6 HL.out (HS3.out.st.ext.reads HR.out) HLD.out HXD.out)
            go_wp2_with fail
            refine Calls.mono HSH.out ?_
            rintro e w5 ⟨rfl, hx⟩
            have HS4 := Lib.hid (HS3.out.carry hx)
            have HS5 := Lib.hid (HS4.out.put (shP p k low X))
            have t3 := HS4.out.st.p7.is
            clear hx t1 t2
            go_wp2
            exact ⟨⟨i + 1, by omega, by go_num, by rw [HNX.out, HNO.out]; exact HS5.out⟩, by simp [intOf]; omega⟩
      · obtain rfl : k = i := by omega
        have t1 := HS2.out.p9.seven
        have t2 := HS2.out.st.rb.four
        have HNUM := Lib.hid (number_any p k q ao k cap (mulO p k low a b k) (fun m => (mulO p k low a b k m).toNat) wr h2 h61 hk1 hk6 h64 (fun m => by have := mulO_dig (p := p) (k := k) (low := low) (by omega) a b k m; omega) (fun m _ => by have := mulO_dig (p := p) (k := k) (low := low) (by omega) a b k m; omega))
        rw [mulO_num (by omega) a b] at HNUM
        go_wp2_with fail
        refine Calls.mono HNUM.out ?_
        rintro e w3 ⟨rfl, hx⟩
        have HX := Lib.hid (HS2.out.st.ext.trans hx)
        clear hx
        go_wp2
        go_ret
        exact ⟨rfl, HX.out⟩

end Go.Proofs.YtnfonobdfkpkeaaDoor
