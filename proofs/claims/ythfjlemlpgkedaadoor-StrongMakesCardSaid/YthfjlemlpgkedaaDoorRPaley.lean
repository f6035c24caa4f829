/- What parterreref3.PaleyGraph answers. No conditions. -/
import Derived.Test.YthfjlemlpgkedaaDoorRFault
import Derived.Test.YthfjlemlpgkedaaDoorFieldInv
import Derived.Test.YthfjlemlpgkedaaDoorPaleyGraph
namespace Go.Proofs.YthfjlemlpgkedaaDoor
open Go.RowKit

set_option maxHeartbeats 1000000 in
theorem paleyOf_no (p k : Int) (ao : Option Addr) (len cap : Nat) (low : List Int) (w : World) (hl : low.length = len) (hr : Reads w ao (ints low)) (h0 : fieldFault p k low ≠ 0) :
    Calls Tryd.prog 5 #[.agg #[.int .i64 p, .int .i64 k, .slice ao len cap]] w fun e w' => e = .returned (.tuple #[.agg #[.int .i64 0, .slice none 0 0], .int .i64 (fieldFault p k low)]) ∧ Ext w w' := by
  have HX0 : Hid (Ext w ((w.alloc (.cells #[.int .i64 p, .int .i64 k, .slice ao len cap] 24)).alloc (.cells #[.int .i64 0, .slice none 0 0] 26))) := ((Ext.refl w).alloc _).alloc _
  have HB : Hid (Blk ((w.alloc (.cells #[.int .i64 p, .int .i64 k, .slice ao len cap] 24)).alloc (.cells #[.int .i64 0, .slice none 0 0] 26)) (w.heap.size + 1) #[.int .i64 0, .slice none 0 0] 26) := Blk.new' _ _ _ (by simp)
  have HO := Lib.hid (refFault_any p k ao len cap low _ hl (HX0.out.reads hr))
  obtain ⟨c, hc⟩ : ∃ c, fieldFault p k low = c := ⟨_, rfl⟩
  rw [hc] at h0 HO ⊢
  have b1 : (c != 0) = true := by rw [bne_iff_ne]; exact h0
  clear hc hl hr h0
  go_enter Tryd.func5, Tryd.ntmps5
  go_wp2_with fail
  refine Calls.mono HO.out ?_
  rintro e w1 ⟨rfl, hx⟩
  have HX := Lib.hid (HX0.out.trans hx)
  have k2 := (HB.out.ext hx).f
  have k3 := (HB.out.ext hx).two
  have HB2 := Lib.hid (((HB.out.ext hx).set 0 (.int .i64 0)).set 1 (.slice none 0 0))
  clear hx
  go_wp2
  have e0 := HB2.out.c 0 (.int .i64 0) rfl
  have e1 := HB2.out.c 1 (.slice none 0 0) rfl
  refine bodyPost_ret (v := .tuple #[.agg #[.int .i64 0, .slice none 0 0], .int .i64 c]) (by simp [results, Tryd.results5, go_sem, e0, e1]) rfl ⟨rfl, ?_⟩
  exact (HX.out.set (by simp) _).set (by simp) _

/-- What has been set. -/
def RpHit (p k : Nat) (low : List Int) (q a x idx : Nat) : Prop := ∃ a' x', (a' < a ∨ a' = a ∧ x' < x) ∧ 1 ≤ x' ∧ x' < q ∧ idx = a' * q + addF p k a' (mulF p k (nth low) x' x')
def RpIs (p k : Nat) (low : List Int) (q a x : Nat) (F : Nat → Int) : Prop := ∀ idx, (F idx = 0 ∨ F idx = 1) ∧ (F idx = 1 ↔ RpHit p k low q a x idx)
theorem rpIs_start (p k : Nat) (low : List Int) (q : Nat) : RpIs p k low q 0 1 (fun _ => 0) := fun idx => ⟨.inl rfl, ⟨fun h => absurd (show (0 : Int) = 1 from h) (by decide), fun ⟨a', x', h, h1, _⟩ => by omega⟩⟩
theorem rpIs_next {p k : Nat} {low : List Int} {q a x : Nat} {F : Nat → Int} (h : RpIs p k low q a x F) (hx : 1 ≤ x) (hxq : x < q) : RpIs p k low q a (x + 1) (upd F (a * q + addF p k a (mulF p k (nth low) x x)) 1) := fun idx => by
  unfold upd
  obtain ⟨h1, h2⟩ := h idx
  by_cases e : idx = a * q + addF p k a (mulF p k (nth low) x x)
  · rw [if_pos e]
    exact ⟨.inr rfl, fun _ => ⟨a, x, .inr ⟨rfl, by omega⟩, hx, hxq, e⟩, fun _ => rfl⟩
  · rw [if_neg e]
    refine ⟨h1, h2.trans ⟨fun ⟨a', x', g1, g2, g3, g4⟩ => ⟨a', x', by omega, g2, g3, g4⟩, fun ⟨a', x', g1, g2, g3, g4⟩ => ⟨a', x', ?_, g2, g3, g4⟩⟩⟩
    by_cases hh : a' = a ∧ x' = x
    · obtain ⟨rfl, rfl⟩ := hh; exact absurd g4 e
    · omega
theorem rpIs_row {p k : Nat} {low : List Int} {q a : Nat} {F : Nat → Int} (h : RpIs p k low q a q F) : RpIs p k low q (a + 1) 1 F := fun idx => by
  obtain ⟨h1, h2⟩ := h idx
  exact ⟨h1, h2.trans ⟨fun ⟨a', x', g1, g2, g3, g4⟩ => ⟨a', x', by omega, g2, g3, g4⟩, fun ⟨a', x', g1, g2, g3, g4⟩ => ⟨a', x', by omega, g2, g3, g4⟩⟩⟩

/-- What is set in the end is Paley's graph. -/
theorem rpIs_end {p k : Nat} {low : List Int} (hF : IsField p k low) {F : Nat → Int} (h : RpIs p k low (p ^ k) (p ^ k) 1 F) (idx : Nat) (hidx : idx < p ^ k * p ^ k) : F idx = flat (p ^ k) (joinCell (palJoin p k low)) idx := by
  have hp : 0 < p := by have := hF.p2; omega
  have hq : 0 < p ^ k := Nat.pow_pos hp
  obtain ⟨a, b, ha, hb, e⟩ : ∃ a b, a < p ^ k ∧ b < p ^ k ∧ idx = a * p ^ k + b := ⟨idx / p ^ k, idx % p ^ k, Nat.div_lt_of_lt_mul hidx, Nat.mod_lt _ hq, by rw [Nat.mul_comm]; exact (Nat.div_add_mod idx _).symm⟩
  rw [e, flat_at _ hb]
  obtain ⟨h1, h2⟩ := h (a * p ^ k + b)
  have key : RpHit p k low (p ^ k) (p ^ k) 1 (a * p ^ k + b) ↔ (a ≠ b ∧ palJoin p k low a b = true) := by
    constructor
    · rintro ⟨a', x, g1, g2, g3, g4⟩
      have hs : addF p k a' (mulF p k (nth low) x x) < p ^ k := addF_lt hp _ _
      have e1 : a = a' := by
        have := congrArg (· / p ^ k) g4
        simp only [div_at hb, div_at hs] at this; exact this
      have e2 : b = addF p k a' (mulF p k (nth low) x x) := by
        have := congrArg (· % p ^ k) g4
        simp only [mod_at hb, mod_at hs] at this; exact this
      subst e1
      refine ⟨fun hab => ?_, ?_⟩
      · have hne := mulF_ne hF (show x ≠ 0 by omega) (show x ≠ 0 by omega) g3 g3
        rw [← hab] at e2
        have h3 : addF p k (negF p k a) (addF p k a (mulF p k (nth low) x x)) = mulF p k (nth low) x x := by
          rw [← addF_assoc hp, addF_comm (negF p k a), addF_neg hp, addF_comm, addF_zero hp _ (mulF_lt hp _ _)]
        rw [← e2, addF_comm, addF_neg hp] at h3
        exact hne h3.symm
      · unfold palJoin
        rw [List.any_eq_true]
        have hsq : (mulF p k (nth low) x x : Nat) < 64 := by have := mulF_lt (k := k) (low := nth low) hp x x; have := hF.big; omega
        refine ⟨(mulF p k (nth low) x x : Nat), (sqUp_mem _ _ 64).2 ⟨_, hsq, rfl, sqSeen_true.2 ⟨x, g2, g3, rfl⟩⟩, ?_⟩
        unfold palAdds
        rw [Int.toNat_natCast, ← e2]
        simp
    · rintro ⟨hab, hj⟩
      unfold palJoin at hj
      rw [List.any_eq_true] at hj
      obtain ⟨s, hs, hadd⟩ := hj
      obtain ⟨t, _, rfl, ht⟩ := (sqUp_mem _ s 64).1 hs
      obtain ⟨x, g2, g3, g4⟩ := sqSeen_true.1 ht
      unfold palAdds at hadd
      rw [Int.toNat_natCast, beq_iff_eq] at hadd
      exact ⟨a, x, .inl ha, g2, g3, by rw [g4]; omega⟩
  unfold joinCell
  by_cases hh : a ≠ b ∧ palJoin p k low a b = true
  · rw [if_pos hh]; exact h2.2 (key.2 hh)
  · rw [if_neg hh]
    rcases h1 with h1 | h1
    · exact h1
    · exact absurd (key.1 (h2.1 h1)) hh

/-- The world while the cells are set. -/
structure RpSt (w w2 wr : World) (p k : Nat) (ao : Option Addr) (cap r sb q g N c : Nat) (F : Nat → Int) : Prop where
  ext : Ext w wr
  rr : r = w.heap.size + 1
  sbw : w.heap.size + 2 ≤ sb
  fb : Blk wr w.heap.size #[.int .i64 p, .int .i64 k, .slice ao k cap] 24
  rb : Blk wr r #[.int .i64 0, .slice none 0 0] 26
  sq : Blk wr sb #[.int .i64 q, .slice (some ⟨g, 0, none⟩) N c] 26
  own : OwnF w2 wr g N c F
  w2w : w.heap.size + 2 ≤ w2.heap.size
  gs : g ≠ sb
theorem RpSt.carry {w w2 wr w' : World} {p k : Nat} {ao : Option Addr} {cap r sb q g N c : Nat} {F : Nat → Int} (h : RpSt w w2 wr p k ao cap r sb q g N c F) (hx : Ext wr w') : RpSt w w2 w' p k ao cap r sb q g N c F :=
  ⟨h.ext.trans hx, h.rr, h.sbw, h.fb.ext hx, h.rb.ext hx, h.sq.ext hx, h.own.carry hx, h.w2w, h.gs⟩
theorem RpSt.put {w w2 wr : World} {p k : Nat} {ao : Option Addr} {cap r sb q g N c : Nat} {F : Nat → Int} (h : RpSt w w2 wr p k ao cap r sb q g N c F) {j : Nat} (hj : j < N) : RpSt w w2 (wr.setCell ⟨g, j, none⟩ (.int .i64 1)) p k ao cap r sb q g N c (upd F j 1) := by
  have h1 := h.own.lt.1
  have h2 := h.w2w
  have h3 := h.rr
  exact ⟨h.ext.set (show w.heap.size ≤ g by omega) _, h.rr, h.sbw, h.fb.beside _ (show g ≠ w.heap.size by omega) _, h.rb.beside _ (show g ≠ r by omega) _, h.sq.beside _ h.gs _, h.own.set hj 1, h.w2w, h.gs⟩

set_option maxHeartbeats 4000000 in
set_option maxRecDepth 100000 in
theorem paleyOf_is (p k : Nat) (ao : Option Addr) (cap : Nat) (low : List Int) (w : World) (hF : IsField p k low) (hr : Reads w ao (ints low)) :
    Calls Tryd.prog 5 #[.agg #[.int .i64 p, .int .i64 k, .slice ao k cap]] w fun e w' =>
      (24 < p ^ k → e = .returned (.tuple #[.agg #[.int .i64 0, .slice none 0 0], .int .i64 3]) ∧ Ext w w') ∧
      (p ^ k ≤ 24 → p ^ k % 4 ≠ 1 → e = .returned (.tuple #[.agg #[.int .i64 0, .slice none 0 0], .int .i64 4]) ∧ Ext w w') ∧
      (p ^ k ≤ 24 → p ^ k % 4 = 1 → ∃ ao' cap', e = .returned (.tuple #[.agg #[.int .i64 (p ^ k : Nat), .slice ao' (p ^ k * p ^ k) cap'], .int .i64 0]) ∧
        Reads w' ao' (ints (tab (flat (p ^ k) (joinCell (palJoin p k low))) (p ^ k * p ^ k))) ∧ Ext w w') := by
  have HX0 : Hid (Ext w ((w.alloc (.cells #[.int .i64 p, .int .i64 k, .slice ao k cap] 24)).alloc (.cells #[.int .i64 0, .slice none 0 0] 26))) := ((Ext.refl w).alloc _).alloc _
  have HBF : Hid (Blk ((w.alloc (.cells #[.int .i64 p, .int .i64 k, .slice ao k cap] 24)).alloc (.cells #[.int .i64 0, .slice none 0 0] 26)) w.heap.size #[.int .i64 p, .int .i64 k, .slice ao k cap] 24) := (Blk.new _ _ _).alloc _
  have HB : Hid (Blk ((w.alloc (.cells #[.int .i64 p, .int .i64 k, .slice ao k cap] 24)).alloc (.cells #[.int .i64 0, .slice none 0 0] 26)) (w.heap.size + 1) #[.int .i64 0, .slice none 0 0] 26) := Blk.new' _ _ _ (by simp)
  have HO := refFault_any p k ao k cap low _ hF.len (HX0.out.reads hr)
  rw [hF.fault.1] at HO
  have HO := Lib.hid HO
  have HSZ : Hid (∀ w, _) := fun w => size_any p k ao k cap w
  rw [hF.fault.2] at HSZ
  have h64 := hF.big
  have HT : Hid (∀ (x : Nat) w', Ext w w' → x < p ^ k → _) := fun x w' (hx : Ext w w') (hxq : x < p ^ k) => timesOf_any p k x x ao cap low w' hF.p2 hF.p61 hF.k1 hF.k6 h64 (by omega) (by omega) hF.len (hx.reads hr) hF.dig
  have HS : Hid (∀ (a y : Nat) w', a < p ^ k → y < p ^ k → _) := fun a y w' (ha : a < p ^ k) (hy : y < p ^ k) => sumOf_any p k a y ao k cap w' hF.p2 hF.p61 hF.k1 hF.k6 h64 (by omega) (by omega)
  have hp0 : 0 < p := by have := hF.p2; omega
  have HML : Hid (∀ x, mulF p k (nth low) x x < p ^ k) := fun x => mulF_lt hp0 x x
  have HAL : Hid (∀ a y, addF p k a y < p ^ k) := fun a y => addF_lt hp0 a y
  have HEND : Hid (∀ F, RpIs p k low (p ^ k) (p ^ k) 1 F → ∀ idx, idx < p ^ k * p ^ k → F idx = flat (p ^ k) (joinCell (palJoin p k low)) idx) := fun F h => rpIs_end hF h
  have HQ2 := Lib.hid (one_lt_pow' hF.p2 hF.k1)
  have hk6 := hF.k6
  have hp61 := hF.p61
  clear hF hr
  go_enter Tryd.func5, Tryd.ntmps5
  go_wp2_with fail
  refine Calls.mono HO.out ?_
  rintro e w1 ⟨rfl, hx⟩
  have HX1 := Lib.hid (HX0.out.trans hx)
  have F1 := Lib.hid (HBF.out.ext hx)
  have R1 := Lib.hid (HB.out.ext hx)
  have k1 := (HBF.out.ext hx).three
  clear hx
  go_wp2_with fail
  refine Calls.mono (HSZ.out _) ?_
  rintro e w2 ⟨rfl, hx⟩
  have HX2 := Lib.hid (HX1.out.trans hx)
  have F2 := Lib.hid (F1.out.ext hx)
  have R2 := Lib.hid (R1.out.ext hx)
  have k2 := (R1.out.ext hx).two
  have k3 := (R1.out.ext hx).f
  clear hx k1
  obtain ⟨q, hq⟩ : ∃ q, p ^ k = q := ⟨_, rfl⟩
  have HQ := Lib.hid hq
  rw [hq] at HT HS HML HAL HEND h64 HQ2
  clear hq
  rw [HQ.out]
  by_cases h24 : 24 < q
  · have b1 : decide (24 < (q : Int)) = true := decide_eq_true (by omega)
    have HB2 := Lib.hid ((R2.out.set 0 (.int .i64 0)).set 1 (.slice none 0 0))
    go_wp2
    have e0 := HB2.out.c 0 (.int .i64 0) rfl
    have e1 := HB2.out.c 1 (.slice none 0 0) rfl
    have HE : Hid (Ext w _) := (HX2.out.set (p := ⟨w.heap.size + 1, 0, none⟩) (by simp) (.int .i64 0)).set (p := ⟨w.heap.size + 1, 1, none⟩) (by simp) (.slice none 0 0)
    refine bodyPost_ret (v := .tuple #[.agg #[.int .i64 0, .slice none 0 0], .int .i64 3]) (by simp [results, Tryd.results5, go_sem, e0, e1]) rfl ?_
    rw [HQ.out]
    first | exact ⟨fun _ => ⟨rfl, HE.out⟩, fun h => absurd h (by omega), fun h => absurd h (by omega)⟩ | exact ⟨⟨rfl, HE.out⟩, fun h => absurd h (by omega), fun h => absurd h (by omega)⟩
  · have b1 : decide (24 < (q : Int)) = false := decide_eq_false (by omega)
    by_cases h4 : q % 4 = 1
    · have b2 : (q : Int) % 4 = 1 := by omega
      have HQ4 := Lib.hid h4
      obtain ⟨N, hN⟩ : ∃ N, q * q = N := ⟨_, rfl⟩
      have HN := Lib.hid hN
      have hN2 : (q : Int) * (q : Int) = N := by rw [← hN, Int.natCast_mul]
      have hNb : N ≤ 576 := by rw [← hN]; exact Nat.mul_le_mul (show q ≤ 24 by omega) (show q ≤ 24 by omega)
      have hmk := mk_ints N (by omega) w2
      clear hN h4
      go_wp2
      have hww := HX2.out.size
      have hr2 := R2.out.lt
      have HST : Hid (RpSt w w2 ((w2.alloc (.cells (madeCells #[.int .i64 0] N) 3)).alloc (.cells #[.int .i64 q, .slice (some ⟨w2.heap.size, 0, none⟩) N N] 26)) p k ao cap (w.heap.size + 1) (w2.heap.size + 1) q w2.heap.size N N (fun _ => 0)) :=
        ⟨(HX2.out.alloc _).alloc _, rfl, by omega, (F2.out.alloc _).alloc _, (R2.out.alloc _).alloc _, Blk.new' _ _ _ (by simp), ⟨((Ext.refl _).alloc _).alloc _, by rw [← tab_zero]; exact (ext_box _ _ _).row (RowOf.made w2 N (by omega) rfl)⟩, by omega, by omega⟩
      obtain ⟨w3, hw3⟩ : ∃ w3, w3 = (w2.alloc (.cells (madeCells #[.int .i64 0] N) 3)).alloc (.cells #[.int .i64 q, .slice (some ⟨w2.heap.size, 0, none⟩) N N] 26) := ⟨_, rfl⟩
      obtain ⟨g, hg⟩ : ∃ g, w2.heap.size = g := ⟨_, rfl⟩
      obtain ⟨r, hr⟩ : ∃ r, w.heap.size + 1 = r := ⟨_, rfl⟩
      obtain ⟨sb, hsb⟩ : ∃ sb, g + 1 = sb := ⟨_, rfl⟩
      rw [← hw3, hg, hr, hsb] at HST
      rw [← hw3, hg, hr, hsb]
      have HRI := Lib.hid (rpIs_start p k low q)
      clear hmk hw3 hww hr2 F2 R2 k2 k3 HX2 b2
      go_loopw [7] (fun x wr => ∃ (a : Nat) (F : Nat → Int), a ≤ q ∧ x = .int .i64 a ∧ RpSt w w2 wr p k ao cap r sb q g N N F ∧ RpIs p k low q a 1 F) (fun x _ => q - (intOf x).toNat)
      case atStart => exact ⟨0, _, by omega, rfl, HST.out, HRI.out⟩
      case round =>
        obtain ⟨a, F, haq, rfl, hst, hri⟩ := hrel
        have HS1 := Lib.hid hst
        have HR1 := Lib.hid hri
        clear hst hri
        by_cases hlt : a < q
        · obtain ⟨wo, rfl⟩ : ∃ wo : World, wo = wr := ⟨_, rfl⟩
          go_wp2
          go_loopw [8] (fun x wr => ∃ (c : Nat) (F : Nat → Int), 1 ≤ c ∧ c ≤ q ∧ x = .int .i64 c ∧ RpSt w w2 wr p k ao cap r sb q g N N F ∧ RpIs p k low q a c F) (fun x _ => q - (intOf x).toNat)
          case atStart => exact ⟨1, F, by omega, by have := HQ2.out; omega, rfl, HS1.out, HR1.out⟩
          case round =>
            obtain ⟨c, G, hc1, hcq, rfl, hst, hri⟩ := hrel
            have HS2 := Lib.hid hst
            have HR2 := Lib.hid hri
            clear hst hri
            by_cases hlc : c < q
            · have k4 := HS2.out.fb.three
              have HY := HML.out c
              have HZ := HAL.out a (mulF p k (nth low) c c)
              have HTC := Lib.hid (HT.out c wr HS2.out.ext hlc)
              have HSC : Hid (∀ w', _) := fun w' => HS.out a (mulF p k (nth low) c c) w' hlt HY
              have HNX := Lib.hid (rpIs_next HR2.out hc1 hlc)
              obtain ⟨y, hy⟩ : ∃ y, mulF p k (nth low) c c = y := ⟨_, rfl⟩
              rw [hy] at HTC HSC HNX HZ HY
              obtain ⟨z, hz⟩ : ∃ z, addF p k a y = z := ⟨_, rfl⟩
              rw [hz] at HSC HNX HZ
              have hzN : a * q + z < N := by
                have h1 := HN.out
                have := Nat.mul_le_mul_right q (show a + 1 ≤ q by omega)
                rw [Nat.succ_mul] at this
                omega
              obtain ⟨u, hu⟩ : ∃ u, a * q = u := ⟨_, rfl⟩
              have hu2 : (a : Int) * (q : Int) = u := by rw [← hu, Int.natCast_mul]
              rw [hu] at HNX hzN
              clear hy hz hu
              go_wp2_with fail
              refine Calls.mono HTC.out ?_
              rintro e w4 ⟨rfl, hx4⟩
              have HS4 := Lib.hid (HS2.out.carry hx4)
              have k5 := HS4.out.fb.three
              clear hx4 k4
              go_wp2_with fail
              refine Calls.mono (HSC.out _) ?_
              rintro e w5 ⟨rfl, hx5⟩
              have HS5 := Lib.hid (HS4.out.carry hx5)
              have k6 := HS5.out.sq.two
              have k7 := HS5.out.own.at hzN
              have k8 := HS5.out.own.f (u + z)
              have HS6 := Lib.hid (HS5.out.put hzN)
              clear hx5 k5
              go_wp2
              go_roundw
              case rel => first | exact ⟨c + 1, _, by omega, by omega, by go_num, HS6.out, HNX.out⟩ | exact ⟨_, _, _, _, _, _, _, _, _, _, _, _, _, _, _, _, _, _, _, _, _, _, _, _, ⟨c + 1, _, by omega, by omega, by go_num, HS6.out, HNX.out⟩, rfl⟩
              case measure => simp [intOf]; omega
            · obtain rfl : q = c := by omega
              have HRW := Lib.hid (rpIs_row HR2.out)
              go_wp2
              go_roundw
              case rel => exact ⟨a + 1, G, by omega, by go_num, HS2.out, HRW.out⟩
              case measure => simp [intOf]; omega
        · obtain rfl : q = a := by omega
          have k4 := HS1.out.sq.two
          have k5 := HS1.out.rb.two
          have k6 := HS1.out.rb.f
          have HB2 := Lib.hid ((HS1.out.rb.set 0 (.int .i64 q)).set 1 (.slice (some ⟨g, 0, none⟩) N N))
          go_wp2
          have e0 := HB2.out.c 0 (.int .i64 q) rfl
          have e1 := HB2.out.c 1 (.slice (some ⟨g, 0, none⟩) N N) rfl
          have hg2 := HS1.out.own.lt.1
          have hw2 := HS1.out.w2w
          have hr2 := HS1.out.rr
          have HE : Hid (Ext w _) := (HS1.out.ext.set (p := ⟨r, 0, none⟩) (by simp; omega) (.int .i64 q)).set (p := ⟨r, 1, none⟩) (by simp; omega) (.slice (some ⟨g, 0, none⟩) N N)
          have HRD := Lib.hid ((HS1.out.own.row.beside ⟨r, 0, none⟩ (by simp; omega) (.int .i64 q)).beside ⟨r, 1, none⟩ (by simp; omega) (.slice (some ⟨g, 0, none⟩) N N)).reads
          have HFE : Hid (tab F N = tab (flat q (joinCell (palJoin p k low))) N) := tab_congr _ _ _ fun i hi => HEND.out F HR1.out i (by rw [HN.out]; exact hi)
          refine bodyPost_ret (v := .tuple #[.agg #[.int .i64 q, .slice (some ⟨g, 0, none⟩) N N], .int .i64 0]) (by simp [results, Tryd.results5, go_sem, e0, e1]) rfl ?_
          rw [HQ.out, HN.out]
          exact ⟨fun h => absurd h (by omega), fun _ h => absurd HQ4.out h, fun _ _ => ⟨_, _, rfl, by rw [← HFE.out]; exact HRD.out, HE.out⟩⟩
    · obtain ⟨m, hm⟩ : ∃ m, q % 4 = m := ⟨_, rfl⟩
      have b2 : (q : Int) % 4 = m := by omega
      have b3 : ((m : Int) != 1) = true := by rw [bne_iff_ne]; omega
      have h5 : ¬ m = 1 := by omega
      clear h4
      have HB2 := Lib.hid ((R2.out.set 0 (.int .i64 0)).set 1 (.slice none 0 0))
      go_wp2
      have e0 := HB2.out.c 0 (.int .i64 0) rfl
      have e1 := HB2.out.c 1 (.slice none 0 0) rfl
      have HE : Hid (Ext w _) := (HX2.out.set (p := ⟨w.heap.size + 1, 0, none⟩) (by simp) (.int .i64 0)).set (p := ⟨w.heap.size + 1, 1, none⟩) (by simp) (.slice none 0 0)
      refine bodyPost_ret (v := .tuple #[.agg #[.int .i64 0, .slice none 0 0], .int .i64 4]) (by simp [results, Tryd.results5, go_sem, e0, e1]) rfl ?_
      rw [HQ.out]
      first | exact fun _ => ⟨rfl, HE.out⟩ | exact ⟨fun h => absurd h (by omega), fun _ _ => ⟨rfl, HE.out⟩, fun _ h => absurd h (by omega)⟩

end Go.Proofs.YthfjlemlpgkedaaDoor
