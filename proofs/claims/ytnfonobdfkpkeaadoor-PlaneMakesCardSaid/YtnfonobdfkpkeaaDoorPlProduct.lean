/- What plane.product answers. Condition: primes. -/
import Derived.Test.YtnfonobdfkpkeaaDoorPlTriples
import Derived.Test.YtnfonobdfkpkeaaDoorPlOpen
import Derived.Test.YtnfonobdfkpkeaaDoorTwo
import Derived.Deep.Cut
import Derived.Deep.RegionLaw
namespace Go.Proofs.YtnfonobdfkpkeaaDoor
open Go.RowKit
set_option linter.unusedVariables false

/-- Two triples, place by place, added up. -/
def dot3 (p k : Nat) (low : List Int) (x y z a b c : Nat) : Nat := addF p k (addF p k (addF p k 0 (mulF p k (nth low) x a)) (mulF p k (nth low) y b)) (mulF p k (nth low) z c)

set_option maxHeartbeats 8000000 in
set_option maxRecDepth 100000 in
theorem plProduct_ok (p k : Nat) (ao : Option Addr) (cap : Nat) (low : List Int) (w : World) (hP : Primes w) (hF : IsField p k low) (hr : Reads w ao (ints low)) (x y z a b c : Nat) (hx : x < p ^ k) (hy : y < p ^ k) (hz : z < p ^ k) (ha : a < p ^ k) (hb : b < p ^ k) (hc : c < p ^ k) :
    Calls Tryd.prog 15 #[.agg #[.int .i64 p, .int .i64 k, .slice ao k cap], .agg #[.int .i64 (x : Int), .int .i64 (y : Int), .int .i64 (z : Int)], .agg #[.int .i64 (a : Int), .int .i64 (b : Int), .int .i64 (c : Int)]] w fun e w' => e = .returned (.int .i64 (dot3 p k low x y z a b c : Nat)) ∧ Ext w w' := by
  have hp0 : 0 < p := by have := hF.p2; omega
  have hq0 : 0 < p ^ k := Nat.pow_pos hp0
  have HMU : Hid (∀ W u v, Ext w W → u < p ^ k → v < p ^ k → _) := fun W u v (h : Ext w W) hu hv => fieldMul_ok p k u v ao k cap low W (hP.ext h) hF hF.len (h.reads hr) hu hv
  have HAD : Hid (∀ W u v, Ext w W → u < p ^ k → v < p ^ k → _) := fun W u v (h : Ext w W) hu hv => fieldAdd_ok p k u v ao k cap low W (hP.ext h) hF hF.len (h.reads hr) hu hv
  have HML : Hid (∀ u v, mulF p k (nth low) u v < p ^ k) := fun u v => mulF_lt hp0 u v
  have HAL : Hid (∀ u v, addF p k u v < p ^ k) := fun u v => addF_lt hp0 u v
  have E0 : Hid (Ext w (((w.alloc (.cells #[.int .i64 p, .int .i64 k, .slice ao k cap] 24)).alloc (.cells #[.int .i64 (x : Int), .int .i64 (y : Int), .int .i64 (z : Int)] 45)).alloc (.cells #[.int .i64 (a : Int), .int .i64 (b : Int), .int .i64 (c : Int)] 45))) := (((Ext.refl w).alloc _).alloc _).alloc _
  have F0 : Hid (Blk (((w.alloc (.cells #[.int .i64 p, .int .i64 k, .slice ao k cap] 24)).alloc (.cells #[.int .i64 (x : Int), .int .i64 (y : Int), .int .i64 (z : Int)] 45)).alloc (.cells #[.int .i64 (a : Int), .int .i64 (b : Int), .int .i64 (c : Int)] 45)) w.heap.size #[.int .i64 p, .int .i64 k, .slice ao k cap] 24) := ((Blk.new w _ _).alloc _).alloc _
  have B0 : Hid (Blk (((w.alloc (.cells #[.int .i64 p, .int .i64 k, .slice ao k cap] 24)).alloc (.cells #[.int .i64 (x : Int), .int .i64 (y : Int), .int .i64 (z : Int)] 45)).alloc (.cells #[.int .i64 (a : Int), .int .i64 (b : Int), .int .i64 (c : Int)] 45)) (w.heap.size + 1 + 1) #[.int .i64 (a : Int), .int .i64 (b : Int), .int .i64 (c : Int)] 45) := Blk.new' _ _ _ (by simp)
  have HD : Hid (dot3 p k low x y z a b c = addF p k (addF p k (addF p k 0 (mulF p k (nth low) x a)) (mulF p k (nth low) y b)) (mulF p k (nth low) z c)) := rfl
  obtain ⟨D, hD⟩ : ∃ D, dot3 p k low x y z a b c = D := ⟨_, rfl⟩
  obtain ⟨mu, hmu⟩ : ∃ mu, mulF p k (nth low) = mu := ⟨_, rfl⟩
  obtain ⟨ad, had⟩ : ∃ ad, addF p k = ad := ⟨_, rfl⟩
  obtain ⟨q, hq⟩ : ∃ q, p ^ k = q := ⟨_, rfl⟩
  have h64 : q ≤ 64 := by rw [← hq]; exact hF.big
  rw [hD, had, hmu] at HD
  rw [hmu, hq] at HMU HML
  rw [had, hq] at HAD HAL
  rw [hq] at hx hy hz ha hb hc hq0
  rw [hD]
  have i0 : ∀ w, (Instr.index 45 (.agg #[.int .i64 (x : Int), .int .i64 (y : Int), .int .i64 (z : Int)]) (.int .i64 0)).run Tryd.prog w = .ok (.int .i64 (x : Int)) w := fun w => run_index3 w _ 0 x (by omega) rfl
  have i1 : ∀ w, (Instr.index 45 (.agg #[.int .i64 (x : Int), .int .i64 (y : Int), .int .i64 (z : Int)]) (.int .i64 1)).run Tryd.prog w = .ok (.int .i64 (y : Int)) w := fun w => run_index3 w _ 1 y (by omega) rfl
  have i2 : ∀ w, (Instr.index 45 (.agg #[.int .i64 (x : Int), .int .i64 (y : Int), .int .i64 (z : Int)]) (.int .i64 2)).run Tryd.prog w = .ok (.int .i64 (z : Int)) w := fun w => run_index3 w _ 2 z (by omega) rfl
  have HEN : Hid (∀ (args : Array Value) (w : World), (callFunc 16 args).run Tryd.prog w = .ok (.enter 16 args) w) := fun _ _ => rfl
  clear hP hF hr hD hmu had hq
  go_enter Tryd.func15, Tryd.ntmps15
  go_wp2
  obtain ⟨w0, hw0⟩ : ∃ w0, w0 = ((w.alloc (.cells #[.int .i64 p, .int .i64 k, .slice ao k cap] 24)).alloc (.cells #[.int .i64 (x : Int), .int .i64 (y : Int), .int .i64 (z : Int)] 45)).alloc (.cells #[.int .i64 (a : Int), .int .i64 (b : Int), .int .i64 (c : Int)] 45) := ⟨_, rfl⟩
  rw [← hw0] at E0 F0 B0 ⊢
  clear hw0
  refine wp_loop_rounds 4 ?_
  rw [rounds_succ]
  have k0 := F0.out.three
  have j0 := B0.out.three
  have HMC0 := Lib.hid (HMU.out w0.drew x a E0.out.drew hx ha)
  have hm0 := HML.out x a
  obtain ⟨m0, em0⟩ : ∃ m, mu x a = m := ⟨_, rfl⟩
  rw [em0] at HMC0 hm0 HD
  clear em0
  go_upto_region 5 with fail
  go_region_law (first | (refine step_callS (f := 16) (xs := #[.tmp 18, .tmp 19, .tmp 22]) (ats := #[24, 3, 3]) (args := #[.agg #[.int .i64 p, .int .i64 k, .slice ao k cap], .int .i64 x, .int .i64 a]) (R := fun w' => Ext w0.drew w') (.tuple #[.int .i64 m0, .int .i64 0]) ?_ ?_ HEN.out ?_ HMC0.out ?_; (next => rfl); (next => rfl); (next => simp [Act.eval]; done); intro w1 hx6; have X0 := Lib.hid ((Ext.refl w0).drew.trans hx6); clear hx6))
  all_goals
    have E1 := Lib.hid (E0.out.trans X0.out)
    have F1 := Lib.hid (F0.out.ext X0.out)
    have B1 := Lib.hid (B0.out.ext X0.out)
    have l0 := F1.out.three
    have HAC0 := Lib.hid (HAD.out w1 0 m0 E1.out hq0 hm0)
    have hs0 := HAL.out 0 m0
    obtain ⟨s0, es0⟩ : ∃ s, ad 0 m0 = s := ⟨_, rfl⟩
    rw [es0] at HAC0 hs0 HD
    clear es0 k0 j0 HMC0
    go_wp2_with fail
    refine Calls.mono HAC0.out ?_
    rintro e w2 ⟨rfl, hx⟩
    have E2 := Lib.hid (E1.out.trans hx)
    have F2 := Lib.hid (F1.out.ext hx)
    have B2 := Lib.hid (B1.out.ext hx)
    clear hx l0 HAC0
    go_wp2
    rw [rounds_succ]
    have k1 := F2.out.three
    have j1 := B2.out.three
    have HMC1 := Lib.hid (HMU.out w2.drew y b E2.out.drew hy hb)
    have hm1 := HML.out y b
    obtain ⟨m1, em1⟩ : ∃ m, mu y b = m := ⟨_, rfl⟩
    rw [em1] at HMC1 hm1 HD
    clear em1
    go_upto_region 5 with fail
    go_region_law (first | (refine step_callS (f := 16) (xs := #[.tmp 18, .tmp 19, .tmp 22]) (ats := #[24, 3, 3]) (args := #[.agg #[.int .i64 p, .int .i64 k, .slice ao k cap], .int .i64 y, .int .i64 b]) (R := fun w' => Ext w2.drew w') (.tuple #[.int .i64 m1, .int .i64 0]) ?_ ?_ HEN.out ?_ HMC1.out ?_; (next => rfl); (next => rfl); (next => simp [Act.eval]; done); intro w3 hx6; have X1 := Lib.hid ((Ext.refl w2).drew.trans hx6); clear hx6))
    all_goals
      have E3 := Lib.hid (E2.out.trans X1.out)
      have F3 := Lib.hid (F2.out.ext X1.out)
      have B3 := Lib.hid (B2.out.ext X1.out)
      have l1 := F3.out.three
      have HAC1 := Lib.hid (HAD.out w3 s0 m1 E3.out hs0 hm1)
      have hs1 := HAL.out s0 m1
      obtain ⟨s1, es1⟩ : ∃ s, ad s0 m1 = s := ⟨_, rfl⟩
      rw [es1] at HAC1 hs1 HD
      clear es1 k1 j1 HMC1
      go_wp2_with fail
      refine Calls.mono HAC1.out ?_
      rintro e w4 ⟨rfl, hx⟩
      have E4 := Lib.hid (E3.out.trans hx)
      have F4 := Lib.hid (F3.out.ext hx)
      have B4 := Lib.hid (B3.out.ext hx)
      clear hx l1 HAC1
      go_wp2
      rw [rounds_succ]
      have k2 := F4.out.three
      have j2 := B4.out.three
      have HMC2 := Lib.hid (HMU.out w4.drew z c E4.out.drew hz hc)
      have hm2 := HML.out z c
      obtain ⟨m2, em2⟩ : ∃ m, mu z c = m := ⟨_, rfl⟩
      rw [em2] at HMC2 hm2 HD
      clear em2
      go_upto_region 5 with fail
      go_region_law (first | (refine step_callS (f := 16) (xs := #[.tmp 18, .tmp 19, .tmp 22]) (ats := #[24, 3, 3]) (args := #[.agg #[.int .i64 p, .int .i64 k, .slice ao k cap], .int .i64 z, .int .i64 c]) (R := fun w' => Ext w4.drew w') (.tuple #[.int .i64 m2, .int .i64 0]) ?_ ?_ HEN.out ?_ HMC2.out ?_; (next => rfl); (next => rfl); (next => simp [Act.eval]; done); intro w5 hx6; have X2 := Lib.hid ((Ext.refl w4).drew.trans hx6); clear hx6))
      all_goals
        have E5 := Lib.hid (E4.out.trans X2.out)
        have F5 := Lib.hid (F4.out.ext X2.out)
        have B5 := Lib.hid (B4.out.ext X2.out)
        have l2 := F5.out.three
        have HAC2 := Lib.hid (HAD.out w5 s1 m2 E5.out hs1 hm2)
        have hs2 := HAL.out s1 m2
        obtain ⟨s2, es2⟩ : ∃ s, ad s1 m2 = s := ⟨_, rfl⟩
        rw [es2] at HAC2 hs2 HD
        clear es2 k2 j2 HMC2
        go_wp2_with fail
        refine Calls.mono HAC2.out ?_
        rintro e w6 ⟨rfl, hx⟩
        have E6 := Lib.hid (E5.out.trans hx)
        have F6 := Lib.hid (F5.out.ext hx)
        have B6 := Lib.hid (B5.out.ext hx)
        clear hx l2 HAC2
        go_wp2
        rw [rounds_succ]
        go_wp2
        have hD := HD.out
        subst hD
        go_ret
        exact ⟨rfl, E6.out⟩

end Go.Proofs.YtnfonobdfkpkeaaDoor
