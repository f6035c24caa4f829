/- What plane.open and parterreref3.PlaneFault answer. Condition: primes. -/
import Derived.Test.YtnfonobdfkpkeaaDoorFOpMul
import Derived.Test.YtnfonobdfkpkeaaDoorFCheck
import Derived.Test.YtnfonobdfkpkeaaDoorRFault
import Derived.Deep.LoopGhost
namespace Go.Proofs.YtnfonobdfkpkeaaDoor
open Go.RowKit
set_option linter.unusedVariables false

/-- What is wrong with a field for a plane. -/
def plFault (p k : Int) (low : List Int) : Int := if fieldFault p k low ≠ 0 then fieldFault p k low else if 5 < ordF p k then 3 else 0
theorem plFault_zero {p k : Int} {low : List Int} (h : plFault p k low = 0) : ∃ P K : Nat, p = P ∧ k = K ∧ IsField P K low ∧ P ^ K ≤ 5 := by
  unfold plFault at h
  by_cases h0 : fieldFault p k low = 0
  · rw [if_neg (fun g => g h0)] at h
    obtain ⟨P, K, rfl, rfl, hF, ho⟩ := fieldFault_zero h0
    rw [ho] at h
    by_cases h5 : 5 < P ^ K
    · rw [if_pos h5] at h; cases h
    · exact ⟨P, K, rfl, rfl, hF, by omega⟩
  · rw [if_pos h0] at h; exact absurd h h0

set_option maxHeartbeats 1000000 in
theorem plOpen_bad (p k : Int) (ao : Option Addr) (len cap : Nat) (low : List Int) (w : World) (hP : Primes w) (hl : low.length = len) (hr : Reads w ao (ints low)) (h0 : fieldFault p k low ≠ 0) :
    Calls Tryd.prog 13 #[.agg #[.int .i64 p, .int .i64 k, .slice ao len cap]] w fun e w' => e = .returned (.tuple #[.int .i64 0, .int .i64 (fieldFault p k low)]) ∧ Ext w w' := by
  have E0 := Lib.hid (ext_box w #[.int .i64 p, .int .i64 k, .slice ao len cap] 24)
  have HC := Lib.hid (fieldCheck_any p k ao len cap low _ (hP.ext E0.out) hl (E0.out.reads hr))
  obtain ⟨c, hc⟩ : ∃ c, fieldFault p k low = c := ⟨_, rfl⟩
  rw [hc] at HC h0 ⊢
  have b0 : (c != 0) = true := by rw [bne_iff_ne]; exact h0
  clear hc h0 hP hl hr
  go_enter Tryd.func13, Tryd.ntmps13
  go_wp2_with fail
  refine Calls.mono HC.out ?_
  rintro e w1 ⟨rfl, hx⟩
  have E1 := Lib.hid (E0.out.trans hx)
  clear hx
  go_wp2
  exact bodyPost_ret (v := .tuple #[.int .i64 0, .int .i64 c]) (by simp [results, Tryd.results13, go_sem]) rfl ⟨rfl, E1.out⟩

set_option maxHeartbeats 2000000 in
theorem plOpen_field (p k : Nat) (ao : Option Addr) (cap : Nat) (low : List Int) (w : World) (hP : Primes w) (hF : IsField p k low) (hr : Reads w ao (ints low)) (qv c : Int) (hc : (5 < p ^ k ∧ qv = 0 ∧ c = 3) ∨ (p ^ k ≤ 5 ∧ qv = (p ^ k : Nat) ∧ c = 0)) :
    Calls Tryd.prog 13 #[.agg #[.int .i64 p, .int .i64 k, .slice ao k cap]] w fun e w' => e = .returned (.tuple #[.int .i64 qv, .int .i64 c]) ∧ Ext w w' := by
  have E0 := Lib.hid (ext_box w #[.int .i64 p, .int .i64 k, .slice ao k cap] 24)
  have F0 := Lib.hid (Blk.new w #[.int .i64 p, .int .i64 k, .slice ao k cap] 24)
  have HC := Lib.hid (fieldCheck_any p k ao k cap low _ (hP.ext E0.out) hF.len (E0.out.reads hr))
  rw [hF.fault.1] at HC
  have hpb := hF.p61
  have hp2 := hF.p2
  have hk6 := hF.k6
  have HB : Hid (∀ i, i ≤ k → p ^ i ≤ 64) := fun i hi => Nat.le_trans (Nat.pow_le_pow_right (by omega) hi) hF.big
  obtain ⟨q, hq⟩ : ∃ q, p ^ k = q := ⟨_, rfl⟩
  have HQ := Lib.hid hq
  rw [hq] at hc
  have HCC := Lib.hid hc
  clear hP hF hr hq hc
  go_enter Tryd.func13, Tryd.ntmps13
  go_wp2_with fail
  refine Calls.mono HC.out ?_
  rintro e w1 ⟨rfl, hx⟩
  have E1 := Lib.hid (E0.out.trans hx)
  have k1 := (F0.out.ext hx).three
  clear hx
  go_wp2
  go_loopg [5, 13] k (fun r y x wr => ∃ i u : Nat, i + r = k ∧ x = .int .i64 i ∧ y = .int .i64 u ∧ Hid (u = p ^ i) ∧ w1 = wr)
  case atStart => exact ⟨0, 1, by omega, rfl, rfl, by show _ = _; rw [Nat.pow_zero], rfl⟩
  case round =>
    obtain ⟨i, u, hir, rfl, rfl, HU, rfl⟩ := hrel
    cases gk with
    | succ r1 =>
      have hik : (i : Int) < (k : Int) := by omega
      obtain ⟨v, hv⟩ : ∃ v, u * p = v := ⟨_, rfl⟩
      have hv' : (u : Int) * (p : Int) = v := by rw [← hv, Int.natCast_mul]
      have HV : Hid (v = p ^ (i + 1)) := by show _ = _; rw [← hv, HU.out, Nat.pow_succ]
      have hvb : v ≤ 64 := by have := HB.out (i + 1) (by omega); rw [HV.out]; exact this
      clear hv
      go_wp2
      go_roundg r1
      case measure => omega
      case rel => exact ⟨i + 1, v, by omega, by go_num, rfl, HV, rfl⟩
    | zero =>
      obtain rfl : k = i := by omega
      obtain rfl : q = u := by rw [HU.out]; exact HQ.out.symm
      clear HU HQ
      rcases HCC.out with ⟨h5, rfl, rfl⟩ | ⟨h5, rfl, rfl⟩
      · have b5 : decide (5 < (q : Int)) = true := decide_eq_true (by omega)
        clear h5
        go_wp2
        exact bodyPost_ret (v := .tuple #[.int .i64 0, .int .i64 3]) (by simp [results, Tryd.results13, go_sem]) rfl ⟨rfl, E1.out⟩
      · have b5 : decide (5 < (q : Int)) = false := decide_eq_false (by omega)
        clear h5
        go_wp2
        exact bodyPost_ret (v := .tuple #[.int .i64 (q : Int), .int .i64 0]) (by simp [results, Tryd.results13, go_sem]) rfl ⟨rfl, E1.out⟩

set_option maxHeartbeats 1000000 in
theorem planeFault_any (p k : Int) (ao : Option Addr) (len cap : Nat) (low : List Int) (w : World) (hl : low.length = len) (hr : Reads w ao (ints low)) :
    Calls Tryd.prog 4 #[.agg #[.int .i64 p, .int .i64 k, .slice ao len cap]] w fun e w' => e = .returned (.int .i64 (plFault p k low)) ∧ Ext w w' := by
  have E0 := Lib.hid (ext_box w #[.int .i64 p, .int .i64 k, .slice ao len cap] 24)
  have F0 := Lib.hid (Blk.new w #[.int .i64 p, .int .i64 k, .slice ao len cap] 24)
  have HC := Lib.hid (refFault_any p k ao len cap low _ hl (E0.out.reads hr))
  have HS : Hid (∀ w, _) := fun w => size_any p k ao len cap w
  have HPF : Hid (plFault p k low = if fieldFault p k low ≠ 0 then fieldFault p k low else if 5 < ordF p k then 3 else 0) := rfl
  obtain ⟨v, hv⟩ : ∃ v, plFault p k low = v := ⟨_, rfl⟩
  obtain ⟨c, hc⟩ : ∃ c, fieldFault p k low = c := ⟨_, rfl⟩
  obtain ⟨q, hq⟩ : ∃ q, ordF p k = q := ⟨_, rfl⟩
  rw [hv, hc, hq] at HPF
  rw [hc] at HC
  rw [hq] at HS
  rw [hv]
  clear hc hq hv hl hr
  by_cases h0 : c = 0
  · have b0 : (c != 0) = false := by rw [h0]; rfl
    have hpf := HPF.out
    rw [if_neg (fun g => g h0)] at hpf
    clear h0 HPF
    by_cases h5 : 5 < q
    · have b5 : decide (5 < (q : Int)) = true := decide_eq_true (by omega)
      rw [if_pos h5] at hpf
      subst hpf
      clear h5
      go_enter Tryd.func4, Tryd.ntmps4
      go_wp2_with fail
      refine Calls.mono HC.out ?_
      rintro e w1 ⟨rfl, hx⟩
      have E1 := Lib.hid (E0.out.trans hx)
      have k1 := (F0.out.ext hx).three
      clear hx
      go_wp2_with fail
      refine Calls.mono (HS.out w1) ?_
      rintro e w2 ⟨rfl, hx⟩
      have E2 := Lib.hid (E1.out.trans hx)
      clear hx k1
      go_wp2
      go_ret
      exact ⟨rfl, E2.out⟩
    · have b5 : decide (5 < (q : Int)) = false := decide_eq_false (by omega)
      rw [if_neg h5] at hpf
      subst hpf
      clear h5
      go_enter Tryd.func4, Tryd.ntmps4
      go_wp2_with fail
      refine Calls.mono HC.out ?_
      rintro e w1 ⟨rfl, hx⟩
      have E1 := Lib.hid (E0.out.trans hx)
      have k1 := (F0.out.ext hx).three
      clear hx
      go_wp2_with fail
      refine Calls.mono (HS.out w1) ?_
      rintro e w2 ⟨rfl, hx⟩
      have E2 := Lib.hid (E1.out.trans hx)
      clear hx k1
      go_wp2
      go_ret
      exact ⟨rfl, E2.out⟩
  · have b0 : (c != 0) = true := by rw [bne_iff_ne]; exact h0
    have hpf := HPF.out
    rw [if_pos h0] at hpf
    subst hpf
    clear h0 HPF
    go_enter Tryd.func4, Tryd.ntmps4
    go_wp2_with fail
    refine Calls.mono HC.out ?_
    rintro e w1 ⟨rfl, hx⟩
    have E1 := Lib.hid (E0.out.trans hx)
    clear hx
    go_wp2
    go_ret
    exact ⟨rfl, E1.out⟩

end Go.Proofs.YtnfonobdfkpkeaaDoor
