/- What array.Strength answers at any runs. -/
import Derived.Test.YtnhdngnolepkcaaAlike
namespace Go.Proofs.Ytnhdngnolepkcaa
open Go.RowKit Go.Maps

/-- All lists stand alike often in the columns of a set. -/
def AlikeP (S : Nat) (xss : List (List Int)) (C : Nat) : Prop := S ^ onesOf C ≤ xss.length ∧ ∀ i, i < xss.length → cntUp xss C (keyOf8 C (row xss i)) xss.length * S ^ onesOf C = xss.length
/-- The strength. -/
def StrengthIs (S : Nat) (xss : List (List Int)) (t : Nat) : Prop :=
  t ≤ (row xss 0).length ∧ (∀ C, C < 2 ^ (row xss 0).length → 1 ≤ onesOf C → onesOf C ≤ t → AlikeP S xss C) ∧ (t = (row xss 0).length ∨ ∃ C, C < 2 ^ (row xss 0).length ∧ onesOf C = t + 1 ∧ ¬ AlikeP S xss C)
theorem StrengthIs.one {S : Nat} {xss : List (List Int)} {t u : Nat} (h : StrengthIs S xss t) (k : StrengthIs S xss u) : t = u := by
  obtain ⟨h1, h2, h3⟩ := h
  obtain ⟨k1, k2, k3⟩ := k
  rcases Nat.lt_trichotomy t u with hlt | hlt | hlt
  · rcases h3 with h3 | ⟨C, c1, c2, c3⟩
    · omega
    · exact absurd (k2 C c1 (by omega) (by omega)) c3
  · exact hlt
  · rcases k3 with k3 | ⟨C, c1, c2, c3⟩
    · omega
    · exact absurd (h2 C c1 (by omega) (by omega)) c3

set_option maxHeartbeats 1000000 in
theorem strength_bad (s : Int) (ao : Option Addr) (n cap : Nat) (xss : List (List Int)) (c : Int) (w : World) (hl : xss.length = n) (hbig : n ≤ maxLen) (hr : ReadsL w ao xss) (hc : RunsAre s xss c) (h0 : c ≠ 0) :
    Calls Try.prog 7 #[.int .i64 s, .slice ao n cap] w fun e w' => e = .returned (.tuple #[.int .i64 0, .int .i64 c]) ∧ Ext w w' := by
  have HC := Lib.hid (runsCheck_any s ao n cap xss w hl hbig hr)
  have HP := Lib.hid hc
  have b1 : (c != 0) = true := by rw [bne_iff_ne]; exact h0
  clear hl hr hc h0
  go_enter Try.func7, Try.ntmps7
  go_wp2_with (go_at_call 11; refine HC.out.mono ?_; rintro e w1 ⟨c', rfl, hca, hx⟩; obtain rfl := HP.out.one hca; have HX := Lib.hid hx; clear hx hca)
  exact bodyPost_ret (v := .tuple #[.int .i64 0, .int .i64 c]) (by simp [results, Try.results7, go_sem]) rfl ⟨rfl, HX.out⟩

set_option maxHeartbeats 4000000 in
set_option maxRecDepth 100000 in
theorem strength_ok (S : Nat) (ao : Option Addr) (n cap : Nat) (xss : List (List Int)) (w : World) (hl : xss.length = n) (hbig : n ≤ maxLen) (hr : ReadsL w ao xss) (hz : RunsAre S xss 0) :
    Calls Try.prog 7 #[.int .i64 S, .slice ao n cap] w fun e w' => ∃ t : Nat, e = .returned (.tuple #[.int .i64 t, .int .i64 0]) ∧ StrengthIs S xss t ∧ Ext w w' := by
  have hR := hz.zero
  have HC := Lib.hid (runsCheck_any S ao n cap xss w hl hbig hr)
  have HP := Lib.hid hz
  have HAL : Hid (∀ (C : Nat) (w' : World), C < 256 → Ext w w' → Calls Try.prog 13 #[.int .i64 S, .slice ao n cap, .int .i64 C] w' fun e w'' => ∃ v : Bool, e = .returned (.bool v) ∧ (v = true ↔ AlikeP S xss C) ∧ Ext w' w'') := fun C w' hC hx => by
    have h := alike_any S C ao n cap xss w' hl (hr.ext hx) hR hC
    unfold AlikeP
    rw [hl]
    exact h
  obtain ⟨b, off, a0, q0, rfl, hb, hc⟩ := hR.first hr
  have hk8 := hR.k8
  have hk1 := hR.k1
  have h128 := hR.n128
  have h1n := hR.n1
  rw [hl] at h128 h1n
  obtain ⟨k, hk⟩ : ∃ k, (row xss 0).length = k := ⟨_, rfl⟩
  have HS : Hid (∀ t, (t ≤ k ∧ (∀ C, C < 2 ^ k → 1 ≤ onesOf C → onesOf C ≤ t → AlikeP S xss C) ∧ (t = k ∨ ∃ C, C < 2 ^ k ∧ onesOf C = t + 1 ∧ ¬ AlikeP S xss C)) → StrengthIs S xss t) := fun t h => by
    unfold StrengthIs; rw [hk]; exact h
  rw [hk] at hk8 hk1 hc
  have HON : Hid (∀ (C : Nat) (w' : World), C < 256 → Calls Try.prog 12 #[.int .u64 C] w' fun e w'' => e = .returned (.int .i64 (onesOf C)) ∧ w' = w'') := fun C w' hC => ones_any C w' hC
  have hpow : 2 ^ k ≤ 256 := by
    have : 2 ^ k ≤ 2 ^ 8 := Nat.pow_le_pow_right (by omega) hk8
    omega
  have HPOS : Hid (∀ C, C < 2 ^ k → onesOf C ≤ 8) := fun C hC => by
    have h : ∀ C, C < 256 → onesOf C ≤ 8 := by decide +kernel
    exact h C (by omega)
  obtain ⟨K2, hK2⟩ : ∃ K2, 2 ^ k = K2 := ⟨_, rfl⟩
  rw [hK2] at HS hpow HPOS
  have hK2' : (2 : Int) ^ k = (K2 : Int) := by rw [← hK2]; simp
  clear hl hr hz hR hk hK2
  go_enter Try.func7, Try.ntmps7
  go_wp2_with (go_at_call 11; refine HC.out.mono ?_; rintro e w1 ⟨c', rfl, hca, hx⟩; obtain rfl := hca.one HP.out; have HX := Lib.hid hx; have c1 := (hx.cell hb).trans hc; clear hx hca)
  clear c1 hc
  go_loopw [8] (fun a wr => ∃ t : Nat, 1 ≤ t ∧ t ≤ k + 1 ∧ a = .int .i64 t ∧ Ext w wr ∧ Hid (∀ C, C < K2 → 1 ≤ onesOf C → onesOf C < t → AlikeP S xss C)) (fun a _ => k + 1 - (intOf a).toNat)
  case atStart => exact ⟨1, by omega, by omega, by go_num, HX.out, fun C _ h1 h2 => by omega⟩
  case round =>
    obtain ⟨t, ht1, htk, rfl, hx, HA⟩ := hrel
    have HX2 := Lib.hid hx
    clear hx HX
    by_cases htl : t ≤ k
    · obtain ⟨wo, rfl⟩ : ∃ wo : World, wo = wr := ⟨_, rfl⟩
      go_wp2
      go_loopw [27] (fun a wr => ∃ C : Nat, C ≤ K2 ∧ a = .int .i64 C ∧ Ext w wr ∧ Hid (∀ D, D < C → onesOf D = t → AlikeP S xss D)) (fun a _ => K2 - (intOf a).toNat)
      case atStart => exact ⟨0, by omega, by go_num, HX2.out, fun D h => by omega⟩
      case round =>
        obtain ⟨C, hCK, rfl, hx, HD⟩ := hrel
        have HX3 := Lib.hid hx
        clear hx HX2
        by_cases hCl : C < K2
        · have HO := Lib.hid (HON.out C wr (by omega))
          obtain ⟨p, hp⟩ : ∃ p, onesOf C = p := ⟨_, rfl⟩
          have HPE := Lib.hid hp
          rw [hp] at HO
          have hp8 := HPOS.out C hCl
          rw [hp] at hp8
          clear hp
          by_cases hpt : p = t
          · have b2 : ((p : Int) == (t : Int)) = true := by rw [hpt]; simp
            have HPT := Lib.hid hpt
            have HAC := Lib.hid (HAL.out C wr (by omega) HX3.out)
            clear hpt
            go_wp2_with (first
              | (go_at_call 12; refine Calls.mono HO.out ?_; rintro e w2 ⟨rfl, rfl⟩)
              | (go_at_call 13; refine Calls.mono HAC.out ?_; rintro e w2 ⟨v, rfl, hv, hx2⟩; have HV := Lib.hid hv; have HX4 := Lib.hid hx2; clear hv hx2; cases v))
            · exact bodyPost_ret (v := .tuple #[.int .i64 ((t : Int) - 1), .int .i64 0]) (by simp [results, Try.results7, go_sem]) rfl ⟨t - 1, by rw [show ((t - 1 : Nat) : Int) = (t : Int) - 1 by omega],
                HS.out (t - 1) ⟨by omega, fun D h1 h2 h3 => HA.out D h1 h2 (by omega), .inr ⟨C, hCl, by rw [HPE.out, HPT.out]; omega, fun h => by have := HV.out.2 h; simp at this⟩⟩, HX3.out.trans HX4.out⟩
            · go_roundw
              case rel => exact ⟨C + 1, by omega, by go_num, HX3.out.trans HX4.out, fun D hD1 hD2 => by
                rcases Nat.lt_succ_iff_lt_or_eq.1 hD1 with h | rfl
                · exact HD.out D h hD2
                · exact HV.out.1 (by simp)⟩
              case measure => simp [intOf] <;> omega
          · have b2 : ((p : Int) == (t : Int)) = false := by rw [beq_eq_false_iff_ne]; omega
            have HPT := Lib.hid hpt
            clear hpt
            go_wp2_with (go_at_call 12; refine Calls.mono HO.out ?_; rintro e w2 ⟨rfl, rfl⟩)
            go_roundw
            case rel => exact ⟨C + 1, by omega, by go_num, HX3.out, fun D hD1 hD2 => by
              rcases Nat.lt_succ_iff_lt_or_eq.1 hD1 with h | rfl
              · exact HD.out D h hD2
              · exact absurd (HPE.out.symm.trans hD2) HPT.out⟩
            case measure => simp [intOf] <;> omega
        · obtain rfl : K2 = C := by omega
          go_wp2
          go_roundw
          case rel => exact ⟨t + 1, by omega, by omega, by go_num, HX3.out, fun C h1 h2 h3 => by
            rcases Nat.lt_succ_iff_lt_or_eq.1 h3 with h | h
            · exact HA.out C h1 h2 h
            · exact HD.out C h1 h⟩
          case measure => simp [intOf] <;> omega
    · obtain rfl : t = k + 1 := by omega
      go_wp2
      exact bodyPost_ret (v := .tuple #[.int .i64 k, .int .i64 0]) (by simp [results, Try.results7, go_sem]) rfl ⟨k, rfl, HS.out k ⟨Nat.le_refl _, fun C h1 h2 h3 => HA.out C h1 h2 (by omega), .inl rfl⟩, HX2.out⟩

end Go.Proofs.Ytnhdngnolepkcaa
