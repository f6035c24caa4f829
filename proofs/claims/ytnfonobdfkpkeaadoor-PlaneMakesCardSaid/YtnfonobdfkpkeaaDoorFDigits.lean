/- What field.digits answers. No conditions. -/
import Derived.Test.YtnfonobdfkpkeaaDoorPoly
import Derived.BigRegion
import Derived.Outline
namespace Go.Proofs.YtnfonobdfkpkeaaDoor
open Go.RowKit

/-- The digits, as a polynomial. -/
def dgI (p a i : Nat) : Int := (dgt p a i : Nat)
/-- Some of them. -/
def dgU (p a j i : Nat) : Int := if i < j then dgI p a i else 0
theorem dgU_succ (p a j i : Nat) : dgU p a (j + 1) i = upd (dgU p a j) j (dgt p a j : Nat) i := by
  unfold upd dgU dgI
  by_cases e : i = j
  · subst e; rw [if_pos (by omega), if_pos rfl]
  · rw [if_neg e]
    by_cases h : i < j
    · rw [if_pos (by omega), if_pos h]
    · rw [if_neg (by omega), if_neg h]

/-- A round's world. -/
structure DgSt (w wr : World) (p a j : Nat) : Prop where
  ext : Ext w wr
  res : Pol wr w.heap.size (fun _ => 0)
  out : Pol wr (w.heap.size + 1) (dgU p a j)
theorem DgSt.next {w wr : World} {p a j : Nat} (h : DgSt w wr p a j) (hj : j < 7) : DgSt w (wr.setCell ⟨w.heap.size + 1, j, none⟩ (.int .i64 (dgt p a j : Nat))) p a (j + 1) :=
  ⟨h.ext.set (by simp) _, h.res.beside _ (by simp) _, (h.out.set j hj _).congr fun i _ => (dgU_succ p a j i).symm⟩
theorem DgSt.drew {w wr : World} {p a j : Nat} (h : DgSt w wr p a j) : DgSt w wr.drew p a j := ⟨h.ext.drew, h.res.drew, h.out.drew⟩

set_option maxHeartbeats 4000000 in
theorem digits_any (p a : Nat) (w : World) (h2 : 2 ≤ p) (h61 : p ≤ 61) (ha : a < 128) :
    Calls Tryd.prog 33 #[.int .i64 p, .int .i64 a] w fun e w' => e = .returned (.agg #[.int .i64 ((dgI p a) 0), .int .i64 ((dgI p a) 1), .int .i64 ((dgI p a) 2), .int .i64 ((dgI p a) 3), .int .i64 ((dgI p a) 4), .int .i64 ((dgI p a) 5), .int .i64 ((dgI p a) 6)]) ∧ Ext w w' := by
  have H0 : Hid (DgSt w ((w.alloc (.cells #[.int .i64 0, .int .i64 0, .int .i64 0, .int .i64 0, .int .i64 0, .int .i64 0, .int .i64 0] 63)).alloc (.cells #[.int .i64 0, .int .i64 0, .int .i64 0, .int .i64 0, .int .i64 0, .int .i64 0, .int .i64 0] 63)) p a 0) :=
    ⟨((Ext.refl w).alloc _).alloc _, Pol.alloc (Pol.new w (fun _ => 0)) _, Pol.congr (f := fun _ => 0) (Pol.new' (w.alloc (.cells #[.int .i64 0, .int .i64 0, .int .i64 0, .int .i64 0, .int .i64 0, .int .i64 0, .int .i64 0] 63)) (fun _ => 0) (b := w.heap.size + 1) (by rw [World.size_alloc])) fun i _ => by show (0 : Int) = dgU p a 0 i; unfold dgU; rw [if_neg (by omega)]⟩
  go_enter Tryd.func33, Tryd.ntmps33
  go_wp2
  obtain ⟨w0, hw0⟩ : ∃ w0, w0 = (w.alloc (.cells #[.int .i64 0, .int .i64 0, .int .i64 0, .int .i64 0, .int .i64 0, .int .i64 0, .int .i64 0] 63)).alloc (.cells #[.int .i64 0, .int .i64 0, .int .i64 0, .int .i64 0, .int .i64 0, .int .i64 0, .int .i64 0] 63) := ⟨_, rfl⟩
  rw [← hw0] at H0 ⊢
  clear hw0
  go_loopw [1, 6] (fun n i wr => ∃ j A : Nat, j ≤ 7 ∧ i = .int .i64 j ∧ n = .int .i64 A ∧ A < 128 ∧ Hid (A = a / p ^ j) ∧ DgSt w wr p a j) (fun n _ _ => (intOf n).toNat)
  case atStart => exact ⟨0, a, by omega, rfl, rfl, ha, by show _ = _; simp, H0.out⟩
  case round =>
    obtain ⟨j, A, hj, rfl, rfl, hA, HA, hst⟩ := hrel
    have HS := Lib.hid hst
    clear hst H0
    by_cases hA0 : 0 < A
    · have hj7 : j < 7 := by
        rcases Nat.lt_or_ge j 7 with h | h
        · exact h
        · exfalso
          have h1 : 2 ^ 7 ≤ p ^ j := Nat.le_trans (Nat.pow_le_pow_left h2 7) (Nat.pow_le_pow_right (by omega) h)
          have h3 := HA.out
          rw [Nat.div_eq_of_lt (by omega)] at h3
          omega
      obtain ⟨d, hd⟩ : ∃ d, A % p = d := ⟨_, rfl⟩
      obtain ⟨B, hB⟩ : ∃ B, A / p = B := ⟨_, rfl⟩
      have hd' : (A : Int) % p = d := by rw [← hd]; simp
      have hB' : (A : Int) / p = B := by rw [← hB]; simp
      have hBA : B < A := by rw [← hB]; exact Nat.div_lt_self hA0 h2
      have HB : Hid (B = a / p ^ (j + 1)) := by show _ = _; rw [← hB, HA.out, Nat.div_div_eq_div_mul, Nat.pow_succ]
      have HN : Hid (DgSt w (wr.setCell ⟨w.heap.size + 1, j, none⟩ (.int .i64 (d : Nat))) p a (j + 1)) := by
        rw [← hd, HA.out]; exact HS.out.next hj7
      have k1 := HS.out.out.at j hj7
      have k2 := HS.out.out.f j
      have hp1 : (0 : Int) ≤ (j : Int) := by omega
      have hp2 : (j : Int) < 7 := by omega
      clear hd hB
      obtain ⟨wo, rfl⟩ : ∃ wo : World, wo = wr := ⟨_, rfl⟩
      go_wp2
      go_region
      all_goals
        go_wp2
        exact ⟨⟨j + 1, B, by omega, by go_num, rfl, by omega, HB, HN.out.drew⟩, by simp [intOf]; omega⟩
    · obtain rfl : A = 0 := by omega
      have HF : Hid (Pol wr (w.heap.size + 1) (dgI p a)) := HS.out.out.congr fun i hi => by
        unfold dgU
        by_cases h : i < j
        · rw [if_pos h]
        · rw [if_neg h]
          unfold dgI dgt
          have h1 := HA.out
          have h3 : a / p ^ i = 0 := by
            have : a < p ^ j := by
              rcases Nat.lt_or_ge a (p ^ j) with h4 | h4
              · exact h4
              · have := Nat.div_pos h4 (Nat.pow_pos (by omega)); omega
            exact Nat.div_eq_of_lt (Nat.lt_of_lt_of_le this (Nat.pow_le_pow_right (by omega) (by omega)))
          rw [h3]; simp
      have k1 := HF.out.seven
      have k2 := HS.out.res.seven
      have k3 := HS.out.res.f
      have HR := Lib.hid (HS.out.res.stored (dgI p a))
      have HX : Hid (Ext w _) := HS.out.ext.stored (b := w.heap.size) (Nat.le_refl _) (.int .i64 (dgI p a 0)) (.int .i64 (dgI p a 1)) (.int .i64 (dgI p a 2)) (.int .i64 (dgI p a 3)) (.int .i64 (dgI p a 4)) (.int .i64 (dgI p a 5)) (.int .i64 (dgI p a 6))
      go_wp2
      have k4 := HR.out.seven
      exact bodyPost_ret (v := .agg #[.int .i64 ((dgI p a) 0), .int .i64 ((dgI p a) 1), .int .i64 ((dgI p a) 2), .int .i64 ((dgI p a) 3), .int .i64 ((dgI p a) 4), .int .i64 ((dgI p a) 5), .int .i64 ((dgI p a) 6)]) (by simp [results, Tryd.results33, go_sem, k4]) rfl ⟨rfl, HX.out⟩

end Go.Proofs.YtnfonobdfkpkeaaDoor
