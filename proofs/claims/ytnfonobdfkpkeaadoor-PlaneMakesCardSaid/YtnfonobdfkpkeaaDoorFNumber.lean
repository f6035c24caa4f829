/- What field's number and shift answer. No conditions. -/
import Derived.Test.YtnfonobdfkpkeaaDoorFWith
namespace Go.Proofs.YtnfonobdfkpkeaaDoor
open Go.RowKit

/-- Digits, from the highest on. -/
def hor (p : Nat) (v : Nat → Nat) (k : Nat) : Nat → Nat
  | 0 => 0
  | c + 1 => hor p v k c * p + v (k - 1 - c)
theorem hor_num (p : Nat) (v : Nat → Nat) (k : Nat) : ∀ c, c ≤ k → hor p v k c * p ^ (k - c) + num p v (k - c) = num p v k
  | 0, _ => by simp [hor]
  | c + 1, hc => by
    have ih := hor_num p v k c (by omega)
    obtain ⟨d, hd⟩ : ∃ d, k - c = d + 1 := ⟨k - c - 1, by omega⟩
    rw [hd, num] at ih
    rw [show k - (c + 1) = d by omega, hor, show k - 1 - c = d by omega, ← ih, Nat.add_mul, Nat.mul_assoc, ← Nat.pow_succ', Nat.succ_eq_add_one]
    omega
theorem hor_all (p : Nat) (v : Nat → Nat) (k : Nat) : hor p v k k = num p v k := by
  have := hor_num p v k k (Nat.le_refl _)
  rw [Nat.sub_self] at this
  simp [num] at this
  exact this
theorem hor_lt {p : Nat} {v : Nat → Nat} (hv : ∀ i, v i < p) (k : Nat) : ∀ c, hor p v k c < p ^ c
  | 0 => by simp [hor]
  | c + 1 => by
    have ih := hor_lt hv k c
    have h1 : (hor p v k c + 1) * p ≤ p ^ c * p := Nat.mul_le_mul_right _ ih
    rw [Nat.succ_mul] at h1
    have := hv (k - 1 - c)
    rw [hor, Nat.pow_succ]; omega

/-- Two boxes: a room and a polynomial. -/
structure RmSt (w wr : World) (p k q : Int) (ao : Option Addr) (len cap : Nat) (f : Nat → Int) : Prop where
  ext : Ext w wr
  rb : Blk wr w.heap.size #[.int .i64 p, .int .i64 k, .slice ao len cap, .int .i64 q] 55
  pb : Pol wr (w.heap.size + 1) f
theorem RmSt.start (w : World) (p k q : Int) (ao : Option Addr) (len cap : Nat) (f : Nat → Int) : RmSt w ((w.alloc (.cells #[.int .i64 p, .int .i64 k, .slice ao len cap, .int .i64 q] 55)).alloc (.cells #[.int .i64 (f 0), .int .i64 (f 1), .int .i64 (f 2), .int .i64 (f 3), .int .i64 (f 4), .int .i64 (f 5), .int .i64 (f 6)] 63)) p k q ao len cap f :=
  ⟨((Ext.refl w).alloc _).alloc _, (Blk.new _ _ _).alloc _, Pol.new' _ f (by rw [World.size_alloc])⟩
theorem RmSt.drewN {w wr : World} {p k q : Int} {ao : Option Addr} {len cap : Nat} {f : Nat → Int} (h : RmSt w wr p k q ao len cap f) (n : Nat) : RmSt w (wr.drewN n) p k q ao len cap f := ⟨h.ext.drewN n, h.rb.drewN n, h.pb.drewN n⟩

set_option maxHeartbeats 2000000 in
theorem number_any (p k : Nat) (q : Int) (ao : Option Addr) (len cap : Nat) (f : Nat → Int) (v : Nat → Nat) (w : World) (h2 : 2 ≤ p) (h61 : p ≤ 61) (hk1 : 1 ≤ k) (hk6 : k ≤ 6) (h64 : p ^ k ≤ 64) (hv : ∀ i, v i < p) (hf : ∀ i, i < 7 → f i = (v i : Nat)) :
    Calls Tryd.prog 35 #[.agg #[.int .i64 p, .int .i64 k, .slice ao len cap, .int .i64 q], .agg #[.int .i64 (f 0), .int .i64 (f 1), .int .i64 (f 2), .int .i64 (f 3), .int .i64 (f 4), .int .i64 (f 5), .int .i64 (f 6)]] w fun e w' => e = .returned (.int .i64 (num p v k : Nat)) ∧ Ext w w' := by
  have H0 := Lib.hid (RmSt.start w p k q ao len cap f)
  have HF := Lib.hid hf
  have HV := Lib.hid hv
  clear hf hv
  go_enter Tryd.func35, Tryd.ntmps35
  go_wp2
  obtain ⟨w0, hw0⟩ : ∃ w0, w0 = (w.alloc (.cells #[.int .i64 p, .int .i64 k, .slice ao len cap, .int .i64 q] 55)).alloc (.cells #[.int .i64 (f 0), .int .i64 (f 1), .int .i64 (f 2), .int .i64 (f 3), .int .i64 (f 4), .int .i64 (f 5), .int .i64 (f 6)] 63) := ⟨_, rfl⟩
  rw [← hw0] at H0 ⊢
  clear hw0
  go_loopw [5, 6] (fun n i wr => ∃ c N : Nat, c ≤ k ∧ i = .int .i64 ((k : Int) - 1 - c) ∧ n = .int .i64 N ∧ N ≤ 64 ∧ Hid (N = hor p v k c) ∧ RmSt w wr p k q ao len cap f) (fun _ i _ => (intOf i + 1).toNat)
  case atStart => exact ⟨0, 0, by omega, by simp, rfl, by omega, rfl, H0.out⟩
  case round =>
    obtain ⟨c, N, hc, rfl, rfl, hN, HN, hst⟩ := hrel
    have HS := Lib.hid hst
    clear hst H0
    by_cases hck : c < k
    · obtain ⟨j, hj⟩ : ∃ j, k - 1 - c = j := ⟨_, rfl⟩
      have hj' : (k : Int) - 1 - c = j := by omega
      have hja : (0 : Int) ≤ (j : Int) := by omega
      have hjb : (j : Int) < 7 := by omega
      have k1 := HS.out.pb.at j (by omega)
      rw [HF.out j (by omega)] at k1
      obtain ⟨k2, k3, k4, k5⟩ := HS.out.rb.four
      have hx := HV.out j
      obtain ⟨x, hxx⟩ : ∃ x, v j = x := ⟨_, rfl⟩
      rw [hxx] at k1 hx
      obtain ⟨R, hR⟩ : ∃ R, N * p = R := ⟨_, rfl⟩
      have hR' : (N : Int) * (p : Int) = R := by rw [← hR, Int.natCast_mul]
      have HNN : Hid (R + x = hor p v k (c + 1)) := by show _ = _; rw [hor, hj, hxx, ← HN.out, hR]
      have hb : R + x < 65 := by
        have h1 := hor_lt HV.out k (c + 1)
        have h2 : p ^ (c + 1) ≤ p ^ k := Nat.pow_le_pow_right (by omega) (by omega)
        rw [← HNN.out] at h1; omega
      have bT : decide ((0 : Int) ≤ (j : Int)) = true := decide_eq_true (by omega)
      have HJ : Hid ((j : Int) - 1 = (k : Int) - 1 - (c + 1 : Nat)) := by show _ = _; omega
      rw [hj']
      clear hj hj' hxx hR
      go_wp2_with fail
      go_quiet (fail)
      go_wp2
      exact ⟨⟨c + 1, R + x, by omega, by rw [HJ.out], by go_num, by omega, HNN, HS.out.drewN _⟩, by simp [intOf] <;> omega⟩
    · obtain rfl : k = c := by omega
      have hm : (k : Int) - 1 - k = -1 := by omega
      rw [hm]
      have HNV : Hid (N = num p v k) := by show _ = _; rw [HN.out, hor_all]
      go_wp2
      go_ret
      exact ⟨by rw [← HNV.out]; rfl, HS.out.ext⟩

end Go.Proofs.YtnfonobdfkpkeaaDoor
