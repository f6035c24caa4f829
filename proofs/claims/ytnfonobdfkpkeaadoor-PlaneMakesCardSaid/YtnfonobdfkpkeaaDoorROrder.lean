/- What parterreref1.OrderOf, Size and In answer. No conditions. -/
import Derived.Test.YtnfonobdfkpkeaaDoorFOpen
import Derived.Test.YtnfonobdfkpkeaaDoorIsPrime
import Derived.Test.YtnfonobdfkpkeaaDoorFNumber
import Derived.Test.YtnfonobdfkpkeaaDoorTbl
namespace Go.Proofs.YtnfonobdfkpkeaaDoor
open Go.RowKit

theorem prime_same : ∀ n : Nat, n < 65 → primeB n = primeF n := by decide +kernel

set_option maxHeartbeats 1000000 in
theorem refPrime_any (p : Int) (w : World) (hp : p ≤ 64) : Calls Tryd.prog 30 #[.int .i64 p] w fun e w' => e = .returned (.bool (primeF p)) ∧ w = w' := by
  by_cases h2 : p < 2
  · refine (isPrime_big p w (.inl h2)).mono fun e w' h => ⟨?_, h.2⟩
    rw [h.1]
    cases hc : primeF p with
    | false => rfl
    | true => have := prime_bd hc; omega
  · obtain ⟨n, rfl⟩ : ∃ n : Nat, p = n := ⟨p.toNat, by omega⟩
    rw [← prime_same n (by omega)]
    exact isPrime_any n w (by omega) (by omega)

set_option maxHeartbeats 1000000 in
theorem orderOf_any (p k : Int) (w : World) :
    Calls Tryd.prog 21 #[.int .i64 p, .int .i64 k] w fun e w' => e = .returned (.int .i64 (ordF p k)) ∧ w = w' := by
  by_cases hp : 64 < p
  · have HV : Hid (ordF p k = 0) := by
      show _ = _; unfold ordF; rw [if_neg]
      rintro ⟨h, _⟩; have := prime_bd h; omega
    have b1 : decide (64 < p) = true := decide_eq_true hp
    go_enter Tryd.func21, Tryd.ntmps21
    go_wp2
    go_ret
    exact ⟨by rw [HV.out]; rfl, rfl⟩
  · have b1 : decide (64 < p) = false := decide_eq_false hp
    by_cases hk : k < 1
    · have HV : Hid (ordF p k = 0) := by show _ = _; unfold ordF; rw [if_neg (by omega)]
      have b2 : decide (k < 1) = true := decide_eq_true hk
      go_enter Tryd.func21, Tryd.ntmps21
      go_wp2
      go_ret
      exact ⟨by rw [HV.out]; rfl, rfl⟩
    · have b2 : decide (k < 1) = false := decide_eq_false hk
      have HQ := Lib.hid (refPrime_any p w (by omega))
      cases hc : primeF p with
      | false =>
        have HV : Hid (ordF p k = 0) := by show _ = _; unfold ordF; rw [if_neg (by rw [hc]; simp)]
        rw [hc] at HQ
        clear hc
        go_enter Tryd.func21, Tryd.ntmps21
        go_wp2_with (go_at_call 30; refine HQ.out.mono ?_; rintro e w1 ⟨rfl, rfl⟩)
        go_ret
        exact ⟨by rw [HV.out]; rfl, rfl⟩
      | true =>
        obtain ⟨h2, h61⟩ := prime_bd hc
        have HPP := Lib.hid hc
        rw [hc] at HQ
        clear hc
        obtain ⟨P, rfl⟩ : ∃ P : Nat, p = P := ⟨p.toNat, by omega⟩
        obtain ⟨K, rfl⟩ : ∃ K : Nat, k = K := ⟨k.toNat, by omega⟩
        have HV : Hid (ordF P K = if P ^ K ≤ 64 then P ^ K else 0) := by
          show _ = _
          unfold ordF
          rw [Int.toNat_natCast, Int.toNat_natCast]
          by_cases h : P ^ K ≤ 64
          · have h6 : K ≤ 6 := by
              rcases Nat.lt_or_ge 6 K with h7 | h7
              · have h1 : 2 ^ 7 ≤ P ^ K := Nat.le_trans (Nat.pow_le_pow_left (show 2 ≤ P by omega) 7) (Nat.pow_le_pow_right (by omega) h7)
                omega
              · exact h7
            rw [if_pos ⟨HPP.out, by omega, by omega, h⟩, if_pos h]
          · rw [if_neg (fun hc => h hc.2.2.2), if_neg h]
        go_enter Tryd.func21, Tryd.ntmps21
        go_wp2_with (go_at_call 30; refine HQ.out.mono ?_; rintro e w1 ⟨rfl, rfl⟩)
        go_loop [6, 7] (fun q a => ∃ i Q : Nat, i ≤ K ∧ i ≤ 6 ∧ a = .int .i64 i ∧ q = .int .i64 Q ∧ Q ≤ 64 ∧ Hid (Q = P ^ i)) (fun _ a => 7 - (intOf a).toNat)
        case atStart => exact ⟨0, 1, by omega, by omega, rfl, rfl, by omega, by show _ = _; simp⟩
        case round =>
          obtain ⟨i, Q, hi, hi6, rfl, rfl, hQ, HQP⟩ := hrel
          by_cases hlt : i < K
          · have bT : decide (i < K) = true := decide_eq_true hlt
            obtain ⟨R, hR⟩ : ∃ R, Q * P = R := ⟨_, rfl⟩
            have hR' : (Q : Int) * (P : Int) = R := by rw [← hR, Int.natCast_mul]
            have hRb : R ≤ 64 * 61 := by rw [← hR]; exact Nat.mul_le_mul hQ (by omega)
            have HRP : Hid (R = P ^ (i + 1)) := by show _ = _; rw [← hR, HQP.out, Nat.pow_succ]
            clear hR
            by_cases h64 : 64 < R
            · have HN : Hid (ordF P K = 0) := by
                show _ = _
                have : P ^ (i + 1) ≤ P ^ K := Nat.pow_le_pow_right (by omega) (by omega)
                rw [HV.out, if_neg (by rw [← HRP.out] at this; omega)]
              go_wp2
              go_ret
              exact ⟨by rw [HN.out]; rfl, rfl⟩
            · have hi5 : i + 1 ≤ 6 := by
                rcases Nat.lt_or_ge 6 (i + 1) with h7 | h7
                · have h1 : 2 ^ 7 ≤ P ^ (i + 1) := Nat.le_trans (Nat.pow_le_pow_left (show 2 ≤ P by omega) 7) (Nat.pow_le_pow_right (by omega) h7)
                  rw [← HRP.out] at h1; omega
                · exact h7
              go_wp2
              go_round
              case rel => exact ⟨i + 1, R, by omega, hi5, by go_num, rfl, by omega, HRP⟩
              case measure => simp [intOf]; omega
          · have bT : decide (i < K) = false := decide_eq_false hlt
            obtain rfl : K = i := by omega
            have HN : Hid (ordF P K = Q) := by show _ = _; rw [HV.out, ← HQP.out, if_pos hQ]
            go_wp2
            go_ret
            exact ⟨by rw [HN.out]; rfl, rfl⟩

set_option maxHeartbeats 400000 in
theorem size_any (p k : Int) (ao : Option Addr) (len cap : Nat) (w : World) :
    Calls Tryd.prog 12 #[.agg #[.int .i64 p, .int .i64 k, .slice ao len cap]] w fun e w' => e = .returned (.int .i64 (ordF p k)) ∧ Ext w w' := by
  have HO : Hid (∀ w, _) := fun w => orderOf_any p k w
  go_enter Tryd.func12, Tryd.ntmps12
  go_wp2_with (go_at_call 21; refine Calls.mono (HO.out _) ?_; rintro e w1 ⟨rfl, rfl⟩)
  go_ret
  exact ⟨rfl, (Ext.refl w).alloc _⟩

set_option maxHeartbeats 400000 in
theorem digitsOf_any (p a k : Nat) (w : World) (hp : 2 ≤ p) (h61 : p ≤ 61) (ha : a < 128) (hk : k ≤ 64) :
    Calls Tryd.prog 22 #[.int .i64 a, .int .i64 p, .int .i64 k] w fun e w' => ∃ v, e = .returned v ∧ OwnInts w w' v (tab (dgI p a) k) := by
  go_enter Tryd.func22, Tryd.ntmps22
  go_wp2
  have H0 : Hid (OwnInts w w (.slice none 0 0) (tab (dgI p a) 0)) := OwnInts.nil (Ext.refl w)
  go_loopw [0, 7, 8] (fun n y x wr => ∃ i A : Nat, i ≤ k ∧ x = .int .i64 i ∧ n = .int .i64 A ∧ A < 128 ∧ Hid (A = a / p ^ i) ∧ OwnInts w wr y (tab (dgI p a) i)) (fun _ _ x _ => k - (intOf x).toNat)
  case atStart => exact ⟨0, a, by omega, rfl, rfl, ha, by show _ = _; simp, H0.out⟩
  case round =>
    obtain ⟨i, A, hi, rfl, rfl, hA, HA, hT⟩ := hrel
    clear H0
    obtain ⟨ao, n, cap, rfl, hrow, hx⟩ := hT
    have hn : n ≤ i := by have := hrow.length; rw [ints_length, tab_length] at this; omega
    have HROW := Lib.hid hrow
    have HX := Lib.hid hx
    have hsz := hx.size
    clear hrow hx
    by_cases hik : i < k
    · obtain ⟨d, hd⟩ : ∃ d, A % p = d := ⟨_, rfl⟩
      obtain ⟨B, hB⟩ : ∃ B, A / p = B := ⟨_, rfl⟩
      have hd' : (A : Int) % p = d := by rw [← hd]; simp
      have hB' : (A : Int) / p = B := by rw [← hB]; simp
      have hBA : B ≤ A := by rw [← hB]; exact Nat.div_le_self _ _
      have HB : Hid (B = a / p ^ (i + 1)) := by show _ = _; rw [← hB, HA.out, Nat.div_div_eq_div_mul, Nat.pow_succ]
      have HD : Hid (tab (dgI p a) (i + 1) = tab (dgI p a) i ++ [(d : Int)]) := by show _ = _; rw [tab, ← hd, HA.out]; rfl
      clear hd hB
      go_wp2_with (at_builtin; refine wpList_appInt eInt rfl (.tmp 14) (.tmp 18) rfl w.heap.size (by rfl) HROW.out (by rfl) (by omega) (by omega) ?_; intro ao4 cap4 w4 hr4 hg4 hb4; have HR4 := Lib.hid hr4; have HB4 := Lib.hid (hb4 _ _ HX.out (Nat.le_refl _)); clear hr4 hg4 hb4)
      exact ⟨⟨i + 1, B, by omega, by go_num, rfl, by omega, HB, by rw [HD.out]; exact ⟨_, _, _, rfl, by rw [ints_append]; exact HR4.out, HB4.out⟩⟩, by simp [intOf]; omega⟩
    · obtain rfl : k = i := by omega
      go_wp2
      go_ret
      exact ⟨_, rfl, _, _, _, rfl, HROW.out, HX.out⟩

set_option maxHeartbeats 1000000 in
theorem numberOf_any (p k : Nat) (ao : Option Addr) (cap : Nat) (xs : List Int) (v : Nat → Nat) (w : World) (h2 : 2 ≤ p) (h61 : p ≤ 61) (hk1 : 1 ≤ k) (hk6 : k ≤ 6) (h64 : p ^ k ≤ 64) (hv : ∀ i, v i < p) (hl : xs.length = k) (hf : ∀ i, i < k → nth xs i = (v i : Nat)) (hr : Reads w ao (ints xs)) :
    Calls Tryd.prog 29 #[.slice ao k cap, .int .i64 p] w fun e w' => e = .returned (.int .i64 (num p v k : Nat)) ∧ w = w' := by
  obtain ⟨b, off, rfl, hb, hc⟩ := Reads.int hr (by omega)
  have HC := Lib.hid hc
  have HF := Lib.hid hf
  have HV := Lib.hid hv
  have HL := Lib.hid hl
  clear hr hc hf hv hl
  go_enter Tryd.func29, Tryd.ntmps29
  go_wp2
  go_loop [5, 6] (fun n i => ∃ c N : Nat, c ≤ k ∧ i = .int .i64 ((k : Int) - 1 - c) ∧ n = .int .i64 N ∧ N ≤ 64 ∧ Hid (N = hor p v k c)) (fun _ i => (intOf i + 1).toNat)
  case atStart => exact ⟨0, 0, by omega, by simp, rfl, by omega, rfl⟩
  case round =>
    obtain ⟨c, N, hcc, rfl, rfl, hN, HN⟩ := hrel
    by_cases hck : c < k
    · obtain ⟨j, hj⟩ : ∃ j, k - 1 - c = j := ⟨_, rfl⟩
      have hj' : (k : Int) - 1 - c = j := by omega
      have hja : (0 : Int) ≤ (j : Int) := by omega
      have hjk : j < k := by omega
      have k1 := HC.out j (by rw [HL.out]; exact hjk)
      rw [HF.out j hjk] at k1
      have hx := HV.out j
      obtain ⟨x, hxx⟩ : ∃ x, v j = x := ⟨_, rfl⟩
      rw [hxx] at k1 hx
      obtain ⟨R, hR⟩ : ∃ R, N * p = R := ⟨_, rfl⟩
      have hR' : (N : Int) * (p : Int) = R := by rw [← hR, Int.natCast_mul]
      have HNN : Hid (R + x = hor p v k (c + 1)) := by show _ = _; rw [hor, hj, hxx, ← HN.out, hR]
      have hb : R + x < 65 := by
        have h1 := hor_lt HV.out k (c + 1)
        have h2 : p ^ (c + 1) ≤ p ^ k := Nat.pow_le_pow_right (by omega) (by omega)
        rw [← HNN.out] at h1; omega
      have bT : decide ((0 : Int) ≤ (j : Int)) = true := decide_eq_true (by omega)
      have HJ : Hid ((j : Int) - 1 = (k : Int) - 1 - (c + 1 : Nat)) := by show _ = _; omega
      rw [hj']
      clear hj hj' hxx hR
      go_wp2
      exact ⟨⟨c + 1, R + x, by omega, by rw [HJ.out], by go_num, by omega, HNN⟩, by simp [intOf] <;> omega⟩
    · obtain rfl : k = c := by omega
      have hm : (k : Int) - 1 - k = -1 := by omega
      rw [hm]
      have HNV : Hid (N = num p v k) := by show _ = _; rw [HN.out, hor_all]
      go_wp2
      go_ret
      exact ⟨by rw [← HNV.out]; rfl, rfl⟩

end Go.Proofs.YtnfonobdfkpkeaaDoor
