/- Where rows begin, as the program finds it. No conditions. -/
import Derived.Test.YtnhdngnolepkcaaDoorJibedjhbfia
import Derived.Test.YtnhdngnolepkcaaDoorJpoobehflpg
import Derived.Test.YtnhdngnolepkcaaDoorJpipkoabajk
import Derived.Test.YtnhdngnolepkcaaDoorJnonaehfcpg
import Derived.Test.YtnhdngnolepkcaaDoorJmanplccnef
namespace Go.Proofs.YtnhdngnolepkcaaDoor
open Go.RowKit

def nz (x : Int) : Bool := x != 0
def leadOf (n : Nat) (f : Nat → Nat) : Int := idxFrom nz (nrow f n) 0
theorem leadOf_is {n i : Nat} {f : Nat → Nat} (hi : i < n) (h : f i ≠ 0) (hz : ∀ j, j < i → f j = 0) : leadOf n f = i := by
  unfold leadOf
  rw [idxFrom_hit nz (nrow f n) 0 i (by rw [nrow_length]; exact hi) (by rw [nth_nrow f hi]; unfold nz; rw [bne_iff_ne]; omega) (fun j hj => by rw [nth_nrow f (by omega), hz j hj]; rfl)]
  omega

set_option maxHeartbeats 400000 in
theorem leads_pred (xs : List Int) (w : World) : PredOn 70 #[] xs nz w := by
  intro x _ w' _
  unfold nz
  go_enter Tryd.func70, Tryd.ntmps70
  go_wp2
  go_ret
  exact ⟨rfl, Drawn.refl _⟩

set_option maxHeartbeats 2000000 in
theorem leads_any (n : Nat) (ao : Option Addr) (m cap : Nat) (B : List (Nat → Nat)) (w : World) (hm : B.length = m) (hbig : m ≤ 100) (hn : n ≤ 64) (hr : ReadsL w ao (rowsN n B)) :
    Calls Tryd.prog 59 #[.slice ao m cap] w fun e w' => ∃ v, e = .returned v ∧ OwnInts w w' v (tab (fun i => leadOf n (fAt B i)) m) := by
  have HR := Lib.hid hr
  have HM := Lib.hid hm
  clear hr hm
  go_enter Tryd.func59, Tryd.ntmps59
  go_wp2
  go_loopw [3, 8] (fun x y wr => ∃ j : Nat, j ≤ m ∧ y = .int .i64 j ∧ OwnInts w wr x (tab (fun i => leadOf n (fAt B i)) j)) (fun _ y _ => m - (intOf y).toNat)
  case atStart => exact ⟨0, by omega, rfl, OwnInts.nil (Ext.refl _)⟩
  case round =>
    obtain ⟨j, hj, rfl, hown⟩ := hrel
    obtain ⟨ao3, len2, cap3, rfl, hrow, hx⟩ := hown
    have HRW := Lib.hid hrow
    have HX := Lib.hid hx
    have hl2 : len2 = j := by have := hrow.length; rw [ints_length, tab_length] at this; omega
    have hBw := hx.size
    clear hrow hx
    subst hl2
    by_cases hjm : len2 < m
    · obtain ⟨bb, off, rfl, _, hrw⟩ := (HR.out.ext HX.out).row (by rw [rowsN_length, HM.out]; omega)
      obtain ⟨ra, rc, k1, hrd, _⟩ := hrw len2 (by rw [rowsN_length, HM.out]; exact hjm)
      rw [row_rowsN n B (by rw [HM.out]; exact hjm)] at k1 hrd
      rw [nrow_length] at k1
      have HIX := Lib.hid (indexFunc_any 70 #[] ra n rc (nrow (fAt B len2) n) nz wr (nrow_length _ _) (by unfold maxLen; omega) hrd (leads_pred _ _) (fun _ _ => rfl))
      have HV : Hid (tab (fun i => leadOf n (fAt B i)) (len2 + 1) = tab (fun i => leadOf n (fAt B i)) len2 ++ [idxFrom nz (nrow (fAt B len2) n) 0]) := rfl
      obtain ⟨v, hv⟩ : ∃ v, idxFrom nz (nrow (fAt B len2) n) 0 = v := ⟨_, rfl⟩
      rw [hv] at HIX HV
      clear hrw hrd hv
      go_wp2_with fail
      refine Calls.mono HIX.out ?_
      rintro e w5 ⟨rfl, hd⟩
      have HX5 := Lib.hid (HX.out.drawn hd)
      have HR5 : Hid (RowOf 3 w5 w.heap.size ao3 len2 cap3 (ints (tab (fun i => leadOf n (fAt B i)) len2))) := (Drawn.ext hd).row HRW.out
      have hB5 := HX5.out.size
      clear hd k1
      go_wp2_with (at_builtin; refine wpList_appInt eInt rfl (.tmp 12) (.tmp 15) rfl w.heap.size (by rfl) HR5.out (by rfl) (by omega) hB5 ?_; intro ao4 cap4 w4 hr4 hg4 hb4)
      have HR4 : Hid (RowOf 3 w4 w.heap.size ao4 (len2 + 1) cap4 (ints (tab (fun i => leadOf n (fAt B i)) (len2 + 1)))) := by
        show RowOf _ _ _ _ _ _ _
        rw [HV.out]; simpa [ints_append, ints_one] using hr4
      have HX4 : Hid (Ext w w4) := hb4 _ _ HX5.out (Nat.le_refl _)
      clear hr4 hg4 hb4
      go_roundw
      case rel => exact ⟨len2 + 1, by omega, by go_num, ao4, len2 + 1, cap4, rfl, HR4.out, HX4.out⟩
      case measure => simp [intOf]; omega
    · obtain rfl : len2 = m := by omega
      go_wp2
      go_ret
      exact ⟨_, rfl, ao3, len2, cap3, rfl, HRW.out, HX.out⟩

end Go.Proofs.YtnhdngnolepkcaaDoor

/- What parterreref1.IsPrime answers. No conditions. -/
namespace Go.Proofs.YtnhdngnolepkcaaDoor
open Go.RowKit

/-- No divisor from 2 on whose square is not greater. -/
def primeB (n : Nat) : Bool := decide (2 ≤ n) && decide (n ≤ 100000) && (List.range 317).all fun d => decide (d < 2) || decide (n < d * d) || n % d != 0
theorem primeB_false {n d : Nat} (h2 : 2 ≤ d) (hd : d * d ≤ n) (hm : n % d = 0) : primeB n = false := by
  unfold primeB
  by_cases hb : n ≤ 100000
  · have hlt : d < 317 := by
      rcases Nat.lt_or_ge d 317 with h | h
      · exact h
      · have := Nat.mul_le_mul h h; omega
    rw [Bool.and_eq_false_iff]
    right
    rw [List.all_eq_false]
    exact ⟨d, List.mem_range.2 hlt, by simp [hm]; omega⟩
  · simp [hb]
theorem primeB_true {n k : Nat} (h2 : 2 ≤ n) (hb : n ≤ 100000) (hk : n < k * k) (h : ∀ d, 2 ≤ d → d < k → n % d ≠ 0) : primeB n = true := by
  unfold primeB
  simp only [Bool.and_eq_true, decide_eq_true_eq]
  refine ⟨⟨h2, hb⟩, List.all_eq_true.2 fun d hd => ?_⟩
  by_cases h1 : d < 2
  · simp [h1]
  · by_cases h3 : n < d * d
    · simp [h3]
    · have : d < k := by
        rcases Nat.lt_or_ge d k with h | h
        · exact h
        · have := Nat.mul_le_mul h h; omega
      simp [h d (by omega) this]

set_option maxHeartbeats 400000 in
theorem isPrime_big (n : Int) (w : World) (hn : n < 2 ∨ 100000 < n) :
    Calls Tryd.prog 53 #[.int .i64 n] w fun e w' => e = .returned (.bool false) ∧ w = w' := by
  rcases hn with hn | hn
  · have b1 : decide (n < 2) = true := decide_eq_true hn
    go_enter Tryd.func53, Tryd.ntmps53
    go_wp2
    go_ret
    exact ⟨rfl, rfl⟩
  · have b1 : decide (n < 2) = false := decide_eq_false (by omega)
    have b2 : decide (100000 < n) = true := decide_eq_true hn
    go_enter Tryd.func53, Tryd.ntmps53
    go_wp2
    go_ret
    exact ⟨rfl, rfl⟩

set_option maxHeartbeats 400000 in
theorem isPrime_any (n : Nat) (w : World) (h2 : 2 ≤ n) (hb : n ≤ 100000) :
    Calls Tryd.prog 53 #[.int .i64 n] w fun e w' => e = .returned (.bool (primeB n)) ∧ w = w' := by
  have b1 : decide ((n : Int) < 2) = false := decide_eq_false (by omega)
  have b2 : decide (100000 < (n : Int)) = false := decide_eq_false (by omega)
  go_enter Tryd.func53, Tryd.ntmps53
  go_wp2
  go_loop [3] (fun a => ∃ d : Nat, 2 ≤ d ∧ d ≤ 317 ∧ a = .int .i64 d ∧ ∀ d', 2 ≤ d' → d' < d → n % d' ≠ 0) (fun a => 317 - (intOf a).toNat)
  case atStart => exact ⟨2, by omega, by omega, rfl, fun d h1 h2 => by omega⟩
  case round =>
    obtain ⟨d, hd2, hd, rfl, hall⟩ := hrel
    have HA := Lib.hid hall
    clear hall
    have hsq : d * d ≤ 317 * 317 := Nat.mul_le_mul hd hd
    have hbig : d = 317 → 100489 ≤ d * d := fun e => by rw [e]; decide
    obtain ⟨s, hs⟩ : ∃ s : Nat, s = d * d := ⟨_, rfl⟩
    have hs' : (d : Int) * d = s := by rw [hs]; simp
    rw [← hs] at hsq hbig
    have HS := Lib.hid hs
    clear hs
    by_cases hle : s ≤ n
    · have hlt : d < 317 := by omega
      have hm' : (n : Int) % d = (n % d : Nat) := by simp
      by_cases hm : n % d = 0
      · have HP := Lib.hid (primeB_false hd2 (by rw [← HS.out]; exact hle) hm)
        have b3 : ((n : Int) % d == 0) = true := by rw [hm', hm]; rfl
        clear hm hm' hbig
        go_wp2
        go_ret
        exact ⟨by rw [HP.out]; rfl, rfl⟩
      · have b3 : ((n : Int) % d == 0) = false := by rw [hm', beq_eq_false_iff_ne]; omega
        have HM := Lib.hid hm
        clear hm hm' hbig
        go_wp2
        go_round
        case rel => exact ⟨d + 1, by omega, by omega, by go_num, fun d' h1 h2 => by
          rcases Nat.lt_succ_iff_lt_or_eq.1 h2 with h | rfl
          · exact HA.out d' h1 h
          · exact HM.out⟩
        case measure => simp [intOf]; omega
    · have HP := Lib.hid (primeB_true h2 hb (by rw [← HS.out]; omega) HA.out)
      clear hbig
      go_wp2
      go_ret
      exact ⟨by rw [HP.out]; rfl, rfl⟩

end Go.Proofs.YtnhdngnolepkcaaDoor

/- What parterreref1.OrderOf, Size and In answer. No conditions. -/
namespace Go.Proofs.YtnhdngnolepkcaaDoor
open Go.RowKit

theorem prime_same : ∀ n : Nat, n < 65 → primeB n = primeF n := by decide +kernel

set_option maxHeartbeats 1000000 in
theorem refPrime_any (p : Int) (w : World) (hp : p ≤ 64) : Calls Tryd.prog 53 #[.int .i64 p] w fun e w' => e = .returned (.bool (primeF p)) ∧ w = w' := by
  by_cases h2 : p < 2
  · refine (isPrime_big p w (.inl h2)).mono fun e w' h => ⟨?_, h.2⟩
    rw [h.1]
    cases hc : primeF p with
    | false => rfl
    | true => have := prime_bd hc; omega
  · obtain ⟨n, rfl⟩ : ∃ n : Nat, p = n := ⟨p.toNat, by omega⟩
    rw [← prime_same n (by omega)]
    exact isPrime_any n w (by omega) (by omega)

set_option maxHeartbeats 1000000 in
theorem orderOf_any (p k : Int) (w : World) :
    Calls Tryd.prog 31 #[.int .i64 p, .int .i64 k] w fun e w' => e = .returned (.int .i64 (ordF p k)) ∧ w = w' := by
  by_cases hp : 64 < p
  · have HV : Hid (ordF p k = 0) := by
      show _ = _; unfold ordF; rw [if_neg]
      rintro ⟨h, _⟩; have := prime_bd h; omega
    have b1 : decide (64 < p) = true := decide_eq_true hp
    go_enter Tryd.func31, Tryd.ntmps31
    go_wp2
    go_ret
    exact ⟨by rw [HV.out]; rfl, rfl⟩
  · have b1 : decide (64 < p) = false := decide_eq_false hp
    by_cases hk : k < 1
    · have HV : Hid (ordF p k = 0) := by show _ = _; unfold ordF; rw [if_neg (by omega)]
      have b2 : decide (k < 1) = true := decide_eq_true hk
      go_enter Tryd.func31, Tryd.ntmps31
      go_wp2
      go_ret
      exact ⟨by rw [HV.out]; rfl, rfl⟩
    · have b2 : decide (k < 1) = false := decide_eq_false hk
      have HQ := Lib.hid (refPrime_any p w (by omega))
      cases hc : primeF p with
      | false =>
        have HV : Hid (ordF p k = 0) := by show _ = _; unfold ordF; rw [if_neg (by rw [hc]; simp)]
        rw [hc] at HQ
        clear hc
        go_enter Tryd.func31, Tryd.ntmps31
        go_wp2_with (go_at_call 53; refine HQ.out.mono ?_; rintro e w1 ⟨rfl, rfl⟩)
        go_ret
        exact ⟨by rw [HV.out]; rfl, rfl⟩
      | true =>
        obtain ⟨h2, h61⟩ := prime_bd hc
        have HPP := Lib.hid hc
        rw [hc] at HQ
        clear hc
        obtain ⟨P, rfl⟩ : ∃ P : Nat, p = P := ⟨p.toNat, by omega⟩
        obtain ⟨K, rfl⟩ : ∃ K : Nat, k = K := ⟨k.toNat, by omega⟩
        have HV : Hid (ordF P K = if P ^ K ≤ 64 then P ^ K else 0) := by
          show _ = _
          unfold ordF
          rw [Int.toNat_natCast, Int.toNat_natCast]
          by_cases h : P ^ K ≤ 64
          · have h6 : K ≤ 6 := by
              rcases Nat.lt_or_ge 6 K with h7 | h7
              · have h1 : 2 ^ 7 ≤ P ^ K := Nat.le_trans (Nat.pow_le_pow_left (show 2 ≤ P by omega) 7) (Nat.pow_le_pow_right (by omega) h7)
                omega
              · exact h7
            rw [if_pos ⟨HPP.out, by omega, by omega, h⟩, if_pos h]
          · rw [if_neg (fun hc => h hc.2.2.2), if_neg h]
        go_enter Tryd.func31, Tryd.ntmps31
        go_wp2_with (go_at_call 53; refine HQ.out.mono ?_; rintro e w1 ⟨rfl, rfl⟩)
        go_loop [6, 7] (fun q a => ∃ i Q : Nat, i ≤ K ∧ i ≤ 6 ∧ a = .int .i64 i ∧ q = .int .i64 Q ∧ Q ≤ 64 ∧ Hid (Q = P ^ i)) (fun _ a => 7 - (intOf a).toNat)
        case atStart => exact ⟨0, 1, by omega, by omega, rfl, rfl, by omega, by show _ = _; simp⟩
        case round =>
          obtain ⟨i, Q, hi, hi6, rfl, rfl, hQ, HQP⟩ := hrel
          by_cases hlt : i < K
          · have bT : decide (i < K) = true := decide_eq_true hlt
            obtain ⟨R, hR⟩ : ∃ R, Q * P = R := ⟨_, rfl⟩
            have hR' : (Q : Int) * (P : Int) = R := by rw [← hR, Int.natCast_mul]
            have hRb : R ≤ 64 * 61 := by rw [← hR]; exact Nat.mul_le_mul hQ (by omega)
            have HRP : Hid (R = P ^ (i + 1)) := by show _ = _; rw [← hR, HQP.out, Nat.pow_succ]
            clear hR
            by_cases h64 : 64 < R
            · have HN : Hid (ordF P K = 0) := by
                show _ = _
                have : P ^ (i + 1) ≤ P ^ K := Nat.pow_le_pow_right (by omega) (by omega)
                rw [HV.out, if_neg (by rw [← HRP.out] at this; omega)]
              go_wp2
              go_ret
              exact ⟨by rw [HN.out]; rfl, rfl⟩
            · have hi5 : i + 1 ≤ 6 := by
                rcases Nat.lt_or_ge 6 (i + 1) with h7 | h7
                · have h1 : 2 ^ 7 ≤ P ^ (i + 1) := Nat.le_trans (Nat.pow_le_pow_left (show 2 ≤ P by omega) 7) (Nat.pow_le_pow_right (by omega) h7)
                  rw [← HRP.out] at h1; omega
                · exact h7
              go_wp2
              go_round
              case rel => exact ⟨i + 1, R, by omega, hi5, by go_num, rfl, by omega, HRP⟩
              case measure => simp [intOf]; omega
          · have bT : decide (i < K) = false := decide_eq_false hlt
            obtain rfl : K = i := by omega
            have HN : Hid (ordF P K = Q) := by show _ = _; rw [HV.out, ← HQP.out, if_pos hQ]
            go_wp2
            go_ret
            exact ⟨by rw [HN.out]; rfl, rfl⟩

set_option maxHeartbeats 400000 in
theorem size_any (p k : Int) (ao : Option Addr) (len cap : Nat) (w : World) :
    Calls Tryd.prog 14 #[.agg #[.int .i64 p, .int .i64 k, .slice ao len cap]] w fun e w' => e = .returned (.int .i64 (ordF p k)) ∧ Ext w w' := by
  have HO : Hid (∀ w, _) := fun w => orderOf_any p k w
  go_enter Tryd.func14, Tryd.ntmps14
  go_wp2_with (go_at_call 31; refine Calls.mono (HO.out _) ?_; rintro e w1 ⟨rfl, rfl⟩)
  go_ret
  exact ⟨rfl, (Ext.refl w).alloc _⟩

set_option maxHeartbeats 400000 in
theorem digitsOf_any (p a k : Nat) (w : World) (hp : 2 ≤ p) (h61 : p ≤ 61) (ha : a < 128) (hk : k ≤ 64) :
    Calls Tryd.prog 37 #[.int .i64 a, .int .i64 p, .int .i64 k] w fun e w' => ∃ v, e = .returned v ∧ OwnInts w w' v (tab (dgI p a) k) := by
  go_enter Tryd.func37, Tryd.ntmps37
  go_wp2
  have H0 : Hid (OwnInts w w (.slice none 0 0) (tab (dgI p a) 0)) := OwnInts.nil (Ext.refl w)
  go_loopw [0, 7, 8] (fun n y x wr => ∃ i A : Nat, i ≤ k ∧ x = .int .i64 i ∧ n = .int .i64 A ∧ A < 128 ∧ Hid (A = a / p ^ i) ∧ OwnInts w wr y (tab (dgI p a) i)) (fun _ _ x _ => k - (intOf x).toNat)
  case atStart => exact ⟨0, a, by omega, rfl, rfl, ha, by show _ = _; simp, H0.out⟩
  case round =>
    obtain ⟨i, A, hi, rfl, rfl, hA, HA, hT⟩ := hrel
    clear H0
    obtain ⟨ao, n, cap, rfl, hrow, hx⟩ := hT
    have hn : n ≤ i := by have := hrow.length; rw [ints_length, tab_length] at this; omega
    have HROW := Lib.hid hrow
    have HX := Lib.hid hx
    have hsz := hx.size
    clear hrow hx
    by_cases hik : i < k
    · obtain ⟨d, hd⟩ : ∃ d, A % p = d := ⟨_, rfl⟩
      obtain ⟨B, hB⟩ : ∃ B, A / p = B := ⟨_, rfl⟩
      have hd' : (A : Int) % p = d := by rw [← hd]; simp
      have hB' : (A : Int) / p = B := by rw [← hB]; simp
      have hBA : B ≤ A := by rw [← hB]; exact Nat.div_le_self _ _
      have HB : Hid (B = a / p ^ (i + 1)) := by show _ = _; rw [← hB, HA.out, Nat.div_div_eq_div_mul, Nat.pow_succ]
      have HD : Hid (tab (dgI p a) (i + 1) = tab (dgI p a) i ++ [(d : Int)]) := by show _ = _; rw [tab, ← hd, HA.out]; rfl
      clear hd hB
      go_wp2_with (at_builtin; refine wpList_appInt eInt rfl (.tmp 14) (.tmp 18) rfl w.heap.size (by rfl) HROW.out (by rfl) (by omega) (by omega) ?_; intro ao4 cap4 w4 hr4 hg4 hb4; have HR4 := Lib.hid hr4; have HB4 := Lib.hid (hb4 _ _ HX.out (Nat.le_refl _)); clear hr4 hg4 hb4)
      exact ⟨⟨i + 1, B, by omega, by go_num, rfl, by omega, HB, by rw [HD.out]; exact ⟨_, _, _, rfl, by rw [ints_append]; exact HR4.out, HB4.out⟩⟩, by simp [intOf]; omega⟩
    · obtain rfl : k = i := by omega
      go_wp2
      go_ret
      exact ⟨_, rfl, _, _, _, rfl, HROW.out, HX.out⟩

set_option maxHeartbeats 1000000 in
theorem numberOf_any (p k : Nat) (ao : Option Addr) (cap : Nat) (xs : List Int) (v : Nat → Nat) (w : World) (h2 : 2 ≤ p) (h61 : p ≤ 61) (hk1 : 1 ≤ k) (hk6 : k ≤ 6) (h64 : p ^ k ≤ 64) (hv : ∀ i, v i < p) (hl : xs.length = k) (hf : ∀ i, i < k → nth xs i = (v i : Nat)) (hr : Reads w ao (ints xs)) :
    Calls Tryd.prog 41 #[.slice ao k cap, .int .i64 p] w fun e w' => e = .returned (.int .i64 (num p v k : Nat)) ∧ w = w' := by
  obtain ⟨b, off, rfl, hb, hc⟩ := Reads.int hr (by omega)
  have HC := Lib.hid hc
  have HF := Lib.hid hf
  have HV := Lib.hid hv
  have HL := Lib.hid hl
  clear hr hc hf hv hl
  go_enter Tryd.func41, Tryd.ntmps41
  go_wp2
  go_loop [5, 6] (fun n i => ∃ c N : Nat, c ≤ k ∧ i = .int .i64 ((k : Int) - 1 - c) ∧ n = .int .i64 N ∧ N ≤ 64 ∧ Hid (N = hor p v k c)) (fun _ i => (intOf i + 1).toNat)
  case atStart => exact ⟨0, 0, by omega, by simp, rfl, by omega, rfl⟩
  case round =>
    obtain ⟨c, N, hcc, rfl, rfl, hN, HN⟩ := hrel
    by_cases hck : c < k
    · obtain ⟨j, hj⟩ : ∃ j, k - 1 - c = j := ⟨_, rfl⟩
      have hj' : (k : Int) - 1 - c = j := by omega
      have hja : (0 : Int) ≤ (j : Int) := by omega
      have hjk : j < k := by omega
      have k1 := HC.out j (by rw [HL.out]; exact hjk)
      rw [HF.out j hjk] at k1
      have hx := HV.out j
      obtain ⟨x, hxx⟩ : ∃ x, v j = x := ⟨_, rfl⟩
      rw [hxx] at k1 hx
      obtain ⟨R, hR⟩ : ∃ R, N * p = R := ⟨_, rfl⟩
      have hR' : (N : Int) * (p : Int) = R := by rw [← hR, Int.natCast_mul]
      have HNN : Hid (R + x = hor p v k (c + 1)) := by show _ = _; rw [hor, hj, hxx, ← HN.out, hR]
      have hb : R + x < 65 := by
        have h1 := hor_lt HV.out k (c + 1)
        have h2 : p ^ (c + 1) ≤ p ^ k := Nat.pow_le_pow_right (by omega) (by omega)
        rw [← HNN.out] at h1; omega
      have bT : decide ((0 : Int) ≤ (j : Int)) = true := decide_eq_true (by omega)
      have HJ : Hid ((j : Int) - 1 = (k : Int) - 1 - (c + 1 : Nat)) := by show _ = _; omega
      rw [hj']
      clear hj hj' hxx hR
      go_wp2
      exact ⟨⟨c + 1, R + x, by omega, by rw [HJ.out], by go_num, by omega, HNN⟩, by simp [intOf] <;> omega⟩
    · obtain rfl : k = c := by omega
      have hm : (k : Int) - 1 - k = -1 := by omega
      rw [hm]
      have HNV : Hid (N = num p v k) := by show _ = _; rw [HN.out, hor_all]
      go_wp2
      go_ret
      exact ⟨by rw [← HNV.out]; rfl, rfl⟩

end Go.Proofs.YtnhdngnolepkcaaDoor
