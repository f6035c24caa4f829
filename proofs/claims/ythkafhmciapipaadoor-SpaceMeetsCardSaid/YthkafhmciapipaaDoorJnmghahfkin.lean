/- What parterreref1.OrderOf, Size and In answer. No conditions. -/
import Derived.Test.YthkafhmciapipaaDoorJnpoleheakb
import Derived.Test.YthkafhmciapipaaDoorJonebbbckpl
import Derived.Test.YthkafhmciapipaaDoorJgcdkbgjmfo
namespace Go.Proofs.YthkafhmciapipaaDoor
open Go.RowKit

theorem prime_same : ∀ n : Nat, n < 65 → primeB n = primeF n := by decide +kernel

set_option maxHeartbeats 1000000 in
theorem refPrime_any (p : Int) (w : World) (hp : p ≤ 64) : Calls Tryd.prog 61 #[.int .i64 p] w fun e w' => e = .returned (.bool (primeF p)) ∧ w = w' := by
  by_cases h2 : p < 2
  · refine (isPrime_big p w (.inl h2)).mono fun e w' h => ⟨?_, h.2⟩
    rw [h.1]
    cases hc : primeF p with
    | false => rfl
    | true => have := prime_bd hc; omega
  · obtain ⟨n, rfl⟩ : ∃ n : Nat, p = n := ⟨p.toNat, by omega⟩
    rw [← prime_same n (by omega)]
    exact isPrime_any n w (by omega) (by omega)

set_option maxHeartbeats 1000000 in
theorem orderOf_any (p k : Int) (w : World) :
    Calls Tryd.prog 43 #[.int .i64 p, .int .i64 k] w fun e w' => e = .returned (.int .i64 (ordF p k)) ∧ w = w' := by
  by_cases hp : 64 < p
  · have HV : Hid (ordF p k = 0) := by
      show _ = _; unfold ordF; rw [if_neg]
      rintro ⟨h, _⟩; have := prime_bd h; omega
    have b1 : decide (64 < p) = true := decide_eq_true hp
    go_enter Tryd.func43, Tryd.ntmps43
    go_wp2
    go_ret
    exact ⟨by rw [HV.out]; rfl, rfl⟩
  · have b1 : decide (64 < p) = false := decide_eq_false hp
    by_cases hk : k < 1
    · have HV : Hid (ordF p k = 0) := by show _ = _; unfold ordF; rw [if_neg (by omega)]
      have b2 : decide (k < 1) = true := decide_eq_true hk
      go_enter Tryd.func43, Tryd.ntmps43
      go_wp2
      go_ret
      exact ⟨by rw [HV.out]; rfl, rfl⟩
    · have b2 : decide (k < 1) = false := decide_eq_false hk
      have HQ := Lib.hid (refPrime_any p w (by omega))
      cases hc : primeF p with
      | false =>
        have HV : Hid (ordF p k = 0) := by show _ = _; unfold ordF; rw [if_neg (by rw [hc]; simp)]
        rw [hc] at HQ
        clear hc
        go_enter Tryd.func43, Tryd.ntmps43
        go_wp2_with (go_at_call 61; refine HQ.out.mono ?_; rintro e w1 ⟨rfl, rfl⟩)
        go_ret
        exact ⟨by rw [HV.out]; rfl, rfl⟩
      | true =>
        obtain ⟨h2, h61⟩ := prime_bd hc
        have HPP := Lib.hid hc
        rw [hc] at HQ
        clear hc
        obtain ⟨P, rfl⟩ : ∃ P : Nat, p = P := ⟨p.toNat, by omega⟩
        obtain ⟨K, rfl⟩ : ∃ K : Nat, k = K := ⟨k.toNat, by omega⟩
        have HV : Hid (ordF P K = if P ^ K ≤ 64 then P ^ K else 0) := by
          show _ = _
          unfold ordF
          rw [Int.toNat_natCast, Int.toNat_natCast]
          by_cases h : P ^ K ≤ 64
          · have h6 : K ≤ 6 := by
              rcases Nat.lt_or_ge 6 K with h7 | h7
              · have h1 : 2 ^ 7 ≤ P ^ K := Nat.le_trans (Nat.pow_le_pow_left (show 2 ≤ P by omega) 7) (Nat.pow_le_pow_right (by omega) h7)
                omega
              · exact h7
            rw [if_pos ⟨HPP.out, by omega, by omega, h⟩, if_pos h]
          · rw [if_neg (fun hc => h hc.2.2.2), if_neg h]
        go_enter Tryd.func43, Tryd.ntmps43
        go_wp2_with (go_at_call 61; refine HQ.out.mono ?_; rintro e w1 ⟨rfl, rfl⟩)
        go_loop [6, 7] (fun q a => ∃ i Q : Nat, i ≤ K ∧ i ≤ 6 ∧ a = .int .i64 i ∧ q = .int .i64 Q ∧ Q ≤ 64 ∧ Hid (Q = P ^ i)) (fun _ a => 7 - (intOf a).toNat)
        case atStart => exact ⟨0, 1, by omega, by omega, rfl, rfl, by omega, by show _ = _; simp⟩
        case round =>
          obtain ⟨i, Q, hi, hi6, rfl, rfl, hQ, HQP⟩ := hrel
          by_cases hlt : i < K
          · have bT : decide (i < K) = true := decide_eq_true hlt
            obtain ⟨R, hR⟩ : ∃ R, Q * P = R := ⟨_, rfl⟩
            have hR' : (Q : Int) * (P : Int) = R := by rw [← hR, Int.natCast_mul]
            have hRb : R ≤ 64 * 61 := by rw [← hR]; exact Nat.mul_le_mul hQ (by omega)
            have HRP : Hid (R = P ^ (i + 1)) := by show _ = _; rw [← hR, HQP.out, Nat.pow_succ]
            clear hR
            by_cases h64 : 64 < R
            · have HN : Hid (ordF P K = 0) := by
                show _ = _
                have : P ^ (i + 1) ≤ P ^ K := Nat.pow_le_pow_right (by omega) (by omega)
                rw [HV.out, if_neg (by rw [← HRP.out] at this; omega)]
              go_wp2
              go_ret
              exact ⟨by rw [HN.out]; rfl, rfl⟩
            · have hi5 : i + 1 ≤ 6 := by
                rcases Nat.lt_or_ge 6 (i + 1) with h7 | h7
                · have h1 : 2 ^ 7 ≤ P ^ (i + 1) := Nat.le_trans (Nat.pow_le_pow_left (show 2 ≤ P by omega) 7) (Nat.pow_le_pow_right (by omega) h7)
                  rw [← HRP.out] at h1; omega
                · exact h7
              go_wp2
              go_round
              case rel => exact ⟨i + 1, R, by omega, hi5, by go_num, rfl, by omega, HRP⟩
              case measure => simp [intOf]; omega
          · have bT : decide (i < K) = false := decide_eq_false hlt
            obtain rfl : K = i := by omega
            have HN : Hid (ordF P K = Q) := by show _ = _; rw [HV.out, ← HQP.out, if_pos hQ]
            go_wp2
            go_ret
            exact ⟨by rw [HN.out]; rfl, rfl⟩

set_option maxHeartbeats 400000 in
theorem size_any (p k : Int) (ao : Option Addr) (len cap : Nat) (w : World) :
    Calls Tryd.prog 26 #[.agg #[.int .i64 p, .int .i64 k, .slice ao len cap]] w fun e w' => e = .returned (.int .i64 (ordF p k)) ∧ Ext w w' := by
  have HO : Hid (∀ w, _) := fun w => orderOf_any p k w
  go_enter Tryd.func26, Tryd.ntmps26
  go_wp2_with (go_at_call 43; refine Calls.mono (HO.out _) ?_; rintro e w1 ⟨rfl, rfl⟩)
  go_ret
  exact ⟨rfl, (Ext.refl w).alloc _⟩

set_option maxHeartbeats 400000 in
theorem digitsOf_any (p a k : Nat) (w : World) (hp : 2 ≤ p) (h61 : p ≤ 61) (ha : a < 128) (hk : k ≤ 64) :
    Calls Tryd.prog 44 #[.int .i64 a, .int .i64 p, .int .i64 k] w fun e w' => ∃ v, e = .returned v ∧ OwnInts w w' v (tab (dgI p a) k) := by
  go_enter Tryd.func44, Tryd.ntmps44
  go_wp2
  have H0 : Hid (OwnInts w w (.slice none 0 0) (tab (dgI p a) 0)) := OwnInts.nil (Ext.refl w)
  go_loopw [0, 7, 8] (fun n y x wr => ∃ i A : Nat, i ≤ k ∧ x = .int .i64 i ∧ n = .int .i64 A ∧ A < 128 ∧ Hid (A = a / p ^ i) ∧ OwnInts w wr y (tab (dgI p a) i)) (fun _ _ x _ => k - (intOf x).toNat)
  case atStart => exact ⟨0, a, by omega, rfl, rfl, ha, by show _ = _; simp, H0.out⟩
  case round =>
    obtain ⟨i, A, hi, rfl, rfl, hA, HA, hT⟩ := hrel
    clear H0
    obtain ⟨ao, n, cap, rfl, hrow, hx⟩ := hT
    have hn : n ≤ i := by have := hrow.length; rw [ints_length, tab_length] at this; omega
    have HROW := Lib.hid hrow
    have HX := Lib.hid hx
    have hsz := hx.size
    clear hrow hx
    by_cases hik : i < k
    · obtain ⟨d, hd⟩ : ∃ d, A % p = d := ⟨_, rfl⟩
      obtain ⟨B, hB⟩ : ∃ B, A / p = B := ⟨_, rfl⟩
      have hd' : (A : Int) % p = d := by rw [← hd]; simp
      have hB' : (A : Int) / p = B := by rw [← hB]; simp
      have hBA : B ≤ A := by rw [← hB]; exact Nat.div_le_self _ _
      have HB : Hid (B = a / p ^ (i + 1)) := by show _ = _; rw [← hB, HA.out, Nat.div_div_eq_div_mul, Nat.pow_succ]
      have HD : Hid (tab (dgI p a) (i + 1) = tab (dgI p a) i ++ [(d : Int)]) := by show _ = _; rw [tab, ← hd, HA.out]; rfl
      clear hd hB
      go_wp2_with (at_builtin; refine wpList_appInt eInt rfl (.tmp 14) (.tmp 18) rfl w.heap.size (by rfl) HROW.out (by rfl) (by omega) (by omega) ?_; intro ao4 cap4 w4 hr4 hg4 hb4; have HR4 := Lib.hid hr4; have HB4 := Lib.hid (hb4 _ _ HX.out (Nat.le_refl _)); clear hr4 hg4 hb4)
      exact ⟨⟨i + 1, B, by omega, by go_num, rfl, by omega, HB, by rw [HD.out]; exact ⟨_, _, _, rfl, by rw [ints_append]; exact HR4.out, HB4.out⟩⟩, by simp [intOf]; omega⟩
    · obtain rfl : k = i := by omega
      go_wp2
      go_ret
      exact ⟨_, rfl, _, _, _, rfl, HROW.out, HX.out⟩

set_option maxHeartbeats 1000000 in
theorem numberOf_any (p k : Nat) (ao : Option Addr) (cap : Nat) (xs : List Int) (v : Nat → Nat) (w : World) (h2 : 2 ≤ p) (h61 : p ≤ 61) (hk1 : 1 ≤ k) (hk6 : k ≤ 6) (h64 : p ^ k ≤ 64) (hv : ∀ i, v i < p) (hl : xs.length = k) (hf : ∀ i, i < k → nth xs i = (v i : Nat)) (hr : Reads w ao (ints xs)) :
    Calls Tryd.prog 57 #[.slice ao k cap, .int .i64 p] w fun e w' => e = .returned (.int .i64 (num p v k : Nat)) ∧ w = w' := by
  obtain ⟨b, off, rfl, hb, hc⟩ := Reads.int hr (by omega)
  have HC := Lib.hid hc
  have HF := Lib.hid hf
  have HV := Lib.hid hv
  have HL := Lib.hid hl
  clear hr hc hf hv hl
  go_enter Tryd.func57, Tryd.ntmps57
  go_wp2
  go_loop [5, 6] (fun n i => ∃ c N : Nat, c ≤ k ∧ i = .int .i64 ((k : Int) - 1 - c) ∧ n = .int .i64 N ∧ N ≤ 64 ∧ Hid (N = hor p v k c)) (fun _ i => (intOf i + 1).toNat)
  case atStart => exact ⟨0, 0, by omega, by simp, rfl, by omega, rfl⟩
  case round =>
    obtain ⟨c, N, hcc, rfl, rfl, hN, HN⟩ := hrel
    by_cases hck : c < k
    · obtain ⟨j, hj⟩ : ∃ j, k - 1 - c = j := ⟨_, rfl⟩
      have hj' : (k : Int) - 1 - c = j := by omega
      have hja : (0 : Int) ≤ (j : Int) := by omega
      have hjk : j < k := by omega
      have k1 := HC.out j (by rw [HL.out]; exact hjk)
      rw [HF.out j hjk] at k1
      have hx := HV.out j
      obtain ⟨x, hxx⟩ : ∃ x, v j = x := ⟨_, rfl⟩
      rw [hxx] at k1 hx
      obtain ⟨R, hR⟩ : ∃ R, N * p = R := ⟨_, rfl⟩
      have hR' : (N : Int) * (p : Int) = R := by rw [← hR, Int.natCast_mul]
      have HNN : Hid (R + x = hor p v k (c + 1)) := by show _ = _; rw [hor, hj, hxx, ← HN.out, hR]
      have hb : R + x < 65 := by
        have h1 := hor_lt HV.out k (c + 1)
        have h2 : p ^ (c + 1) ≤ p ^ k := Nat.pow_le_pow_right (by omega) (by omega)
        rw [← HNN.out] at h1; omega
      have bT : decide ((0 : Int) ≤ (j : Int)) = true := decide_eq_true (by omega)
      have HJ : Hid ((j : Int) - 1 = (k : Int) - 1 - (c + 1 : Nat)) := by show _ = _; omega
      rw [hj']
      clear hj hj' hxx hR
      go_wp2
      exact ⟨⟨c + 1, R + x, by omega, by rw [HJ.out], by go_num, by omega, HNN⟩, by simp [intOf] <;> omega⟩
    · obtain rfl : k = c := by omega
      have hm : (k : Int) - 1 - k = -1 := by omega
      rw [hm]
      have HNV : Hid (N = num p v k) := by show _ = _; rw [HN.out, hor_all]
      go_wp2
      go_ret
      exact ⟨by rw [← HNV.out]; rfl, rfl⟩

end Go.Proofs.YthkafhmciapipaaDoor

/- The product by all pairs, folded: it is the product; plain. -/
namespace Go.Proofs.YthkafhmciapipaaDoor
open Go.RowKit

theorem sm_upd (f c : Nat → Int) (q : Nat) (v : Int) : ∀ N, q < N → sm (fun n => upd f q v n * c n) N = sm (fun n => f n * c n) N + (v - f q) * c q
  | 0, h => by omega
  | N + 1, h => by
    rw [sm, sm]
    by_cases e : q = N
    · subst e
      have : sm (fun n => upd f q v n * c n) q = sm (fun n => f n * c n) q := sm_congr q fun i hi => by unfold upd; rw [if_neg (by omega)]
      rw [this]
      unfold upd
      rw [if_pos rfl, Int.sub_mul]; omega
    · rw [sm_upd f c q v N (by omega)]
      unfold upd
      rw [if_neg (Ne.symm e)]; omega

/-- A row of products. -/
def prI (p i : Nat) (x : Int) (y f : Nat → Int) : Nat → Nat → Int
  | 0 => f
  | j + 1 => upd (prI p i x y f j) (i + j) ((prI p i x y f j (i + j) + x * y j) % p)
/-- All rows of products. -/
def prR (p k : Nat) (x y : Nat → Int) : Nat → Nat → Int
  | 0 => fun _ => 0
  | i + 1 => prI p i (x i) y (prR p k x y i) k
/-- A fold. -/
def rdI (p k i : Nat) (c : Int) (low f : Nat → Int) : Nat → Nat → Int
  | 0 => upd f i 0
  | j + 1 => upd (rdI p k i c low f j) (i - k + j) ((rdI p k i c low f j (i - k + j) - c * low j) % p)
/-- All folds, from the place N - 1 on down. -/
def rdS (p k N : Nat) (low f : Nat → Int) : Nat → Nat → Int
  | 0 => f
  | c + 1 => rdI p k (N - 1 - c) (rdS p k N low f c (N - 1 - c)) low (rdS p k N low f c) k

def Dig2 (p : Nat) (f : Nat → Int) : Prop := ∀ m, 0 ≤ f m ∧ f m < p
theorem upd_dig2 {p : Nat} {f : Nat → Int} (h : Dig2 p f) {q : Nat} {v : Int} (h0 : 0 ≤ v) (h1 : v < p) : Dig2 p (upd f q v) := fun m => by
  unfold upd; split
  · exact ⟨h0, h1⟩
  · exact h m
section
variable {p k : Nat} (hp : 0 < p)
include hp
theorem prI_dig {i : Nat} {x : Int} {y f : Nat → Int} (h : Dig2 p f) : ∀ j, Dig2 p (prI p i x y f j)
  | 0 => h
  | j + 1 => upd_dig2 (prI_dig h j) (mod_bd hp _).1 (mod_bd hp _).2
theorem prR_dig (x y : Nat → Int) : ∀ i, Dig2 p (prR p k x y i)
  | 0 => fun _ => by show (0 : Int) ≤ 0 ∧ (0 : Int) < p; omega
  | i + 1 => prI_dig hp (prR_dig x y i) k
theorem rdI_dig {i : Nat} {c : Int} {low f : Nat → Int} (h : Dig2 p f) : ∀ j, Dig2 p (rdI p k i c low f j)
  | 0 => upd_dig2 h (by omega) (by omega)
  | j + 1 => upd_dig2 (rdI_dig h j) (mod_bd hp _).1 (mod_bd hp _).2
theorem rdS_dig {N : Nat} {low f : Nat → Int} (h : Dig2 p f) : ∀ c, Dig2 p (rdS p k N low f c)
  | 0 => h
  | c + 1 => rdI_dig hp (rdS_dig h c) k
end

/-- What the places weigh. -/
def wgt (k N : Nat) (low : Nat → Int) (m : Nat) (f : Nat → Int) : Int := sm (fun n => f n * pwx k low n m) N
theorem wgt_prI {p k N i m : Nat} {x : Int} {y f low : Nat → Int} : ∀ j, i + j ≤ N → Cg p (wgt k N low m (prI p i x y f j)) (wgt k N low m f + sm (fun j => x * y j * pwx k low (i + j) m) j)
  | 0, _ => Cg.of_eq (by simp [prI, sm])
  | j + 1, h => by
    have ih := wgt_prI (p := p) (k := k) (N := N) (i := i) (m := m) (x := x) (y := y) (f := f) (low := low) j (by omega)
    show Cg p (wgt k N low m (upd (prI p i x y f j) (i + j) ((prI p i x y f j (i + j) + x * y j) % p))) _
    unfold wgt at ih ⊢
    rw [sm_upd _ _ _ _ N (by omega), sm]
    have h1 : Cg p (((prI p i x y f j (i + j) + x * y j) % p - prI p i x y f j (i + j)) * pwx k low (i + j) m) (x * y j * pwx k low (i + j) m) := by
      refine Cg.mul_right _ ?_
      have := (Cg.mod (p : Int) (prI p i x y f j (i + j) + x * y j)).sub (Cg.refl (p : Int) (prI p i x y f j (i + j)))
      refine this.trans (Cg.of_eq (by omega))
    refine (ih.add h1).trans (Cg.of_eq (by omega))
theorem wgt_prR {p k N m : Nat} {x y low : Nat → Int} : ∀ i, i + k ≤ N + 1 → i ≤ k → Cg p (wgt k N low m (prR p k x y i)) (sm (fun i => sm (fun j => x i * y j * pwx k low (i + j) m) k) i)
  | 0, _, _ => Cg.of_eq (by
    show wgt k N low m (fun _ => 0) = 0
    unfold wgt; exact sm_nil N fun i _ => by simp)
  | i + 1, h, hk => by
    have h1 := wgt_prI (p := p) (k := k) (N := N) (i := i) (m := m) (x := x i) (y := y) (f := prR p k x y i) (low := low) k (by omega)
    have ih := wgt_prR (p := p) (k := k) (N := N) (m := m) (x := x) (y := y) (low := low) i (by omega) (by omega)
    rw [sm]
    exact h1.trans (ih.add (Cg.refl _ _))
theorem wgt_rdI {p k N i m : Nat} {low f : Nat → Int} (hi : i < N) (hk : 1 ≤ k) (hki : k ≤ i) : ∀ j, j ≤ k → Cg p (wgt k N low m (rdI p k i (f i) low f j)) (wgt k N low m f - f i * (pwx k low i m + sm (fun j => low j * pwx k low (i - k + j) m) j))
  | 0, _ => Cg.of_eq (by
    show wgt k N low m (upd f i 0) = _
    unfold wgt
    rw [sm_upd _ _ _ _ N hi, sm, Int.add_zero, Int.zero_sub, Int.neg_mul]; omega)
  | j + 1, h => by
    have ih := wgt_rdI (p := p) (k := k) (N := N) (i := i) (m := m) (low := low) (f := f) hi hk hki j (by omega)
    show Cg p (wgt k N low m (upd (rdI p k i (f i) low f j) (i - k + j) ((rdI p k i (f i) low f j (i - k + j) - f i * low j) % p))) _
    unfold wgt at ih ⊢
    rw [sm_upd _ _ _ _ N (by omega), sm]
    have h1 : Cg p (((rdI p k i (f i) low f j (i - k + j) - f i * low j) % p - rdI p k i (f i) low f j (i - k + j)) * pwx k low (i - k + j) m) (-(f i * low j) * pwx k low (i - k + j) m) := by
      refine Cg.mul_right _ ?_
      have := (Cg.mod (p : Int) (rdI p k i (f i) low f j (i - k + j) - f i * low j)).sub (Cg.refl (p : Int) (rdI p k i (f i) low f j (i - k + j)))
      refine this.trans (Cg.of_eq (by omega))
    refine (ih.add h1).trans (Cg.of_eq ?_)
    rw [Int.mul_add (f i) (pwx k low i m) (sm (fun j => low j * pwx k low (i - k + j) m) j + low j * pwx k low (i - k + j) m), Int.mul_add (f i) (sm _ j), Int.mul_add (f i) (pwx k low i m), ← Int.mul_assoc (f i) (low j), Int.neg_mul]
    omega
theorem wgt_fold {p k N i m : Nat} {low f : Nat → Int} (hi : i < N) (hk : 1 ≤ k) (hki : k ≤ i) (hm : m < k) : Cg p (wgt k N low m (rdI p k i (f i) low f k)) (wgt k N low m f) := by
  refine (wgt_rdI (p := p) hi hk hki k (Nat.le_refl _)).trans (Cg.of_eq ?_)
  have h := pwx_fold (k := k) low hk (i - k) m hm
  rw [show k + (i - k) = i by omega] at h
  have e : sm (fun j => low j * pwx k low (i - k + j) m) k = sm (fun j => low j * pwx k low (j + (i - k)) m) k := sm_congr k fun j _ => by rw [Nat.add_comm]
  rw [h, e, Int.add_comm, Int.add_right_neg, Int.mul_zero]; omega
theorem wgt_rdS {p k N m : Nat} {low f : Nat → Int} (hk : 1 ≤ k) (hm : m < k) : ∀ c, c + k ≤ N → Cg p (wgt k N low m (rdS p k N low f c)) (wgt k N low m f)
  | 0, _ => Cg.refl _ _
  | c + 1, h => (wgt_fold (p := p) (i := N - 1 - c) (by omega) hk (by omega) hm).trans (wgt_rdS hk hm c (by omega))
/-- What has been folded is 0. -/
theorem rdI_zero {p k i : Nat} {c : Int} {low f : Nat → Int} (hki : k ≤ i) {n : Nat} (hn : i ≤ n) (hf : ∀ n, i < n → f n = 0) : ∀ j, j ≤ k → rdI p k i c low f j n = 0
  | 0, _ => by
    show upd f i 0 n = 0
    unfold upd
    by_cases e : n = i
    · rw [if_pos e]
    · rw [if_neg e]; exact hf n (by omega)
  | j + 1, h => by
    show upd (rdI p k i c low f j) (i - k + j) _ n = 0
    unfold upd
    rw [if_neg (by omega)]
    exact rdI_zero hki hn hf j (by omega)
theorem rdS_zero {p k N : Nat} {low f : Nat → Int} (hf : ∀ n, N ≤ n → f n = 0) : ∀ c, c + k ≤ N → ∀ n, N - c ≤ n → rdS p k N low f c n = 0
  | 0, _, n, hn => hf n (by omega)
  | c + 1, h, n, hn => rdI_zero (by omega) (by omega) (fun n hn => rdS_zero hf c (by omega) n (by omega)) k (Nat.le_refl _)
theorem prI_zero {p i : Nat} {x : Int} {y f : Nat → Int} {n : Nat} (hf : f n = 0) : ∀ j, i + j ≤ n → prI p i x y f j n = 0
  | 0, _ => hf
  | j + 1, h => by
    show upd (prI p i x y f j) (i + j) _ n = 0
    unfold upd
    rw [if_neg (by omega)]
    exact prI_zero hf j (by omega)
theorem prR_zero {p k : Nat} {x y : Nat → Int} {n : Nat} : ∀ i, i + k ≤ n + 1 → prR p k x y i n = 0
  | 0, _ => rfl
  | i + 1, h => prI_zero (prR_zero i (by omega)) k (by omega)

/-- The reference's product. -/
def refZ (p k : Nat) (low : Nat → Int) (a b : Nat) : Nat → Int := rdS p k (k + k) low (prR p k (dgI p a) (dgI p b) k) k
theorem refZ_dig {p k : Nat} {low : Nat → Int} (hp : 0 < p) (a b : Nat) : Dig2 p (refZ p k low a b) := rdS_dig hp (prR_dig hp _ _ k) k
theorem refZ_num {p k : Nat} {low : Nat → Int} (hp : 0 < p) (hk : 1 ≤ k) (a b : Nat) : num p (fun m => (refZ p k low a b m).toNat) k = mulF p k low a b := by
  unfold mulF
  refine num_congr k fun m hm => ?_
  have h1 := wgt_rdS (p := p) (k := k) (N := k + k) (m := m) (low := low) (f := prR p k (dgI p a) (dgI p b) k) hk hm k (Nat.le_refl _)
  have h2 := wgt_prR (p := p) (k := k) (N := k + k) (m := m) (x := dgI p a) (y := dgI p b) (low := low) k (by omega) (Nat.le_refl _)
  have h3 : wgt k (k + k) low m (refZ p k low a b) = refZ p k low a b m := by
    unfold wgt
    rw [sm_one (k := m) (k + k) (by omega) (fun n hn he => ?_), pwx_small low m m hm hm, if_pos rfl, Int.mul_one]
    by_cases hnk : n < k
    · rw [pwx_small low n m hnk hm, if_neg (Ne.symm he), Int.mul_zero]
    · have : refZ p k low a b n = 0 := rdS_zero (fun n hn => prR_zero k (by omega)) k (Nat.le_refl _) n (by omega)
      rw [this, Int.zero_mul]
  have h4 : sm (fun i => sm (fun j => dgI p a i * dgI p b j * pwx k low (i + j) m) k) k = prd p k low a b m := by
    rw [prd_comm]; rfl
  have h5 := h1.trans h2
  rw [h4] at h5
  change Cg p (wgt k (k + k) low m (refZ p k low a b)) _ at h5
  rw [h3] at h5
  have h6 := refZ_dig (k := k) (low := low) hp a b m
  have h7 := mod_bd hp (prd p k low a b m)
  have h8 := (h5.trans (Cg.mod (p : Int) (prd p k low a b m)).symm).eq h6.1 h6.2 h7.1 h7.2
  rw [h8]

end Go.Proofs.YthkafhmciapipaaDoor
