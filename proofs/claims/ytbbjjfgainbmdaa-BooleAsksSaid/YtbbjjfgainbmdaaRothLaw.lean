/- Bent functions have an even number of bits, and a degree of at most half of it (Rothaus). -/
import Derived.Test.YtbbjjfgainbmdaaSiegLaw
import Derived.Test.YtbbjjfgainbmdaaBooleParsevalWalk
namespace Go.Proofs.Ytbbjjfgainbmdaa
open Go.RowKit

/-- 1 everywhere. -/
def oneK (_ _ : Nat) : Int := 1
theorem kern_one : ∀ t a x, kern oneK t a x = 1
  | 0, _, _ => rfl
  | t + 1, a, x => by rw [kern, kern_one t a x]; rfl
/-- 2 for each bit that is 1. -/
def pw1 : Nat → Nat → Int
  | 0, _ => 1
  | t + 1, u => pw1 t u * (if bit t u = 1 then 2 else 1)
theorem pw1_eq : ∀ t u, pw1 t u = 2 ^ wtS t u
  | 0, u => rfl
  | t + 1, u => by
    rw [pw1, pw1_eq t u, wtS_succ]
    rcases bit_cases t u with e | e
    · rw [e]; simp
    · rw [e, Int.pow_succ]; rfl
theorem anf_count (k u : Nat) : sumN (fun x => kern anfK k u x) (2 ^ k) = pw1 k u := by
  have h : sumN (fun x => kern anfK k u x) (2 ^ k) = kern (compK anfK oneK) k u 0 := by
    rw [← kern_comp]
    exact sumN_congr fun x _ => by rw [kern_one, Int.mul_one]
  rw [h]
  clear h
  induction k with
  | zero => rfl
  | succ k ih =>
    rw [kern, ih, pw1]
    congr 1
    rcases bit_cases k u with e | e <;> rw [e] <;> rfl
theorem away_count (k u : Nat) : sumN (fun x => kern awayK k u x) (2 ^ k) = pw k u := by
  have h : sumN (fun x => kern awayK k u x) (2 ^ k) = kern (compK awayK oneK) k u 0 := by
    rw [← kern_comp]
    exact sumN_congr fun x _ => by rw [kern_one, Int.mul_one]
  rw [h]
  clear h
  induction k with
  | zero => rfl
  | succ k ih =>
    rw [kern, ih, pw]
    congr 1
    rcases bit_cases k u with e | e <;> rw [e] <;> rfl

theorem poissonG (g : Nat → Int) (k u : Nat) : sumN (fun a => kern awayK k u a * sumN (fun x => kern sg k a x * g x) (2 ^ k)) (2 ^ k) = pw k u * sumN (fun x => kern anfK k u x * g x) (2 ^ k) := by
  have h : sumN (fun a => kern awayK k u a * sumN (fun x => kern sg k a x * g x) (2 ^ k)) (2 ^ k) = sumN (fun a => sumN (fun x => kern awayK k u a * (kern sg k a x * g x)) (2 ^ k)) (2 ^ k) :=
    sumN_congr fun a _ => by rw [sumN_mul]
  rw [h, sumN_comm, ← sumN_mul]
  refine sumN_congr fun x _ => ?_
  rw [← Int.mul_assoc, ← kern_awaysg, ← kern_comp, Int.mul_comm, ← sumN_mul]
  exact sumN_congr fun a _ => by grind

theorem least_le (ys : List Int) (i : Nat) : ∀ n, i < n → leastTo ys n ≤ absI (nth ys i)
  | n + 1, h => by
    rw [leastTo]
    rcases Nat.lt_succ_iff_lt_or_eq.1 h with h1 | rfl
    · have := least_le ys i n h1; split <;> omega
    · split <;> omega
theorem bent_abs (ys : List Int) (n : Nat) (h : mostTo ys n = leastTo ys n) (i : Nat) (hi : i < n) : absI (nth ys i) = mostTo ys n := by
  have h1 := sq_le_most ys i n hi
  have h2 := least_le ys i n hi
  omega

theorem square_pow : ∀ k, k ≤ 8 → ∀ c, c ≤ 256 → c * c = 2 ^ k → k % 2 = 0 ∧ c = 2 ^ (k / 2) := by decide +kernel

theorem bent_size (t : List Int) (k : Nat) (ht : IsTable t k) (h : mostTo (tab (spec t k) (2 ^ k)) (2 ^ k) = leastTo (tab (spec t k) (2 ^ k)) (2 ^ k)) :
    k % 2 = 0 ∧ mostTo (tab (spec t k) (2 ^ k)) (2 ^ k) = ((2 ^ (k / 2) : Nat) : Int) := by
  have hN := pow8 ht.k8
  have hP := two_pow_pos k
  have hb := mostTo_bound (tab (spec t k) (2 ^ k)) 256 (by omega) (fun i => by have := specL_bound t k (2 ^ k) rfl ht.nth01 i; omega) (2 ^ k)
  have hpar := parseval t k (2 ^ k) rfl ht.nth01
  have hs : sqSum (tab (spec t k) (2 ^ k)) (2 ^ k) = sumN (fun _ => mostTo (tab (spec t k) (2 ^ k)) (2 ^ k) * mostTo (tab (spec t k) (2 ^ k)) (2 ^ k)) (2 ^ k) :=
    sumN_congr fun i hi => by rw [← absI_sq, bent_abs _ _ h i hi]
  rw [hs, sumN_const] at hpar
  have hn0 : ((2 ^ k : Nat) : Int) ≠ 0 := by omega
  have hc := Int.eq_of_mul_eq_mul_left hn0 hpar
  generalize mostTo (tab (spec t k) (2 ^ k)) (2 ^ k) = c at *
  obtain ⟨c', rfl⟩ : ∃ c' : Nat, c = c' := ⟨c.toNat, by omega⟩
  have hc' : c' * c' = 2 ^ k := Int.ofNat_inj.1 (by rw [Int.natCast_mul]; exact hc)
  have := square_pow k ht.k8 c' (by omega) hc'
  exact ⟨this.1, by rw [this.2]⟩

theorem roth_degree (t : List Int) (k : Nat) (ht : IsTable t k) (h3 : 3 ≤ k) (h : mostTo (tab (spec t k) (2 ^ k)) (2 ^ k) = leastTo (tab (spec t k) (2 ^ k)) (2 ^ k)) :
    degTo (anfL t k (2 ^ k)) (2 ^ k) ≤ (k / 2 : Nat) := by
  have h8 := ht.k8
  obtain ⟨hk, hm⟩ := bent_size t k ht h
  rcases degTo_mem (anfL t k (2 ^ k)) (2 ^ k) with h0 | ⟨u, hu, hu1, hd⟩
  · rw [h0]; omega
  · rw [hd, wt_eq k u h8 hu]
    rcases Nat.lt_or_ge (k / 2) (wtS k u) with hlt | hge
    · exfalso
      obtain ⟨q, hq⟩ : ∃ q, k / 2 = q + 2 := ⟨k / 2 - 2, by omega⟩
      rw [hq] at hm hlt
      have hk2 : k = 2 * (q + 2) := by omega
      obtain ⟨z, p1, q1⟩ := pw_eq k u
      have hu2 : sumN (fun x => kern anfK k u x * nth t x) (2 ^ k) % 2 = 1 := by
        unfold anfL at hu1
        rw [nth_tab _ _ _ hu] at hu1
        unfold mixA at hu1
        rwa [mix_all _ _ _ _ hu] at hu1
      have hsgn : ∀ a, a < 2 ^ k → spec t k a = ((2 ^ (q + 2) : Nat) : Int) ∨ spec t k a = -((2 ^ (q + 2) : Nat) : Int) := fun a ha => by
        have h1 := bent_abs _ _ h a ha
        rw [hm, nth_tab _ _ _ ha] at h1
        unfold absI at h1
        split at h1 <;> omega
      -- the signs
      have hT : ∃ T : Int, sumN (fun a => kern awayK k u a * spec t k a) (2 ^ k) = 2 ^ (q + 2) * T ∧ T % 2 = sumN (fun a => kern awayK k u a) (2 ^ k) % 2 := by
        have key : ∀ n : Nat, n ≤ 2 ^ k → ∃ T : Int, sumN (fun a => kern awayK k u a * spec t k a) n = 2 ^ (q + 2) * T ∧ T % 2 = sumN (fun a => kern awayK k u a) n % 2 := by
          intro n
          induction n with
          | zero => intro _; exact ⟨0, by simp [sumN], rfl⟩
          | succ n ih =>
            intro hn
            obtain ⟨T, e1, e2⟩ := ih (by omega)
            have e3 : ((2 ^ (q + 2) : Nat) : Int) = 2 ^ (q + 2) := by simp
            rcases hsgn n (by omega) with h1 | h1
            · exact ⟨T + kern awayK k u n, by rw [sumN, e1, h1, e3]; grind, by rw [sumN]; omega⟩
            · exact ⟨T - kern awayK k u n, by rw [sumN, e1, h1, e3]; grind, by rw [sumN]; omega⟩
        exact key _ (Nat.le_refl _)
      obtain ⟨T, hT1, hT2⟩ := hT
      rw [away_count, p1] at hT2
      have hP := poissonG (fun x => 1 - 2 * nth t x) k u
      have hL : sumN (fun a => kern awayK k u a * sumN (fun x => kern sg k a x * (1 - 2 * nth t x)) (2 ^ k)) (2 ^ k) = sumN (fun a => kern awayK k u a * spec t k a) (2 ^ k) := rfl
      have hR : sumN (fun x => kern anfK k u x * (1 - 2 * nth t x)) (2 ^ k) = 2 ^ wtS k u - 2 * sumN (fun x => kern anfK k u x * nth t x) (2 ^ k) := by
        rw [show (fun x => kern anfK k u x * (1 - 2 * nth t x)) = fun x => kern anfK k u x + -2 * (kern anfK k u x * nth t x) from funext fun x => by grind, sumN_plus, sumN_mul, anf_count, pw1_eq]
        omega
      rw [hL, hT1, p1, hR] at hP
      generalize sumN (fun x => kern anfK k u x * nth t x) (2 ^ k) = S at *
      obtain ⟨e, he⟩ : ∃ e, q + 2 = z + (e + 1) := ⟨q + 1 - z, by omega⟩
      have hw : wtS k u = z + (e + 1) + (e + 1) := by omega
      rw [he, hw] at hP
      have hpos : (2 : Int) ^ z ≠ 0 := by
        have : ((2 ^ z : Nat) : Int) = (2 : Int) ^ z := by simp
        have := two_pow_pos z
        omega
      rw [Int.pow_add, Int.mul_assoc] at hP
      have h4 := Int.eq_of_mul_eq_mul_left hpos hP
      -- 2^(e+1) T = 2^(z+e+1+e+1) - 2 S
      rw [Int.pow_succ, Int.pow_add _ (z + (e + 1)), Int.pow_succ] at h4
      have h5 : (2 : Int) ^ e * T = 2 ^ (z + (e + 1)) * 2 ^ e - S := by
        have a1 : (2 : Int) ^ e * 2 * T = 2 * (2 ^ e * T) := by grind
        have a2 : (2 : Int) ^ (z + (e + 1)) * (2 ^ e * 2) = 2 * (2 ^ (z + (e + 1)) * 2 ^ e) := by grind
        rw [a1, a2] at h4; omega
      rw [Int.pow_add 2 z (e + 1), Int.pow_succ 2 e] at h5
      have h6 : (2 : Int) ^ z * (2 ^ e * 2) * 2 ^ e = 2 * (2 ^ z * 2 ^ e * 2 ^ e) := by grind
      rw [h6] at h5
      cases e with
      | zero =>
        obtain ⟨z', rfl⟩ : ∃ z', z = z' + 1 := ⟨z - 1, by omega⟩
        rw [Int.pow_succ] at hT2
        simp at h5
        omega
      | succ e =>
        rw [show (2 : Int) ^ (e + 1) * T = 2 * (2 ^ e * T) by rw [Int.pow_succ]; grind] at h5
        omega
    · omega

end Go.Proofs.Ytbbjjfgainbmdaa
