/- Finite fields, plain: polynomials modulo one, their sums and products by the digits of numbers, and the laws of a ring. -/
import Derived.Test.YtnfonobdfkpkeaaDoorSums
namespace Go.Proofs.YtnfonobdfkpkeaaDoor

/-- The powers of x: what stands in the place m of x to the n. -/
def pwx (k : Nat) (low : Nat → Int) : Nat → Nat → Int
  | 0, m => if m = 0 then 1 else 0
  | n + 1, m => (if 0 < m then pwx k low n (m - 1) else 0) - pwx k low n (k - 1) * low m
theorem pwx_small {k : Nat} (low : Nat → Int) : ∀ n m, n < k → m < k → pwx k low n m = if m = n then 1 else 0
  | 0, m, _, _ => rfl
  | n + 1, m, hn, hm => by
    rw [pwx, pwx_small low n (k - 1) (by omega) (by omega), if_neg (by omega : ¬ k - 1 = n)]
    by_cases h0 : 0 < m
    · rw [if_pos h0, pwx_small low n (m - 1) (by omega) (by omega)]
      by_cases e : m = n + 1
      · rw [if_pos (by omega), if_pos e]; omega
      · rw [if_neg (by omega), if_neg e]; omega
    · rw [if_neg h0, if_neg (by omega)]; omega
theorem pwx_top {k : Nat} (low : Nat → Int) (m : Nat) (hk : 1 ≤ k) (hm : m < k) : pwx k low k m = - low m := by
  obtain ⟨j, rfl⟩ : ∃ j, k = j + 1 := ⟨k - 1, by omega⟩
  rw [pwx, Nat.add_sub_cancel, pwx_small low j j (by omega) (by omega), if_pos rfl]
  by_cases h0 : 0 < m
  · rw [if_pos h0, pwx_small low j (m - 1) (by omega) (by omega), if_neg (by omega)]; omega
  · rw [if_neg h0]; omega
theorem pwx_step {k : Nat} (low : Nat → Int) (n m : Nat) : pwx k low (n + 1) m = (if 0 < m then pwx k low n (m - 1) else 0) - pwx k low n (k - 1) * low m := rfl
/-- A sum of powers, times x. -/
theorem sum_step {k : Nat} (low : Nat → Int) (c : Nat → Int) (e : Nat → Nat) (N m : Nat) :
    sm (fun j => c j * pwx k low (e j + 1) m) N = (if 0 < m then sm (fun j => c j * pwx k low (e j) (m - 1)) N else 0) - sm (fun j => c j * pwx k low (e j) (k - 1)) N * low m := by
  rw [← sm_mulr]
  by_cases h0 : 0 < m
  · rw [if_pos h0, ← sm_sub]
    exact sm_congr N fun j _ => by rw [pwx_step, if_pos h0, Int.mul_sub, Int.mul_assoc]
  · rw [if_neg h0, ← sm_zero N, ← sm_sub]
    exact sm_congr N fun j _ => by rw [pwx_step, if_neg h0, Int.mul_sub, Int.mul_assoc]; omega
theorem pwx_fold {k : Nat} (low : Nat → Int) (hk : 1 ≤ k) : ∀ n m, m < k → pwx k low (k + n) m = - sm (fun j => low j * pwx k low (j + n) m) k
  | 0, m, hm => by
    rw [Nat.add_zero, pwx_top low m hk hm, sm_one (k := m) k hm (fun i hi he => by rw [Nat.add_zero, pwx_small low i m hi hm, if_neg (Ne.symm he)]; omega), Nat.add_zero, pwx_small low m m hm hm, if_pos rfl]; omega
  | n + 1, m, hm => by
    rw [← Nat.add_assoc, pwx_step]
    have h := sum_step (k := k) low low (fun j => j + n) k m
    simp only [Nat.add_assoc] at h
    rw [h, pwx_fold low hk n (k - 1) (by omega)]
    by_cases h0 : 0 < m
    · rw [if_pos h0, if_pos h0, pwx_fold low hk n (m - 1) (by omega), Int.neg_mul]; omega
    · rw [if_neg h0, if_neg h0, Int.neg_mul]; omega
theorem sm_shift (f g : Nat → Int) (j : Nat) : sm (fun l => (if 0 < l then f (l - 1) else 0) * g l) (j + 1) = sm (fun l => f l * g (l + 1)) j := by
  rw [sm_front, if_neg (by omega), Int.zero_mul, Int.zero_add]
  exact sm_congr j fun i _ => by rw [if_pos (by omega), Nat.add_sub_cancel]
/-- Powers of powers. -/
theorem pwx_comp {k : Nat} (low : Nat → Int) (hk : 1 ≤ k) : ∀ s n m, m < k → sm (fun l => pwx k low s l * pwx k low (l + n) m) k = pwx k low (s + n) m
  | 0, n, m, hm => by
    rw [sm_one (k := 0) k (by omega) (fun i hi he => by rw [pwx, if_neg he, Int.zero_mul])]
    rw [pwx, if_pos rfl, Int.one_mul, Nat.zero_add]
  | s + 1, n, m, hm => by
    rw [show s + 1 + n = s + (n + 1) by omega, ← pwx_comp low hk s (n + 1) m hm]
    obtain ⟨j, rfl⟩ : ∃ j, k = j + 1 := ⟨k - 1, by omega⟩
    have h1 : sm (fun l => pwx (j + 1) low (s + 1) l * pwx (j + 1) low (l + n) m) (j + 1) =
        sm (fun l => (if 0 < l then pwx (j + 1) low s (l - 1) else 0) * pwx (j + 1) low (l + n) m) (j + 1) - pwx (j + 1) low s j * sm (fun l => low l * pwx (j + 1) low (l + n) m) (j + 1) := by
      rw [← sm_mul, ← sm_sub]
      exact sm_congr _ fun l _ => by rw [pwx_step, Nat.add_sub_cancel, Int.sub_mul, Int.mul_assoc]
    have h2 := pwx_fold low hk n m hm
    have h3 : sm (fun l => low l * pwx (j + 1) low (l + n) m) (j + 1) = - pwx (j + 1) low (j + 1 + n) m := by rw [h2]; omega
    rw [h1, h3, sm_shift (fun l => pwx (j + 1) low s l) (fun l => pwx (j + 1) low (l + n) m) j, Int.mul_neg, sm]
    have h4 : sm (fun l => pwx (j + 1) low s l * pwx (j + 1) low (l + 1 + n) m) j = sm (fun l => pwx (j + 1) low s l * pwx (j + 1) low (l + (n + 1)) m) j := sm_congr j fun l _ => by rw [show l + 1 + n = l + (n + 1) by omega]
    rw [h4, show j + 1 + n = j + (n + 1) by omega]
    omega

/-- The digits of a number. -/
def dgt (p a i : Nat) : Nat := a / p ^ i % p
/-- The number of digits. -/
def num (p : Nat) (v : Nat → Nat) : Nat → Nat
  | 0 => 0
  | k + 1 => num p v k + v k * p ^ k
theorem num_lt {p : Nat} {v : Nat → Nat} : ∀ k, (∀ i, i < k → v i < p) → num p v k < p ^ k
  | 0, _ => by simp [num]
  | k + 1, h => by
    have h1 := num_lt k (fun i hi => h i (by omega))
    have h2 : (v k + 1) * p ^ k ≤ p * p ^ k := Nat.mul_le_mul_right _ (h k (by omega))
    rw [Nat.succ_mul] at h2
    rw [num, Nat.pow_succ, Nat.mul_comm (p ^ k) p]
    omega
theorem num_dgt {p : Nat} (hp : 0 < p) (a : Nat) : ∀ k, num p (dgt p a) k = a % p ^ k
  | 0 => by simp [num, Nat.mod_one]
  | k + 1 => by rw [num, num_dgt hp a k, Nat.mod_pow_succ, dgt, Nat.mul_comm]
theorem num_self {p a k : Nat} (hp : 0 < p) (ha : a < p ^ k) : num p (dgt p a) k = a := by rw [num_dgt hp, Nat.mod_eq_of_lt ha]
theorem dgt_lt {p : Nat} (hp : 0 < p) (a i : Nat) : dgt p a i < p := Nat.mod_lt _ hp
theorem dgt_high {p a k : Nat} (hp : 0 < p) (ha : a < p ^ k) (i : Nat) (hi : k ≤ i) : dgt p a i = 0 := by
  unfold dgt
  rw [Nat.div_eq_of_lt (Nat.lt_of_lt_of_le ha (Nat.pow_le_pow_right hp hi)), Nat.zero_mod]
theorem dgt_num {p : Nat} (hp : 0 < p) {v : Nat → Nat} : ∀ k, (∀ i, i < k → v i < p) → ∀ i, i < k → dgt p (num p v k) i = v i
  | 0, _, i, hi => by omega
  | k + 1, h, i, hi => by
    have hlt := num_lt k (fun i hi => h i (by omega))
    unfold dgt
    rw [num]
    by_cases e : i = k
    · subst e
      rw [Nat.add_mul_div_right _ _ (Nat.pow_pos hp), Nat.div_eq_of_lt hlt, Nat.zero_add, Nat.mod_eq_of_lt (h i hi)]
    · have ih := dgt_num hp k (fun i hi => h i (by omega)) i (by omega)
      unfold dgt at ih
      have e2 : v k * p ^ k = v k * p ^ (k - i - 1) * p * p ^ i := by
        rw [Nat.mul_assoc, Nat.mul_assoc, ← Nat.pow_succ', ← Nat.pow_add, show k - i - 1 + (i + 1) = k by omega]
      rw [e2, Nat.add_mul_div_right _ _ (Nat.pow_pos hp), Nat.add_mul_mod_self_right, ih]
theorem num_congr {p : Nat} {v u : Nat → Nat} : ∀ k, (∀ i, i < k → v i = u i) → num p v k = num p u k
  | 0, _ => rfl
  | k + 1, h => by rw [num, num, num_congr k (fun i hi => h i (by omega)), h k (by omega)]
theorem dgt_ext {p k a b : Nat} (hp : 0 < p) (ha : a < p ^ k) (hb : b < p ^ k) (h : ∀ i, i < k → dgt p a i = dgt p b i) : a = b := by
  rw [← num_self hp ha, ← num_self hp hb]; exact num_congr k h

/-- The sum. -/
def addF (p k a b : Nat) : Nat := num p (fun i => (dgt p a i + dgt p b i) % p) k
/-- What the product has at a place, before it is cut. -/
def prd (p k : Nat) (low : Nat → Int) (a b m : Nat) : Int := sm (fun i => sm (fun j => (dgt p b i : Int) * (dgt p a j : Int) * pwx k low (i + j) m) k) k
/-- The product. -/
def mulF (p k : Nat) (low : Nat → Int) (a b : Nat) : Nat := num p (fun m => (prd p k low a b m % (p : Int)).toNat) k

section
variable {p k : Nat} {low : Nat → Int} (hp : 0 < p) (hk : 1 ≤ k)
include hp

theorem mod_bd (x : Int) : 0 ≤ x % (p : Int) ∧ x % (p : Int) < p := ⟨Int.emod_nonneg _ (by omega), Int.emod_lt_of_pos _ (by omega)⟩
theorem addF_lt (a b : Nat) : addF p k a b < p ^ k := num_lt k fun _ _ => Nat.mod_lt _ hp
theorem mulF_lt (a b : Nat) : mulF p k low a b < p ^ k := num_lt k fun i _ => by have := mod_bd hp (prd p k low a b i); omega
theorem dgt_addF (a b i : Nat) (hi : i < k) : dgt p (addF p k a b) i = (dgt p a i + dgt p b i) % p := dgt_num hp k (fun _ _ => Nat.mod_lt _ hp) i hi
theorem dgt_mulF (a b i : Nat) (hi : i < k) : (dgt p (mulF p k low a b) i : Int) = prd p k low a b i % p := by
  unfold mulF
  rw [dgt_num hp k (fun j _ => by have := mod_bd hp (prd p k low a b j); omega) i hi]
  have := mod_bd hp (prd p k low a b i); omega
theorem cg_add (a b i : Nat) (hi : i < k) : Cg p (dgt p (addF p k a b) i : Nat) ((dgt p a i : Int) + dgt p b i) := by
  rw [dgt_addF hp a b i hi, Int.natCast_emod, Int.natCast_add]; exact Cg.mod _ _
theorem cg_mul (a b i : Nat) (hi : i < k) : Cg p (dgt p (mulF p k low a b) i : Nat) (prd p k low a b i) := by
  rw [dgt_mulF hp a b i hi]; exact Cg.mod _ _
theorem eq_of_cg {a b : Nat} (ha : a < p ^ k) (hb : b < p ^ k) (h : ∀ i, i < k → Cg p (dgt p a i : Nat) (dgt p b i : Nat)) : a = b :=
  dgt_ext hp ha hb fun i hi => by
    have := (h i hi).eq (by omega) (by have := dgt_lt hp a i; omega) (by omega) (by have := dgt_lt hp b i; omega)
    omega

omit hp in
theorem addF_comm (a b : Nat) : addF p k a b = addF p k b a := num_congr k fun i _ => by rw [Nat.add_comm]
theorem addF_assoc (a b c : Nat) : addF p k (addF p k a b) c = addF p k a (addF p k b c) := num_congr k fun i hi => by
  rw [dgt_addF hp a b i hi, dgt_addF hp b c i hi]; simp [Nat.add_assoc]
theorem addF_zero (a : Nat) (ha : a < p ^ k) : addF p k a 0 = a := by
  refine Eq.trans (num_congr k fun i hi => ?_) (num_self hp ha)
  rw [show dgt p 0 i = 0 by simp [dgt], Nat.add_zero, Nat.mod_eq_of_lt (dgt_lt hp a i)]
/-- What is added to 0. -/
def negF (p k a : Nat) : Nat := num p (fun i => (p - dgt p a i) % p) k
theorem negF_lt (a : Nat) : negF p k a < p ^ k := num_lt k fun _ _ => Nat.mod_lt _ hp
theorem addF_neg (a : Nat) : addF p k a (negF p k a) = 0 := by
  refine dgt_ext hp (addF_lt hp _ _) (Nat.pow_pos hp) fun i hi => ?_
  rw [dgt_addF hp _ _ i hi, negF, dgt_num hp k (fun _ _ => Nat.mod_lt _ hp) i hi]
  have := dgt_lt hp a i
  rw [Nat.add_mod_mod, show dgt p a i + (p - dgt p a i) = p by omega, Nat.mod_self]
  simp [dgt]

omit hp in
theorem prd_comm (a b m : Nat) : prd p k low a b m = prd p k low b a m := by
  unfold prd
  rw [sm_swap]
  refine sm_congr k fun i _ => sm_congr k fun j _ => ?_
  rw [Nat.add_comm j i, Int.mul_comm (dgt p b j : Int)]
omit hp in
theorem mulF_comm (a b : Nat) : mulF p k low a b = mulF p k low b a := num_congr k fun m _ => by rw [prd_comm]

/-- Three factors. -/
def prd3 (p k : Nat) (low : Nat → Int) (a b c m : Nat) : Int := sm (fun n => sm (fun i => sm (fun j => (dgt p c n : Int) * ((dgt p b i : Int) * (dgt p a j : Int)) * pwx k low (i + j + n) m) k) k) k
include hk
theorem prd_prd (a b c m : Nat) (hm : m < k) : Cg p (prd p k low (mulF p k low a b) c m) (prd3 p k low a b c m) := by
  refine (Cg.sm k fun n hn => Cg.sm k fun l hl => ((cg_mul (low := low) hp a b l hl).mul_left (dgt p c n : Int)).mul_right (pwx k low (n + l) m)).trans (Cg.of_eq ?_)
  refine sm_congr k fun n _ => ?_
  have h1 : ∀ l, l < k → (dgt p c n : Int) * prd p k low a b l * pwx k low (n + l) m = sm (fun i => sm (fun j => (dgt p c n : Int) * ((dgt p b i : Int) * (dgt p a j : Int)) * (pwx k low (i + j) l * pwx k low (l + n) m)) k) k := fun l _ => by
    unfold prd
    rw [← sm_mul, ← sm_mulr]
    refine sm_congr k fun i _ => ?_
    rw [← sm_mul, ← sm_mulr]
    refine sm_congr k fun j _ => ?_
    rw [Nat.add_comm n l]
    simp only [Int.mul_assoc]
  rw [sm_congr k h1, sm_swap]
  refine sm_congr k fun i _ => ?_
  rw [sm_swap]
  refine sm_congr k fun j _ => ?_
  rw [sm_mul, pwx_comp low hk (i + j) n m hm]
omit hk hp in
theorem prd3_turn (a b c m : Nat) : prd3 p k low a b c m = prd3 p k low b c a m := by
  unfold prd3
  -- n i j : c b a  ->  n' i' j' : a c b
  have e1 : sm (fun n => sm (fun i => sm (fun j => (dgt p c n : Int) * ((dgt p b i : Int) * (dgt p a j : Int)) * pwx k low (i + j + n) m) k) k) k
      = sm (fun n => sm (fun j => sm (fun i => (dgt p c n : Int) * ((dgt p b i : Int) * (dgt p a j : Int)) * pwx k low (i + j + n) m) k) k) k := sm_congr k fun n _ => by rw [sm_swap]
  rw [e1, sm_swap]
  refine sm_congr k fun j _ => sm_congr k fun n _ => sm_congr k fun i _ => ?_
  rw [show n + i + j = i + j + n by omega]
  congr 1
  rw [Int.mul_comm (dgt p a j : Int), Int.mul_assoc]
theorem mulF_assoc (a b c : Nat) : mulF p k low (mulF p k low a b) c = mulF p k low a (mulF p k low b c) := by
  rw [mulF_comm a (mulF p k low b c)]
  refine eq_of_cg hp (mulF_lt hp _ _) (mulF_lt hp _ _) fun m hm => ?_
  refine (cg_mul hp _ _ m hm).trans ((prd_prd hp hk a b c m hm).trans ?_)
  rw [prd3_turn a b c m]
  exact ((cg_mul hp _ _ m hm).trans (prd_prd hp hk b c a m hm)).symm
theorem mulF_one (a : Nat) (ha : a < p ^ k) (h2 : 2 ≤ p) : mulF p k low a 1 = a := by
  refine eq_of_cg hp (mulF_lt hp _ _) ha fun m hm => (cg_mul hp _ _ m hm).trans (Cg.of_eq ?_)
  unfold prd
  have hd : ∀ i, dgt p 1 i = if i = 0 then 1 else 0 := fun i => by
    unfold dgt
    by_cases e : i = 0
    · rw [if_pos e, e, Nat.pow_zero, Nat.div_one, Nat.mod_eq_of_lt (by omega)]
    · rw [if_neg e, Nat.div_eq_of_lt (Nat.one_lt_pow e (by omega)), Nat.zero_mod]
  rw [sm_one (k := 0) k (by omega) (fun i hi he => sm_nil k fun j _ => by rw [hd, if_neg he]; simp)]
  rw [sm_one (k := m) k hm (fun j hj he => by rw [Nat.zero_add, pwx_small low j m hj hm, if_neg (Ne.symm he)]; simp)]
  rw [hd, if_pos rfl, Nat.zero_add, pwx_small low m m hm hm, if_pos rfl]; simp
omit hk
theorem mulF_add (a b c : Nat) : mulF p k low (addF p k a b) c = addF p k (mulF p k low a c) (mulF p k low b c) := by
  refine eq_of_cg hp (mulF_lt hp _ _) (addF_lt hp _ _) fun m hm => (cg_mul hp _ _ m hm).trans ?_
  refine Cg.trans ?_ ((cg_add hp _ _ m hm).trans ((cg_mul hp a c m hm).add (cg_mul hp b c m hm))).symm
  refine (Cg.sm k fun i hi => Cg.sm k fun j hj => ((cg_add hp a b j hj).mul_left (dgt p c i : Int)).mul_right (pwx k low (i + j) m)).trans (Cg.of_eq ?_)
  unfold prd
  rw [← sm_add]
  refine sm_congr k fun i _ => ?_
  rw [← sm_add]
  refine sm_congr k fun j _ => ?_
  rw [Int.mul_add, Int.add_mul]
end

end Go.Proofs.YtnfonobdfkpkeaaDoor
