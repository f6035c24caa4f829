/- Finite fields, plain: polynomials modulo one, their sums and products by the digits of numbers, and the laws of a ring. -/
import Derived.Test.YtjkiaglfefpocaaDoorJdnacgcefkl
import Derived.Test.YtjkiaglfefpocaaDoorJkajnadamdh
import Derived.BigRegion
import Derived.Outline
namespace Go.Proofs.YtjkiaglfefpocaaDoor

/-- The powers of x: what stands in the place m of x to the n. -/
def pwx (k : Nat) (low : Nat → Int) : Nat → Nat → Int
  | 0, m => if m = 0 then 1 else 0
  | n + 1, m => (if 0 < m then pwx k low n (m - 1) else 0) - pwx k low n (k - 1) * low m
theorem pwx_small {k : Nat} (low : Nat → Int) : ∀ n m, n < k → m < k → pwx k low n m = if m = n then 1 else 0
  | 0, m, _, _ => rfl
  | n + 1, m, hn, hm => by
    rw [pwx, pwx_small low n (k - 1) (by omega) (by omega), if_neg (by omega : ¬ k - 1 = n)]
    by_cases h0 : 0 < m
    · rw [if_pos h0, pwx_small low n (m - 1) (by omega) (by omega)]
      by_cases e : m = n + 1
      · rw [if_pos (by omega), if_pos e]; omega
      · rw [if_neg (by omega), if_neg e]; omega
    · rw [if_neg h0, if_neg (by omega)]; omega
theorem pwx_top {k : Nat} (low : Nat → Int) (m : Nat) (hk : 1 ≤ k) (hm : m < k) : pwx k low k m = - low m := by
  obtain ⟨j, rfl⟩ : ∃ j, k = j + 1 := ⟨k - 1, by omega⟩
  rw [pwx, Nat.add_sub_cancel, pwx_small low j j (by omega) (by omega), if_pos rfl]
  by_cases h0 : 0 < m
  · rw [if_pos h0, pwx_small low j (m - 1) (by omega) (by omega), if_neg (by omega)]; omega
  · rw [if_neg h0]; omega
theorem pwx_step {k : Nat} (low : Nat → Int) (n m : Nat) : pwx k low (n + 1) m = (if 0 < m then pwx k low n (m - 1) else 0) - pwx k low n (k - 1) * low m := rfl
/-- A sum of powers, times x. -/
theorem sum_step {k : Nat} (low : Nat → Int) (c : Nat → Int) (e : Nat → Nat) (N m : Nat) :
    sm (fun j => c j * pwx k low (e j + 1) m) N = (if 0 < m then sm (fun j => c j * pwx k low (e j) (m - 1)) N else 0) - sm (fun j => c j * pwx k low (e j) (k - 1)) N * low m := by
  rw [← sm_mulr]
  by_cases h0 : 0 < m
  · rw [if_pos h0, ← sm_sub]
    exact sm_congr N fun j _ => by rw [pwx_step, if_pos h0, Int.mul_sub, Int.mul_assoc]
  · rw [if_neg h0, ← sm_zero N, ← sm_sub]
    exact sm_congr N fun j _ => by rw [pwx_step, if_neg h0, Int.mul_sub, Int.mul_assoc]; omega
theorem pwx_fold {k : Nat} (low : Nat → Int) (hk : 1 ≤ k) : ∀ n m, m < k → pwx k low (k + n) m = - sm (fun j => low j * pwx k low (j + n) m) k
  | 0, m, hm => by
    rw [Nat.add_zero, pwx_top low m hk hm, sm_one (k := m) k hm (fun i hi he => by rw [Nat.add_zero, pwx_small low i m hi hm, if_neg (Ne.symm he)]; omega), Nat.add_zero, pwx_small low m m hm hm, if_pos rfl]; omega
  | n + 1, m, hm => by
    rw [← Nat.add_assoc, pwx_step]
    have h := sum_step (k := k) low low (fun j => j + n) k m
    simp only [Nat.add_assoc] at h
    rw [h, pwx_fold low hk n (k - 1) (by omega)]
    by_cases h0 : 0 < m
    · rw [if_pos h0, if_pos h0, pwx_fold low hk n (m - 1) (by omega), Int.neg_mul]; omega
    · rw [if_neg h0, if_neg h0, Int.neg_mul]; omega
theorem sm_shift (f g : Nat → Int) (j : Nat) : sm (fun l => (if 0 < l then f (l - 1) else 0) * g l) (j + 1) = sm (fun l => f l * g (l + 1)) j := by
  rw [sm_front, if_neg (by omega), Int.zero_mul, Int.zero_add]
  exact sm_congr j fun i _ => by rw [if_pos (by omega), Nat.add_sub_cancel]
/-- Powers of powers. -/
theorem pwx_comp {k : Nat} (low : Nat → Int) (hk : 1 ≤ k) : ∀ s n m, m < k → sm (fun l => pwx k low s l * pwx k low (l + n) m) k = pwx k low (s + n) m
  | 0, n, m, hm => by
    rw [sm_one (k := 0) k (by omega) (fun i hi he => by rw [pwx, if_neg he, Int.zero_mul])]
    rw [pwx, if_pos rfl, Int.one_mul, Nat.zero_add]
  | s + 1, n, m, hm => by
    rw [show s + 1 + n = s + (n + 1) by omega, ← pwx_comp low hk s (n + 1) m hm]
    obtain ⟨j, rfl⟩ : ∃ j, k = j + 1 := ⟨k - 1, by omega⟩
    have h1 : sm (fun l => pwx (j + 1) low (s + 1) l * pwx (j + 1) low (l + n) m) (j + 1) =
        sm (fun l => (if 0 < l then pwx (j + 1) low s (l - 1) else 0) * pwx (j + 1) low (l + n) m) (j + 1) - pwx (j + 1) low s j * sm (fun l => low l * pwx (j + 1) low (l + n) m) (j + 1) := by
      rw [← sm_mul, ← sm_sub]
      exact sm_congr _ fun l _ => by rw [pwx_step, Nat.add_sub_cancel, Int.sub_mul, Int.mul_assoc]
    have h2 := pwx_fold low hk n m hm
    have h3 : sm (fun l => low l * pwx (j + 1) low (l + n) m) (j + 1) = - pwx (j + 1) low (j + 1 + n) m := by rw [h2]; omega
    rw [h1, h3, sm_shift (fun l => pwx (j + 1) low s l) (fun l => pwx (j + 1) low (l + n) m) j, Int.mul_neg, sm]
    have h4 : sm (fun l => pwx (j + 1) low s l * pwx (j + 1) low (l + 1 + n) m) j = sm (fun l => pwx (j + 1) low s l * pwx (j + 1) low (l + (n + 1)) m) j := sm_congr j fun l _ => by rw [show l + 1 + n = l + (n + 1) by omega]
    rw [h4, show j + 1 + n = j + (n + 1) by omega]
    omega

/-- The digits of a number. -/
def dgt (p a i : Nat) : Nat := a / p ^ i % p
/-- The number of digits. -/
def num (p : Nat) (v : Nat → Nat) : Nat → Nat
  | 0 => 0
  | k + 1 => num p v k + v k * p ^ k
theorem num_lt {p : Nat} {v : Nat → Nat} : ∀ k, (∀ i, i < k → v i < p) → num p v k < p ^ k
  | 0, _ => by simp [num]
  | k + 1, h => by
    have h1 := num_lt k (fun i hi => h i (by omega))
    have h2 : (v k + 1) * p ^ k ≤ p * p ^ k := Nat.mul_le_mul_right _ (h k (by omega))
    rw [Nat.succ_mul] at h2
    rw [num, Nat.pow_succ, Nat.mul_comm (p ^ k) p]
    omega
theorem num_dgt {p : Nat} (hp : 0 < p) (a : Nat) : ∀ k, num p (dgt p a) k = a % p ^ k
  | 0 => by simp [num, Nat.mod_one]
  | k + 1 => by rw [num, num_dgt hp a k, Nat.mod_pow_succ, dgt, Nat.mul_comm]
theorem num_self {p a k : Nat} (hp : 0 < p) (ha : a < p ^ k) : num p (dgt p a) k = a := by rw [num_dgt hp, Nat.mod_eq_of_lt ha]
theorem dgt_lt {p : Nat} (hp : 0 < p) (a i : Nat) : dgt p a i < p := Nat.mod_lt _ hp
theorem dgt_high {p a k : Nat} (hp : 0 < p) (ha : a < p ^ k) (i : Nat) (hi : k ≤ i) : dgt p a i = 0 := by
  unfold dgt
  rw [Nat.div_eq_of_lt (Nat.lt_of_lt_of_le ha (Nat.pow_le_pow_right hp hi)), Nat.zero_mod]
theorem dgt_num {p : Nat} (hp : 0 < p) {v : Nat → Nat} : ∀ k, (∀ i, i < k → v i < p) → ∀ i, i < k → dgt p (num p v k) i = v i
  | 0, _, i, hi => by omega
  | k + 1, h, i, hi => by
    have hlt := num_lt k (fun i hi => h i (by omega))
    unfold dgt
    rw [num]
    by_cases e : i = k
    · subst e
      rw [Nat.add_mul_div_right _ _ (Nat.pow_pos hp), Nat.div_eq_of_lt hlt, Nat.zero_add, Nat.mod_eq_of_lt (h i hi)]
    · have ih := dgt_num hp k (fun i hi => h i (by omega)) i (by omega)
      unfold dgt at ih
      have e2 : v k * p ^ k = v k * p ^ (k - i - 1) * p * p ^ i := by
        rw [Nat.mul_assoc, Nat.mul_assoc, ← Nat.pow_succ', ← Nat.pow_add, show k - i - 1 + (i + 1) = k by omega]
      rw [e2, Nat.add_mul_div_right _ _ (Nat.pow_pos hp), Nat.add_mul_mod_self_right, ih]
theorem num_congr {p : Nat} {v u : Nat → Nat} : ∀ k, (∀ i, i < k → v i = u i) → num p v k = num p u k
  | 0, _ => rfl
  | k + 1, h => by rw [num, num, num_congr k (fun i hi => h i (by omega)), h k (by omega)]
theorem dgt_ext {p k a b : Nat} (hp : 0 < p) (ha : a < p ^ k) (hb : b < p ^ k) (h : ∀ i, i < k → dgt p a i = dgt p b i) : a = b := by
  rw [← num_self hp ha, ← num_self hp hb]; exact num_congr k h

/-- The sum. -/
def addF (p k a b : Nat) : Nat := num p (fun i => (dgt p a i + dgt p b i) % p) k
/-- What the product has at a place, before it is cut. -/
def prd (p k : Nat) (low : Nat → Int) (a b m : Nat) : Int := sm (fun i => sm (fun j => (dgt p b i : Int) * (dgt p a j : Int) * pwx k low (i + j) m) k) k
/-- The product. -/
def mulF (p k : Nat) (low : Nat → Int) (a b : Nat) : Nat := num p (fun m => (prd p k low a b m % (p : Int)).toNat) k

section
variable {p k : Nat} {low : Nat → Int} (hp : 0 < p) (hk : 1 ≤ k)
include hp

theorem mod_bd (x : Int) : 0 ≤ x % (p : Int) ∧ x % (p : Int) < p := ⟨Int.emod_nonneg _ (by omega), Int.emod_lt_of_pos _ (by omega)⟩
theorem addF_lt (a b : Nat) : addF p k a b < p ^ k := num_lt k fun _ _ => Nat.mod_lt _ hp
theorem mulF_lt (a b : Nat) : mulF p k low a b < p ^ k := num_lt k fun i _ => by have := mod_bd hp (prd p k low a b i); omega
theorem dgt_addF (a b i : Nat) (hi : i < k) : dgt p (addF p k a b) i = (dgt p a i + dgt p b i) % p := dgt_num hp k (fun _ _ => Nat.mod_lt _ hp) i hi
theorem dgt_mulF (a b i : Nat) (hi : i < k) : (dgt p (mulF p k low a b) i : Int) = prd p k low a b i % p := by
  unfold mulF
  rw [dgt_num hp k (fun j _ => by have := mod_bd hp (prd p k low a b j); omega) i hi]
  have := mod_bd hp (prd p k low a b i); omega
theorem cg_add (a b i : Nat) (hi : i < k) : Cg p (dgt p (addF p k a b) i : Nat) ((dgt p a i : Int) + dgt p b i) := by
  rw [dgt_addF hp a b i hi, Int.natCast_emod, Int.natCast_add]; exact Cg.mod _ _
theorem cg_mul (a b i : Nat) (hi : i < k) : Cg p (dgt p (mulF p k low a b) i : Nat) (prd p k low a b i) := by
  rw [dgt_mulF hp a b i hi]; exact Cg.mod _ _
theorem eq_of_cg {a b : Nat} (ha : a < p ^ k) (hb : b < p ^ k) (h : ∀ i, i < k → Cg p (dgt p a i : Nat) (dgt p b i : Nat)) : a = b :=
  dgt_ext hp ha hb fun i hi => by
    have := (h i hi).eq (by omega) (by have := dgt_lt hp a i; omega) (by omega) (by have := dgt_lt hp b i; omega)
    omega

omit hp in
theorem addF_comm (a b : Nat) : addF p k a b = addF p k b a := num_congr k fun i _ => by rw [Nat.add_comm]
theorem addF_assoc (a b c : Nat) : addF p k (addF p k a b) c = addF p k a (addF p k b c) := num_congr k fun i hi => by
  rw [dgt_addF hp a b i hi, dgt_addF hp b c i hi]; simp [Nat.add_assoc]
theorem addF_zero (a : Nat) (ha : a < p ^ k) : addF p k a 0 = a := by
  refine Eq.trans (num_congr k fun i hi => ?_) (num_self hp ha)
  rw [show dgt p 0 i = 0 by simp [dgt], Nat.add_zero, Nat.mod_eq_of_lt (dgt_lt hp a i)]
/-- What is added to 0. -/
def negF (p k a : Nat) : Nat := num p (fun i => (p - dgt p a i) % p) k
theorem negF_lt (a : Nat) : negF p k a < p ^ k := num_lt k fun _ _ => Nat.mod_lt _ hp
theorem addF_neg (a : Nat) : addF p k a (negF p k a) = 0 := by
  refine dgt_ext hp (addF_lt hp _ _) (Nat.pow_pos hp) fun i hi => ?_
  rw [dgt_addF hp _ _ i hi, negF, dgt_num hp k (fun _ _ => Nat.mod_lt _ hp) i hi]
  have := dgt_lt hp a i
  rw [Nat.add_mod_mod, show dgt p a i + (p - dgt p a i) = p by omega, Nat.mod_self]
  simp [dgt]

omit hp in
theorem prd_comm (a b m : Nat) : prd p k low a b m = prd p k low b a m := by
  unfold prd
  rw [sm_swap]
  refine sm_congr k fun i _ => sm_congr k fun j _ => ?_
  rw [Nat.add_comm j i, Int.mul_comm (dgt p b j : Int)]
omit hp in
theorem mulF_comm (a b : Nat) : mulF p k low a b = mulF p k low b a := num_congr k fun m _ => by rw [prd_comm]

/-- Three factors. -/
def prd3 (p k : Nat) (low : Nat → Int) (a b c m : Nat) : Int := sm (fun n => sm (fun i => sm (fun j => (dgt p c n : Int) * ((dgt p b i : Int) * (dgt p a j : Int)) * pwx k low (i + j + n) m) k) k) k
include hk
theorem prd_prd (a b c m : Nat) (hm : m < k) : Cg p (prd p k low (mulF p k low a b) c m) (prd3 p k low a b c m) := by
  refine (Cg.sm k fun n hn => Cg.sm k fun l hl => ((cg_mul (low := low) hp a b l hl).mul_left (dgt p c n : Int)).mul_right (pwx k low (n + l) m)).trans (Cg.of_eq ?_)
  refine sm_congr k fun n _ => ?_
  have h1 : ∀ l, l < k → (dgt p c n : Int) * prd p k low a b l * pwx k low (n + l) m = sm (fun i => sm (fun j => (dgt p c n : Int) * ((dgt p b i : Int) * (dgt p a j : Int)) * (pwx k low (i + j) l * pwx k low (l + n) m)) k) k := fun l _ => by
    unfold prd
    rw [← sm_mul, ← sm_mulr]
    refine sm_congr k fun i _ => ?_
    rw [← sm_mul, ← sm_mulr]
    refine sm_congr k fun j _ => ?_
    rw [Nat.add_comm n l]
    simp only [Int.mul_assoc]
  rw [sm_congr k h1, sm_swap]
  refine sm_congr k fun i _ => ?_
  rw [sm_swap]
  refine sm_congr k fun j _ => ?_
  rw [sm_mul, pwx_comp low hk (i + j) n m hm]
omit hk hp in
theorem prd3_turn (a b c m : Nat) : prd3 p k low a b c m = prd3 p k low b c a m := by
  unfold prd3
  -- n i j : c b a  ->  n' i' j' : a c b
  have e1 : sm (fun n => sm (fun i => sm (fun j => (dgt p c n : Int) * ((dgt p b i : Int) * (dgt p a j : Int)) * pwx k low (i + j + n) m) k) k) k
      = sm (fun n => sm (fun j => sm (fun i => (dgt p c n : Int) * ((dgt p b i : Int) * (dgt p a j : Int)) * pwx k low (i + j + n) m) k) k) k := sm_congr k fun n _ => by rw [sm_swap]
  rw [e1, sm_swap]
  refine sm_congr k fun j _ => sm_congr k fun n _ => sm_congr k fun i _ => ?_
  rw [show n + i + j = i + j + n by omega]
  congr 1
  rw [Int.mul_comm (dgt p a j : Int), Int.mul_assoc]
theorem mulF_assoc (a b c : Nat) : mulF p k low (mulF p k low a b) c = mulF p k low a (mulF p k low b c) := by
  rw [mulF_comm a (mulF p k low b c)]
  refine eq_of_cg hp (mulF_lt hp _ _) (mulF_lt hp _ _) fun m hm => ?_
  refine (cg_mul hp _ _ m hm).trans ((prd_prd hp hk a b c m hm).trans ?_)
  rw [prd3_turn a b c m]
  exact ((cg_mul hp _ _ m hm).trans (prd_prd hp hk b c a m hm)).symm
theorem mulF_one (a : Nat) (ha : a < p ^ k) (h2 : 2 ≤ p) : mulF p k low a 1 = a := by
  refine eq_of_cg hp (mulF_lt hp _ _) ha fun m hm => (cg_mul hp _ _ m hm).trans (Cg.of_eq ?_)
  unfold prd
  have hd : ∀ i, dgt p 1 i = if i = 0 then 1 else 0 := fun i => by
    unfold dgt
    by_cases e : i = 0
    · rw [if_pos e, e, Nat.pow_zero, Nat.div_one, Nat.mod_eq_of_lt (by omega)]
    · rw [if_neg e, Nat.div_eq_of_lt (Nat.one_lt_pow e (by omega)), Nat.zero_mod]
  rw [sm_one (k := 0) k (by omega) (fun i hi he => sm_nil k fun j _ => by rw [hd, if_neg he]; simp)]
  rw [sm_one (k := m) k hm (fun j hj he => by rw [Nat.zero_add, pwx_small low j m hj hm, if_neg (Ne.symm he)]; simp)]
  rw [hd, if_pos rfl, Nat.zero_add, pwx_small low m m hm hm, if_pos rfl]; simp
omit hk
theorem mulF_add (a b c : Nat) : mulF p k low (addF p k a b) c = addF p k (mulF p k low a c) (mulF p k low b c) := by
  refine eq_of_cg hp (mulF_lt hp _ _) (addF_lt hp _ _) fun m hm => (cg_mul hp _ _ m hm).trans ?_
  refine Cg.trans ?_ ((cg_add hp _ _ m hm).trans ((cg_mul hp a c m hm).add (cg_mul hp b c m hm))).symm
  refine (Cg.sm k fun i hi => Cg.sm k fun j hj => ((cg_add hp a b j hj).mul_left (dgt p c i : Int)).mul_right (pwx k low (i + j) m)).trans (Cg.of_eq ?_)
  unfold prd
  rw [← sm_add]
  refine sm_congr k fun i _ => ?_
  rw [← sm_add]
  refine sm_congr k fun j _ => ?_
  rw [Int.mul_add, Int.add_mul]
end

end Go.Proofs.YtjkiaglfefpocaaDoor

/- Blocks of seven ints: the digits of an element. No conditions. -/
namespace Go.Proofs.YtjkiaglfefpocaaDoor
open Go.RowKit

/-- A block of seven ints. -/
def Pol (w : World) (b : Nat) (f : Nat → Int) : Prop := Blk w b #[.int .i64 (f 0), .int .i64 (f 1), .int .i64 (f 2), .int .i64 (f 3), .int .i64 (f 4), .int .i64 (f 5), .int .i64 (f 6)] 105
theorem Pol.at {w : World} {b : Nat} {f : Nat → Int} (h : Pol w b f) : ∀ j, j < 7 → w.cell? ⟨b, j, none⟩ = some (.int .i64 (f j))
  | 0, _ => h.c 0 _ rfl
  | 1, _ => h.c 1 _ rfl
  | 2, _ => h.c 2 _ rfl
  | 3, _ => h.c 3 _ rfl
  | 4, _ => h.c 4 _ rfl
  | 5, _ => h.c 5 _ rfl
  | 6, _ => h.c 6 _ rfl
theorem Pol.f {w : World} {b : Nat} {f : Nat → Int} (h : Pol w b f) (j : Nat) : w.frozen? ⟨b, j, none⟩ = false := Blk.f h j
theorem Pol.lt {w : World} {b : Nat} {f : Nat → Int} (h : Pol w b f) : b < w.heap.size := Blk.lt h
theorem Pol.ext {w w' : World} {b : Nat} {f : Nat → Int} (h : Pol w b f) (hx : Ext w w') : Pol w' b f := Blk.ext h hx
theorem Pol.drewN {w : World} {b : Nat} {f : Nat → Int} (h : Pol w b f) (n : Nat) : Pol (w.drewN n) b f := h
theorem Pol.drew {w : World} {b : Nat} {f : Nat → Int} (h : Pol w b f) : Pol w.drew b f := h
theorem Pol.alloc {w : World} {b : Nat} {f : Nat → Int} (h : Pol w b f) (o : Obj) : Pol (w.alloc o) b f := Blk.alloc h o
theorem Pol.beside {w : World} {b : Nat} {f : Nat → Int} (h : Pol w b f) (a : Addr) (ha : a.block ≠ b) (v : Value) : Pol (w.setCell a v) b f := Blk.beside h a ha v
theorem Pol.new (w : World) (f : Nat → Int) : Pol (w.alloc (.cells #[.int .i64 (f 0), .int .i64 (f 1), .int .i64 (f 2), .int .i64 (f 3), .int .i64 (f 4), .int .i64 (f 5), .int .i64 (f 6)] 105)) w.heap.size f := Blk.new w _ _
theorem Pol.new' (w : World) (f : Nat → Int) {b : Nat} (hb : b = w.heap.size) : Pol (w.alloc (.cells #[.int .i64 (f 0), .int .i64 (f 1), .int .i64 (f 2), .int .i64 (f 3), .int .i64 (f 4), .int .i64 (f 5), .int .i64 (f 6)] 105)) b f := Blk.new' w _ _ hb
theorem Pol.congr {w : World} {b : Nat} {f g : Nat → Int} (h : Pol w b f) (he : ∀ i, i < 7 → f i = g i) : Pol w b g := by
  unfold Pol
  rw [← he 0 (by omega), ← he 1 (by omega), ← he 2 (by omega), ← he 3 (by omega), ← he 4 (by omega), ← he 5 (by omega), ← he 6 (by omega)]
  exact h
theorem Pol.set {w : World} {b : Nat} {f : Nat → Int} (h : Pol w b f) (j : Nat) (hj : j < 7) (v : Int) : Pol (w.setCell ⟨b, j, none⟩ (.int .i64 v)) b (upd f j v) := by
  have h1 := Blk.set h j (.int .i64 v)
  have e : (#[.int .i64 (f 0), .int .i64 (f 1), .int .i64 (f 2), .int .i64 (f 3), .int .i64 (f 4), .int .i64 (f 5), .int .i64 (f 6)] : Array Value).setIfInBounds j (.int .i64 v) = #[.int .i64 ((upd f j v) 0), .int .i64 ((upd f j v) 1), .int .i64 ((upd f j v) 2), .int .i64 ((upd f j v) 3), .int .i64 ((upd f j v) 4), .int .i64 ((upd f j v) 5), .int .i64 ((upd f j v) 6)] := by
    match j, hj with
    | 0, _ => rfl
    | 1, _ => rfl
    | 2, _ => rfl
    | 3, _ => rfl
    | 4, _ => rfl
    | 5, _ => rfl
    | 6, _ => rfl
  rw [e] at h1
  exact h1
theorem Pol.seven {w : World} {b : Nat} {f : Nat → Int} (h : Pol w b f) : w.cell? ⟨b, 0, none⟩ = some (.int .i64 (f 0)) ∧ w.cell? ⟨b, 1, none⟩ = some (.int .i64 (f 1)) ∧ w.cell? ⟨b, 2, none⟩ = some (.int .i64 (f 2)) ∧
    w.cell? ⟨b, 3, none⟩ = some (.int .i64 (f 3)) ∧ w.cell? ⟨b, 4, none⟩ = some (.int .i64 (f 4)) ∧ w.cell? ⟨b, 5, none⟩ = some (.int .i64 (f 5)) ∧ w.cell? ⟨b, 6, none⟩ = some (.int .i64 (f 6)) :=
  ⟨h.at 0 (by omega), h.at 1 (by omega), h.at 2 (by omega), h.at 3 (by omega), h.at 4 (by omega), h.at 5 (by omega), h.at 6 (by omega)⟩

theorem Pol.stored {w : World} {b : Nat} {f : Nat → Int} (h : Pol w b f) (g : Nat → Int) :
    Pol (((((((w.setCell ⟨b, 0, none⟩ (.int .i64 (g 0))).setCell ⟨b, 1, none⟩ (.int .i64 (g 1))).setCell ⟨b, 2, none⟩ (.int .i64 (g 2))).setCell ⟨b, 3, none⟩ (.int .i64 (g 3))).setCell ⟨b, 4, none⟩ (.int .i64 (g 4))).setCell ⟨b, 5, none⟩ (.int .i64 (g 5))).setCell ⟨b, 6, none⟩ (.int .i64 (g 6))) b g := by
  refine (((((((h.set 0 (by omega) (g 0)).set 1 (by omega) (g 1)).set 2 (by omega) (g 2)).set 3 (by omega) (g 3)).set 4 (by omega) (g 4)).set 5 (by omega) (g 5)).set 6 (by omega) (g 6)).congr fun i hi => ?_
  match i, hi with
  | 0, _ => rfl
  | 1, _ => rfl
  | 2, _ => rfl
  | 3, _ => rfl
  | 4, _ => rfl
  | 5, _ => rfl
  | 6, _ => rfl
theorem Ext.stored {a w : World} (h : Ext a w) {b : Nat} (hb : a.heap.size ≤ b) (v0 v1 v2 v3 v4 v5 v6 : Value) :
    Ext a (((((((w.setCell ⟨b, 0, none⟩ v0).setCell ⟨b, 1, none⟩ v1).setCell ⟨b, 2, none⟩ v2).setCell ⟨b, 3, none⟩ v3).setCell ⟨b, 4, none⟩ v4).setCell ⟨b, 5, none⟩ v5).setCell ⟨b, 6, none⟩ v6) :=
  ((((((h.set (p := ⟨b, 0, none⟩) hb _).set (p := ⟨b, 1, none⟩) hb _).set (p := ⟨b, 2, none⟩) hb _).set (p := ⟨b, 3, none⟩) hb _).set (p := ⟨b, 4, none⟩) hb _).set (p := ⟨b, 5, none⟩) hb _).set (p := ⟨b, 6, none⟩) hb _

theorem poly_set (f : Nat → Int) (j : Nat) (hj : j < 7) (v : Int) : ([.int .i64 (f 0), .int .i64 (f 1), .int .i64 (f 2), .int .i64 (f 3), .int .i64 (f 4), .int .i64 (f 5), .int .i64 (f 6)].set j (.int .i64 v) : List Value).toArray = #[.int .i64 ((upd f j v) 0), .int .i64 ((upd f j v) 1), .int .i64 ((upd f j v) 2), .int .i64 ((upd f j v) 3), .int .i64 ((upd f j v) 4), .int .i64 ((upd f j v) 5), .int .i64 ((upd f j v) 6)] := by
  match j, hj with
  | 0, _ => rfl
  | 1, _ => rfl
  | 2, _ => rfl
  | 3, _ => rfl
  | 4, _ => rfl
  | 5, _ => rfl
  | 6, _ => rfl

/-- The primes. -/
def primesL : List Int := [2, 3, 5, 7, 11, 13, 17, 19, 23, 29, 31, 37, 41, 43, 47, 53, 59, 61]
/-- The variable that holds them. -/
def Primes (w : World) : Prop := 0 < w.heap.size ∧ ∀ i, i < 18 → w.cell? ⟨0, i, none⟩ = some (.int .i64 (nth primesL i))
theorem Primes.ext {w w' : World} (h : Primes w) (hx : Ext w w') : Primes w' := ⟨Nat.lt_of_lt_of_le h.1 hx.size, fun i hi => (hx.cell h.1).trans (h.2 i hi)⟩

end Go.Proofs.YtjkiaglfefpocaaDoor

/- What field.digits answers. No conditions. -/
namespace Go.Proofs.YtjkiaglfefpocaaDoor
open Go.RowKit

/-- The digits, as a polynomial. -/
def dgI (p a i : Nat) : Int := (dgt p a i : Nat)
/-- Some of them. -/
def dgU (p a j i : Nat) : Int := if i < j then dgI p a i else 0
theorem dgU_succ (p a j i : Nat) : dgU p a (j + 1) i = upd (dgU p a j) j (dgt p a j : Nat) i := by
  unfold upd dgU dgI
  by_cases e : i = j
  · subst e; rw [if_pos (by omega), if_pos rfl]
  · rw [if_neg e]
    by_cases h : i < j
    · rw [if_pos (by omega), if_pos h]
    · rw [if_neg (by omega), if_neg h]

/-- A round's world. -/
structure DgSt (w wr : World) (p a j : Nat) : Prop where
  ext : Ext w wr
  res : Pol wr w.heap.size (fun _ => 0)
  out : Pol wr (w.heap.size + 1) (dgU p a j)
theorem DgSt.next {w wr : World} {p a j : Nat} (h : DgSt w wr p a j) (hj : j < 7) : DgSt w (wr.setCell ⟨w.heap.size + 1, j, none⟩ (.int .i64 (dgt p a j : Nat))) p a (j + 1) :=
  ⟨h.ext.set (by simp) _, h.res.beside _ (by simp) _, (h.out.set j hj _).congr fun i _ => (dgU_succ p a j i).symm⟩
theorem DgSt.drew {w wr : World} {p a j : Nat} (h : DgSt w wr p a j) : DgSt w wr.drew p a j := ⟨h.ext.drew, h.res.drew, h.out.drew⟩

set_option maxHeartbeats 4000000 in
theorem digits_any (p a : Nat) (w : World) (h2 : 2 ≤ p) (h61 : p ≤ 61) (ha : a < 128) :
    Calls Tryd.prog 77 #[.int .i64 p, .int .i64 a] w fun e w' => e = .returned (.agg #[.int .i64 ((dgI p a) 0), .int .i64 ((dgI p a) 1), .int .i64 ((dgI p a) 2), .int .i64 ((dgI p a) 3), .int .i64 ((dgI p a) 4), .int .i64 ((dgI p a) 5), .int .i64 ((dgI p a) 6)]) ∧ Ext w w' := by
  have H0 : Hid (DgSt w ((w.alloc (.cells #[.int .i64 0, .int .i64 0, .int .i64 0, .int .i64 0, .int .i64 0, .int .i64 0, .int .i64 0] 105)).alloc (.cells #[.int .i64 0, .int .i64 0, .int .i64 0, .int .i64 0, .int .i64 0, .int .i64 0, .int .i64 0] 105)) p a 0) :=
    ⟨((Ext.refl w).alloc _).alloc _, Pol.alloc (Pol.new w (fun _ => 0)) _, Pol.congr (f := fun _ => 0) (Pol.new' (w.alloc (.cells #[.int .i64 0, .int .i64 0, .int .i64 0, .int .i64 0, .int .i64 0, .int .i64 0, .int .i64 0] 105)) (fun _ => 0) (b := w.heap.size + 1) (by rw [World.size_alloc])) fun i _ => by show (0 : Int) = dgU p a 0 i; unfold dgU; rw [if_neg (by omega)]⟩
  go_enter Tryd.func77, Tryd.ntmps77
  go_wp2
  obtain ⟨w0, hw0⟩ : ∃ w0, w0 = (w.alloc (.cells #[.int .i64 0, .int .i64 0, .int .i64 0, .int .i64 0, .int .i64 0, .int .i64 0, .int .i64 0] 105)).alloc (.cells #[.int .i64 0, .int .i64 0, .int .i64 0, .int .i64 0, .int .i64 0, .int .i64 0, .int .i64 0] 105) := ⟨_, rfl⟩
  rw [← hw0] at H0 ⊢
  clear hw0
  go_loopw [1, 6] (fun n i wr => ∃ j A : Nat, j ≤ 7 ∧ i = .int .i64 j ∧ n = .int .i64 A ∧ A < 128 ∧ Hid (A = a / p ^ j) ∧ DgSt w wr p a j) (fun n _ _ => (intOf n).toNat)
  case atStart => exact ⟨0, a, by omega, rfl, rfl, ha, by show _ = _; simp, H0.out⟩
  case round =>
    obtain ⟨j, A, hj, rfl, rfl, hA, HA, hst⟩ := hrel
    have HS := Lib.hid hst
    clear hst H0
    by_cases hA0 : 0 < A
    · have hj7 : j < 7 := by
        rcases Nat.lt_or_ge j 7 with h | h
        · exact h
        · exfalso
          have h1 : 2 ^ 7 ≤ p ^ j := Nat.le_trans (Nat.pow_le_pow_left h2 7) (Nat.pow_le_pow_right (by omega) h)
          have h3 := HA.out
          rw [Nat.div_eq_of_lt (by omega)] at h3
          omega
      obtain ⟨d, hd⟩ : ∃ d, A % p = d := ⟨_, rfl⟩
      obtain ⟨B, hB⟩ : ∃ B, A / p = B := ⟨_, rfl⟩
      have hd' : (A : Int) % p = d := by rw [← hd]; simp
      have hB' : (A : Int) / p = B := by rw [← hB]; simp
      have hBA : B < A := by rw [← hB]; exact Nat.div_lt_self hA0 h2
      have HB : Hid (B = a / p ^ (j + 1)) := by show _ = _; rw [← hB, HA.out, Nat.div_div_eq_div_mul, Nat.pow_succ]
      have HN : Hid (DgSt w (wr.setCell ⟨w.heap.size + 1, j, none⟩ (.int .i64 (d : Nat))) p a (j + 1)) := by
        rw [← hd, HA.out]; exact HS.out.next hj7
      have k1 := HS.out.out.at j hj7
      have k2 := HS.out.out.f j
      have hp1 : (0 : Int) ≤ (j : Int) := by omega
      have hp2 : (j : Int) < 7 := by omega
      clear hd hB
      obtain ⟨wo, rfl⟩ : ∃ wo : World, wo = wr := ⟨_, rfl⟩
      go_wp2
      go_region
      all_goals
        go_wp2
        exact ⟨⟨j + 1, B, by omega, by go_num, rfl, by omega, HB, HN.out.drew⟩, by simp [intOf]; omega⟩
    · obtain rfl : A = 0 := by omega
      have HF : Hid (Pol wr (w.heap.size + 1) (dgI p a)) := HS.out.out.congr fun i hi => by
        unfold dgU
        by_cases h : i < j
        · rw [if_pos h]
        · rw [if_neg h]
          unfold dgI dgt
          have h1 := HA.out
          have h3 : a / p ^ i = 0 := by
            have : a < p ^ j := by
              rcases Nat.lt_or_ge a (p ^ j) with h4 | h4
              · exact h4
              · have := Nat.div_pos h4 (Nat.pow_pos (by omega)); omega
            exact Nat.div_eq_of_lt (Nat.lt_of_lt_of_le this (Nat.pow_le_pow_right (by omega) (by omega)))
          rw [h3]; simp
      have k1 := HF.out.seven
      have k2 := HS.out.res.seven
      have k3 := HS.out.res.f
      have HR := Lib.hid (HS.out.res.stored (dgI p a))
      have HX : Hid (Ext w _) := HS.out.ext.stored (b := w.heap.size) (Nat.le_refl _) (.int .i64 (dgI p a 0)) (.int .i64 (dgI p a 1)) (.int .i64 (dgI p a 2)) (.int .i64 (dgI p a 3)) (.int .i64 (dgI p a 4)) (.int .i64 (dgI p a 5)) (.int .i64 (dgI p a 6))
      go_wp2
      have k4 := HR.out.seven
      exact bodyPost_ret (v := .agg #[.int .i64 ((dgI p a) 0), .int .i64 ((dgI p a) 1), .int .i64 ((dgI p a) 2), .int .i64 ((dgI p a) 3), .int .i64 ((dgI p a) 4), .int .i64 ((dgI p a) 5), .int .i64 ((dgI p a) 6)]) (by simp [results, Tryd.results77, go_sem, k4]) rfl ⟨rfl, HX.out⟩

end Go.Proofs.YtjkiaglfefpocaaDoor
