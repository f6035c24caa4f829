/- Inverses in the fields of up to 64 elements. Plain but for the words of the walk. -/
import Derived.Test.YtnhdngnolepkcaaDoorJpipkoabajk
namespace Go.Proofs.YtnhdngnolepkcaaDoor
open Go.RowKit

/-- A factor of degree 1, times. -/
def stepG (p k l s t c : Nat) : Nat := num p (fun m => (s * ((if 0 < m then dgt p c (m - 1) else 0) + (p - dgt p c (k - 1)) * dgt p l m) + t * dgt p c m) % p) k
/-- A number that is reckoned first. -/
def frc {α : Type} (n : Nat) (h : Nat → α) : α := match n with | 0 => h 0 | m + 1 => h (m + 1)
theorem frc_eq {α : Type} (n : Nat) (h : Nat → α) : frc n h = h n := by cases n <;> rfl
/-- The powers that are met, a bit for each. -/
def cov (f : Nat → Nat) : Nat → Nat → Nat → Nat
  | 0, c, m => if c = 1 then m else 0
  | n + 1, c, m => frc (f c) fun c' => frc (m ||| 1 <<< c) fun m' => cov f n c' m'
def itr (f : Nat → Nat) : Nat → Nat → Nat
  | 0, c => c
  | n + 1, c => f (itr f n c)
theorem itr_front (f : Nat → Nat) : ∀ n c, itr f (n + 1) c = itr f n (f c)
  | 0, _ => rfl
  | n + 1, c => by rw [itr, itr_front f n c]; rfl
theorem cov_bit (f : Nat → Nat) (a : Nat) : ∀ n c m, (cov f n c m).testBit a = true → itr f n c = 1 ∧ (m.testBit a = true ∨ ∃ i, i < n ∧ itr f i c = a)
  | 0, c, m, h => by
    unfold cov at h
    by_cases e : c = 1
    · rw [if_pos e] at h; exact ⟨e, .inl h⟩
    · rw [if_neg e] at h; simp at h
  | n + 1, c, m, h => by
    unfold cov at h
    rw [frc_eq, frc_eq] at h
    obtain ⟨h1, h2⟩ := cov_bit f a n (f c) _ h
    refine ⟨by rw [itr_front]; exact h1, ?_⟩
    rcases h2 with h2 | ⟨i, hi, e⟩
    · rw [Nat.testBit_or, Bool.or_eq_true] at h2
      rcases h2 with h2 | h2
      · exact .inl h2
      · refine .inr ⟨0, by omega, ?_⟩
        rw [Nat.one_shiftLeft, Nat.testBit_two_pow] at h2
        exact of_decide_eq_true h2
    · exact .inr ⟨i + 1, by omega, by rw [itr_front]; exact e⟩

/-- Do the powers of one element of degree 1 meet all? -/
def genOk (p k l : Nat) : Bool := (List.range p).any fun s => (List.range p).any fun t => cov (stepG p k l s t) (p ^ k - 1) 1 0 == 2 ^ (p ^ k) - 2
def genAll (p k : Nat) : Bool := (List.range (p ^ k)).all fun l => genOk p k l || !irrF p k (dgI p l)
theorem gen22 : genAll 2 2 = true := by decide +kernel
theorem gen23 : genAll 2 3 = true := by decide +kernel
theorem gen24 : genAll 2 4 = true := by decide +kernel
theorem gen25 : genAll 2 5 = true := by decide +kernel
theorem gen26 : genAll 2 6 = true := by decide +kernel
theorem gen32 : genAll 3 2 = true := by decide +kernel
theorem gen33 : genAll 3 3 = true := by decide +kernel
theorem gen52 : genAll 5 2 = true := by decide +kernel
theorem gen72 : genAll 7 2 = true := by decide +kernel

def oneInv (p : Nat) : Bool := !primeF (p : Nat) || (List.range p).all fun a => a == 0 || (List.range p).any fun b => a * b % p == 1
theorem oneInv_all : ∀ p, p < 62 → oneInv p = true := by decide +kernel
def powAll : Bool := (List.range 62).all fun p => (List.range 7).all fun k => !(primeF (p : Nat) && decide (2 ≤ k) && decide (p ^ k ≤ 64)) || ((p == 2) || ((p == 3) && decide (k ≤ 3)) || ((p == 5) && (k == 2)) || ((p == 7) && (k == 2)))
theorem powAll_true : powAll = true := by decide +kernel
theorem pow_cases (p : Nat) (hp : p < 62) (k : Nat) (hk : k < 7) (h1 : primeF (p : Nat) = true) (h2 : 2 ≤ k) (h3 : p ^ k ≤ 64) : p = 2 ∨ p = 3 ∧ k ≤ 3 ∨ p = 5 ∧ k = 2 ∨ p = 7 ∧ k = 2 := by
  have h := powAll_true
  unfold powAll at h
  rw [List.all_eq_true] at h
  have h := h p (List.mem_range.2 hp)
  rw [List.all_eq_true] at h
  have h := h k (List.mem_range.2 hk)
  rw [h1, decide_eq_true h2, decide_eq_true h3] at h
  simp only [Bool.and_self, Bool.not_true, Bool.false_or, Bool.or_eq_true, Bool.and_eq_true, beq_iff_eq, decide_eq_true_eq] at h
  omega

theorem gen_all {p k : Nat} (hp : p < 62) (hk : k < 7) (h1 : primeF (p : Nat) = true) (h2 : 2 ≤ k) (h3 : p ^ k ≤ 64) : genAll p k = true := by
  have hk1 : k = 2 ∨ k = 3 ∨ k = 4 ∨ k = 5 ∨ k = 6 := by omega
  rcases pow_cases p hp k hk h1 h2 h3 with rfl | ⟨rfl, h⟩ | ⟨rfl, rfl⟩ | ⟨rfl, rfl⟩
  · rcases hk1 with rfl | rfl | rfl | rfl | rfl
    · exact gen22
    · exact gen23
    · exact gen24
    · exact gen25
    · exact gen26
  · have : k = 2 ∨ k = 3 := by omega
    rcases this with rfl | rfl
    · exact gen32
    · exact gen33
  · exact gen52
  · exact gen72

/-- The code of the lower places. -/
theorem low_code {p k : Nat} {low : List Int} (hp : 0 < p) (hl : low.length = k) (hd : Dig p (nth low)) : ∃ l, l < p ^ k ∧ nth low = dgI p l := by
  have hb : ∀ i, i < k → (nth low i).toNat < p := fun i _ => by have := hd i; omega
  refine ⟨num p (fun m => (nth low m).toNat) k, num_lt k hb, funext fun m => ?_⟩
  unfold dgI
  by_cases hm : m < k
  · rw [dgt_num hp k hb m hm]; have := hd m; omega
  · rw [dgt_high hp (num_lt k hb) m (by omega)]
    unfold nth
    rw [List.getD_eq_getElem?_getD, List.getElem?_eq_none (by omega)]; rfl

/-- A step is a product. -/
theorem stepG_mul {p k l s t : Nat} (h2 : 2 ≤ p) (hk : 2 ≤ k) (hs : s < p) (ht : t < p) (c : Nat) : stepG p k l s t c = mulF p k (dgI p l) c (s * p + t) := by
  have hp : 0 < p := by omega
  have d0 : dgt p (s * p + t) 0 = t := by unfold dgt; rw [Nat.pow_zero, Nat.div_one, Nat.mul_comm, Nat.mul_add_mod, Nat.mod_eq_of_lt ht]
  have d1 : dgt p (s * p + t) 1 = s := by
    unfold dgt
    rw [Nat.pow_one, Nat.mul_comm, Nat.mul_add_div hp, Nat.div_eq_of_lt ht, Nat.add_zero, Nat.mod_eq_of_lt hs]
  have hlt : s * p + t < p ^ 2 := by
    rw [Nat.pow_two]
    have : (s + 1) * p ≤ p * p := Nat.mul_le_mul_right p (by omega)
    rw [Nat.add_mul] at this
    omega
  have d2 : ∀ i, 2 ≤ i → dgt p (s * p + t) i = 0 := fun i hi => dgt_high hp hlt i hi
  unfold stepG mulF
  refine num_congr k fun m hm => ?_
  have hprd : prd p k (dgI p l) c (s * p + t) m = (t : Int) * dgt p c m + s * ((if 0 < m then (dgt p c (m - 1) : Int) else 0) - dgt p c (k - 1) * dgI p l m) := by
    unfold prd
    obtain ⟨j, rfl⟩ : ∃ j, k = 2 + j := ⟨k - 2, by omega⟩
    have hz : sm (fun i => sm (fun j' => (dgt p (s * p + t) i : Int) * (dgt p c j' : Int) * pwx (2 + j) (dgI p l) (i + j') m) (2 + j)) (2 + j) =
        sm (fun i => sm (fun j' => (dgt p (s * p + t) i : Int) * (dgt p c j' : Int) * pwx (2 + j) (dgI p l) (i + j') m) (2 + j)) 2 := by
      have key : ∀ n, sm (fun i => sm (fun j' => (dgt p (s * p + t) i : Int) * (dgt p c j' : Int) * pwx (2 + j) (dgI p l) (i + j') m) (2 + j)) (2 + n) = sm (fun i => sm (fun j' => (dgt p (s * p + t) i : Int) * (dgt p c j' : Int) * pwx (2 + j) (dgI p l) (i + j') m) (2 + j)) 2 := by
        intro n
        induction n with
        | zero => rfl
        | succ n ih =>
          rw [show 2 + (n + 1) = (2 + n) + 1 by omega, sm, ih, sm_nil (2 + j) (fun j' _ => by rw [d2 (2 + n) (by omega)]; simp)]
          omega
      exact key j
    rw [hz]
    show 0 + sm _ _ + sm _ _ = _
    rw [d0, d1, Int.zero_add]
    have e0 : sm (fun j' => (t : Int) * (dgt p c j' : Int) * pwx (2 + j) (dgI p l) (0 + j') m) (2 + j) = t * dgt p c m := by
      rw [sm_one (k := m) _ hm (fun i hi he => by rw [Nat.zero_add, pwx_small _ i m hi hm, if_neg (Ne.symm he), Int.mul_zero]), Nat.zero_add, pwx_small _ m m hm hm, if_pos rfl, Int.mul_one]
    have e1 : sm (fun j' => (s : Int) * (dgt p c j' : Int) * pwx (2 + j) (dgI p l) (1 + j') m) (2 + j) = s * ((if 0 < m then (dgt p c (m - 1) : Int) else 0) - dgt p c (2 + j - 1) * dgI p l m) := by
      have e2 : sm (fun j' => (s : Int) * (dgt p c j' : Int) * pwx (2 + j) (dgI p l) (1 + j') m) (2 + j) = s * sm (fun j' => (dgt p c j' : Int) * pwx (2 + j) (dgI p l) (j' + 1) m) (2 + j) := by
        rw [← sm_mul]; exact sm_congr _ fun i _ => by rw [Int.mul_assoc, Nat.add_comm 1 i]
      rw [e2, sum_step (k := 2 + j) (dgI p l) (fun j' => (dgt p c j' : Int)) (fun j' => j') (2 + j) m]
      have f0 : ∀ x, x < 2 + j → sm (fun j' => (dgt p c j' : Int) * pwx (2 + j) (dgI p l) j' x) (2 + j) = dgt p c x := fun x hx => by
        rw [sm_one (k := x) _ hx (fun i hi he => by rw [pwx_small _ i x hi hx, if_neg (Ne.symm he), Int.mul_zero]), pwx_small _ x x hx hx, if_pos rfl, Int.mul_one]
      rw [f0 (2 + j - 1) (by omega)]
      by_cases h0 : 0 < m
      · rw [if_pos h0, if_pos h0, f0 (m - 1) (by omega)]
      · rw [if_neg h0, if_neg h0]
    rw [e0, e1]
  rw [hprd]
  have hle := dgt_lt hp c (k - 1)
  have hcast : ((s * ((if 0 < m then dgt p c (m - 1) else 0) + (p - dgt p c (k - 1)) * dgt p l m) + t * dgt p c m : Nat) : Int) = ((t : Int) * dgt p c m + s * ((if 0 < m then (dgt p c (m - 1) : Int) else 0) - dgt p c (k - 1) * dgI p l m)) + p * (s * dgI p l m) := by
    have hif : ((if 0 < m then dgt p c (m - 1) else 0 : Nat) : Int) = if 0 < m then (dgt p c (m - 1) : Int) else 0 := by split <;> rfl
    rw [Int.natCast_add, Int.natCast_mul, Int.natCast_add, hif, Int.natCast_mul, Int.natCast_sub (Nat.le_of_lt hle), Int.natCast_mul]
    unfold dgI
    generalize (if 0 < m then (dgt p c (m - 1) : Int) else 0) = x
    generalize (dgt p c (k - 1) : Int) = y
    generalize (dgt p l m : Int) = z
    generalize (t : Int) * (dgt p c m : Int) = u
    rw [Int.sub_mul, Int.mul_add, Int.mul_sub, Int.mul_sub, Int.mul_left_comm (p : Int)]
    omega
  have := congrArg (fun x : Int => (x % (p : Int)).toNat) hcast
  simp only [Int.add_mul_emod_self_left] at this
  rw [← this]
  rw [← Int.natCast_emod]
  rfl

theorem one_lt_pow' {p k : Nat} (h2 : 2 ≤ p) (hk : 1 ≤ k) : 2 ≤ p ^ k := by
  have := Nat.pow_le_pow_right (n := p) (by omega) hk
  rw [Nat.pow_one] at this
  omega

theorem dgt_small {p a : Nat} (ha : a < p) : dgt p a 0 = a := by unfold dgt; rw [Nat.pow_zero, Nat.div_one, Nat.mod_eq_of_lt ha]

/-- What is not 0 has an inverse. -/
theorem field_inv {p k : Nat} {low : List Int} (hF : IsField p k low) {a : Nat} (h0 : a ≠ 0) (ha : a < p ^ k) : ∃ b, b < p ^ k ∧ mulF p k (nth low) a b = 1 := by
  have h2 := hF.p2
  have hp : 0 < p := by omega
  have h61 := hF.p61
  by_cases hk : 2 ≤ k
  · obtain ⟨l, hl, e⟩ := low_code hp hF.len hF.dig
    have hg := gen_all (by omega) (by have := hF.k6; omega) hF.prime hk hF.big
    unfold genAll at hg
    rw [List.all_eq_true] at hg
    have hg := hg l (List.mem_range.2 hl)
    rw [← e, hF.irr, Bool.not_true, Bool.or_false] at hg
    unfold genOk at hg
    rw [List.any_eq_true] at hg
    obtain ⟨s, hs, hg⟩ := hg
    rw [List.any_eq_true] at hg
    obtain ⟨t, ht, hg⟩ := hg
    have hs := List.mem_range.1 hs
    have ht := List.mem_range.1 ht
    rw [beq_iff_eq] at hg
    have hq2 := one_lt_pow' h2 hF.k1
    have hbit : ∀ a, a ≠ 0 → a < p ^ k → (2 ^ (p ^ k) - 2 : Nat).testBit a = true := fun a h0 ha => by
      obtain ⟨q, hq⟩ : ∃ q, p ^ k = q + 1 := ⟨p ^ k - 1, by omega⟩
      rw [hq] at ha ⊢
      obtain ⟨b, rfl⟩ : ∃ b, a = b + 1 := ⟨a - 1, by omega⟩
      have : 2 ^ (q + 1) - 2 = 2 * (2 ^ q - 1) := by rw [Nat.pow_succ]; omega
      rw [this, Nat.testBit_succ, Nat.mul_div_cancel_left _ (by omega)]
      rw [Nat.testBit_two_pow_sub_one]
      exact decide_eq_true (by omega)
    have hcov : ∀ a, a ≠ 0 → a < p ^ k → itr (stepG p k l s t) (p ^ k - 1) 1 = 1 ∧ ∃ i, i < p ^ k - 1 ∧ itr (stepG p k l s t) i 1 = a := fun a h0 ha => by
      have hb := hbit a h0 ha
      rw [← hg] at hb
      obtain ⟨g1, g2⟩ := cov_bit _ a _ _ _ hb
      refine ⟨g1, ?_⟩
      rcases g2 with g2 | g2
      · simp at g2
      · exact g2
    have hst : ∀ n, itr (stepG p k l s t) (n + 1) 1 = mulF p k (nth low) (itr (stepG p k l s t) n 1) (s * p + t) := fun n => by
      rw [itr, stepG_mul h2 hk hs ht, e]
    have hlt : ∀ n, itr (stepG p k l s t) n 1 < p ^ k := fun n => by
      cases n with
      | zero => show 1 < p ^ k; omega
      | succ n => rw [hst]; exact mulF_lt hp _ _
    have hadd : ∀ j i, itr (stepG p k l s t) (i + j) 1 = mulF p k (nth low) (itr (stepG p k l s t) i 1) (itr (stepG p k l s t) j 1) := fun j => by
      induction j with
      | zero => intro i; exact (mulF_one hp hF.k1 _ (hlt i) h2).symm
      | succ j ih =>
        intro i
        rw [← Nat.add_assoc, hst, ih, hst, mulF_assoc hp hF.k1]
    obtain ⟨g1, i, hi, rfl⟩ := hcov a h0 ha
    refine ⟨itr (stepG p k l s t) (p ^ k - 1 - i) 1, hlt _, ?_⟩
    rw [← hadd, show i + (p ^ k - 1 - i) = p ^ k - 1 by omega]
    exact g1
  · obtain rfl : k = 1 := by have := hF.k1; omega
    rw [Nat.pow_one] at ha ⊢
    have ho := oneInv_all p (by omega)
    unfold oneInv at ho
    rw [hF.prime, Bool.not_true, Bool.false_or, List.all_eq_true] at ho
    have ho := ho a (List.mem_range.2 ha)
    rw [Bool.or_eq_true, beq_iff_eq, List.any_eq_true] at ho
    rcases ho with ho | ⟨b, hb, ho⟩
    · exact absurd ho h0
    · rw [beq_iff_eq] at ho
      have hb := List.mem_range.1 hb
      refine ⟨b, hb, ?_⟩
      unfold mulF num num prd sm sm sm
      rw [dgt_small ha, dgt_small hb]
      simp only [pwx, if_true, Int.zero_add, Int.mul_one, Nat.zero_add]
      have : ((b : Int) * (a : Int) % (p : Int)).toNat = 1 := by
        rw [Int.mul_comm, ← Int.natCast_mul, ← Int.natCast_emod, ho]; rfl
      simp [this]

/-- A product of what is not 0 is not 0. -/
theorem mulF_ne {p k : Nat} {low : List Int} (hF : IsField p k low) {a b : Nat} (ha : a ≠ 0) (hb : b ≠ 0) (hap : a < p ^ k) (hbp : b < p ^ k) : mulF p k (nth low) a b ≠ 0 := by
  intro h
  have hp : 0 < p := by have := hF.p2; omega
  obtain ⟨c, hc, e⟩ := field_inv hF ha hap
  have hz : ∀ x, mulF p k (nth low) 0 x = 0 := fun x => by
    refine dgt_ext hp (mulF_lt hp _ _) (Nat.pow_pos hp) fun i hi => ?_
    have h3 : (dgt p (mulF p k (nth low) 0 x) i : Int) = 0 := by
      rw [dgt_mulF hp 0 x i hi]
      unfold prd
      rw [sm_nil k (fun j _ => sm_nil k fun j' _ => by simp [dgt])]
      simp
    rw [show dgt p 0 i = 0 by simp [dgt]]
    omega
  have h1 : mulF p k (nth low) c (mulF p k (nth low) a b) = b := by
    rw [← mulF_assoc hp hF.k1, mulF_comm c a, e, mulF_comm, mulF_one hp hF.k1 b hbp hF.p2]
  rw [h, mulF_comm, hz] at h1
  exact hb h1.symm

end Go.Proofs.YtnhdngnolepkcaaDoor
