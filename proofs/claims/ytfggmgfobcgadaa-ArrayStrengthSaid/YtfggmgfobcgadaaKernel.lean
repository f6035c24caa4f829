/- Runs are as many as Rao says: the sums; plain. -/
import Derived.Test.YtfggmgfobcgadaaDownLaw
import Derived.Test.YtfggmgfobcgadaaRank
namespace Go.Proofs.Ytfggmgfobcgadaa
open Go.RowKit Go.Maps

theorem sumN_nonneg {f : Nat → Int} : ∀ {n : Nat}, (∀ y, y < n → 0 ≤ f y) → 0 ≤ sumN f n
  | 0, _ => Int.le_refl _
  | n + 1, h => by
    have h1 := sumN_nonneg (n := n) (f := f) (fun y hy => h y (by omega))
    have h2 := h n (by omega)
    rw [sumN]; omega
theorem sumN_ge {f : Nat → Int} {n v : Nat} (hf : ∀ y, y < n → 0 ≤ f y) (hv : v < n) : f v ≤ sumN f n := by
  have h := sumN_nonneg (n := n) (f := fun y => f y + -1 * (f y * (if y = v then 1 else 0))) (fun y hy => by
    have := hf y hy
    show 0 ≤ f y + -1 * (f y * (if y = v then 1 else 0))
    by_cases e : y = v
    · rw [if_pos e]; omega
    · rw [if_neg e]; omega)
  rw [sumN_add, sumN_mul, sumN_delta, if_pos hv] at h
  omega

/-- A product over the columns from j on. -/
def prodF (f : Nat → Int) : Nat → Nat → Int
  | _, 0 => 1
  | j, c + 1 => f j * prodF f (j + 1) c
theorem prodF_congr {f g : Nat → Int} : ∀ (c j : Nat), (∀ q, j ≤ q → q < j + c → f q = g q) → prodF f j c = prodF g j c
  | 0, _, _ => rfl
  | c + 1, j, h => by rw [prodF, prodF, h j (by omega) (by omega), prodF_congr c (j + 1) (fun q h1 h2 => h q (by omega) (by omega))]
theorem prodF_mul (f g : Nat → Int) : ∀ (c j : Nat), prodF (fun q => f q * g q) j c = prodF f j c * prodF g j c
  | 0, _ => rfl
  | c + 1, j => by simp only [prodF]; rw [prodF_mul f g c (j + 1)]; grind
theorem prodF_zero {f : Nat → Int} : ∀ (c j q : Nat), j ≤ q → q < j + c → f q = 0 → prodF f j c = 0
  | 0, j, q, h1, h2, _ => by omega
  | c + 1, j, q, h1, h2, h => by
    rw [prodF]
    by_cases e : q = j
    · subst e; rw [h]; simp
    · rw [prodF_zero c (j + 1) q (by omega) (by omega) h]; simp
/-- How many columns from j on count. -/
def supp (p : Nat → Bool) : Nat → Nat → Nat
  | _, 0 => 0
  | j, c + 1 => (if p j = true then 1 else 0) + supp p (j + 1) c
theorem supp_le {p p' : Nat → Bool} (h : ∀ q, p q = true → p' q = true) : ∀ (c j : Nat), supp p j c ≤ supp p' j c
  | 0, _ => Nat.le_refl _
  | c + 1, j => by
    have ih := supp_le h c (j + 1)
    rw [supp, supp]
    by_cases e : p j = true
    · rw [if_pos e, if_pos (h j e)]; omega
    · rw [if_neg e]; omega
theorem supp_or_and (p p' : Nat → Bool) : ∀ (c j : Nat), supp (fun q => p q || p' q) j c + supp (fun q => p q && p' q) j c = supp p j c + supp p' j c
  | 0, _ => rfl
  | c + 1, j => by
    have ih := supp_or_and p p' c (j + 1)
    simp only [supp]
    by_cases e1 : p j = true <;> by_cases e2 : p' j = true <;> simp [e1, e2] <;> omega
theorem supp_pos {p : Nat → Bool} : ∀ (c j q : Nat), j ≤ q → q < j + c → p q = true → 1 ≤ supp p j c
  | 0, j, q, h1, h2, _ => by omega
  | c + 1, j, q, h1, h2, h => by
    rw [supp]
    by_cases e : q = j
    · subst e; rw [if_pos h]; omega
    · have := supp_pos c (j + 1) q (by omega) (by omega) h; omega
theorem prodF_pow {p : Nat → Bool} (z : Int) : ∀ (c j : Nat), prodF (fun q => if p q = true then z else 1) j c = z ^ supp p j c
  | 0, _ => by simp [prodF, supp]
  | c + 1, j => by
    simp only [prodF, supp]
    rw [prodF_pow z c (j + 1)]
    by_cases e : p j = true
    · rw [if_pos e, if_pos e, Nat.add_comm 1, Int.pow_succ]; grind
    · rw [if_neg e, if_neg e]; simp

theorem ones_supp : ∀ k, k < 9 → ∀ C, C < 2 ^ k → onesOf C = supp (inSet C) 0 k := by decide +kernel
theorem set_add : ∀ j, j < 8 → ∀ T, T < 2 ^ j → onesOf (T + 2 ^ j) = onesOf T + 1 ∧ ∀ q, q < 8 → inSet (T + 2 ^ j) q = (inSet T q || q == j) := by decide +kernel

/-- Do two runs agree in a column, in a set? -/
def dl (x r : List Int) (q : Nat) : Int := if nth r q = nth x q then 1 else 0
def agr (T : Nat) (x r : List Int) : Int := if keyOf8 T r = keyOf8 T x then 1 else 0
theorem agr_add {T j k : Nat} {x r : List Int} (hk : k ≤ 8) (hj : j < k) (hT : T < 2 ^ j) (hx : x.length = k) (hr : r.length = k) : agr (T + 2 ^ j) x r = agr T x r * dl x r j := by
  obtain ⟨_, f2⟩ := set_add j (by omega) T hT
  have h : keyOf8 (T + 2 ^ j) r = keyOf8 (T + 2 ^ j) x ↔ keyOf8 T r = keyOf8 T x ∧ nth r j = nth x j := by
    rw [key_agree hk hr hx, key_agree hk hr hx]
    constructor
    · intro h
      exact ⟨fun q hq hs => h q hq (by rw [f2 q (by omega), hs]; rfl), h j hj (by rw [f2 j (by omega)]; simp)⟩
    · rintro ⟨h1, h2⟩ q hq hs
      rw [f2 q (by omega), Bool.or_eq_true, beq_iff_eq] at hs
      rcases hs with hs | hs
      · exact h1 q hq hs
      · rw [hs]; exact h2
  unfold agr dl
  by_cases h1 : keyOf8 T r = keyOf8 T x <;> by_cases h2 : nth r j = nth x j <;> simp [h, h1, h2]
theorem agr_zero (x r : List Int) (h : x.length = r.length) (hk : r.length ≤ 8) : agr 0 x r = 1 := by
  unfold agr
  rw [if_pos]
  rw [key_agree hk rfl h]
  intro q _ hs
  have : inSet 0 q = false := by unfold inSet; simp
  rw [this] at hs; simp at hs
theorem cnt_sumN (xss : List (List Int)) (T : Nat) (x : List Int) : ∀ n, (cntUp xss T (keyOf8 T x) n : Int) = sumN (fun r => agr T x (row xss r)) n
  | 0 => rfl
  | n + 1 => by
    rw [cntUp, sumN, ← cnt_sumN xss T x n]
    unfold agr
    by_cases h : keyOf8 T (row xss n) = keyOf8 T x <;> simp [h]

/-- The mean of a product. -/
theorem expect {S t k : Nat} {xss : List (List Int)} (hR : IsRuns S xss) (hk : (row xss 0).length = k) (hs : StrengthIs S xss t) {i0 : Nat} (hi0 : i0 < xss.length) (a b : Nat → Int) :
    ∀ c j T, j + c = k → T < 2 ^ j → onesOf T + supp (fun q => a q != 0) j c ≤ t →
      (S : Int) ^ onesOf T * sumN (fun r => agr T (row xss i0) (row xss r) * prodF (fun q => S * a q * dl (row xss i0) (row xss r) q + b q) j c) xss.length = xss.length * prodF (fun q => a q + b q) j c
  | 0, j, T, hj, hT, hsup => by
    have hk8 := hR.k8
    rw [hk] at hk8
    have e : sumN (fun r => agr T (row xss i0) (row xss r) * prodF (fun q => S * a q * dl (row xss i0) (row xss r) q + b q) j 0) xss.length = sumN (fun r => agr T (row xss i0) (row xss r)) xss.length :=
      sumN_congr fun r _ => by rw [prodF, Int.mul_one]
    rw [e, ← cnt_sumN, prodF, Int.mul_one]
    by_cases h0 : onesOf T = 0
    · have h1 : ∀ T, T < 256 → onesOf T = 0 → T = 0 := by decide +kernel
      have hT0 : T = 0 := h1 T (by have : 2 ^ j ≤ 2 ^ 8 := Nat.pow_le_pow_right (by omega) (by omega); omega) h0
      subst hT0
      rw [h0, Int.pow_zero, Int.one_mul, cnt_sumN]
      have e2 : sumN (fun r => agr 0 (row xss i0) (row xss r)) xss.length = sumN (fun _ => 1) xss.length := sumN_congr fun r hr => by
        exact agr_zero _ _ (by rw [hR.len i0 hi0, hR.len r hr]) (by rw [hR.len r hr, hk]; omega)
      rw [e2, sumN_const, Int.one_mul]
    · have ha := hs.2.1 T (by rw [hk, ← hj]; exact hT) (by omega) (by rw [supp] at hsup; omega)
      have h2 := ha.2 i0 hi0
      have h3 : (cntUp xss T (keyOf8 T (row xss i0)) xss.length : Int) * (S : Int) ^ onesOf T = xss.length := by
        rw [← Int.natCast_pow, ← Int.natCast_mul, h2]
      rw [Int.mul_comm]; exact h3
  | c + 1, j, T, hj, hT, hsup => by
    have hk8 := hR.k8
    rw [hk] at hk8
    have ih1 := expect hR hk hs hi0 a b c (j + 1) T (by omega) (by rw [Nat.pow_succ]; omega) (by rw [supp] at hsup; omega)
    obtain ⟨f1, _⟩ := set_add j (by omega) T hT
    have hsplit : sumN (fun r => agr T (row xss i0) (row xss r) * prodF (fun q => S * a q * dl (row xss i0) (row xss r) q + b q) j (c + 1)) xss.length =
        S * a j * sumN (fun r => agr (T + 2 ^ j) (row xss i0) (row xss r) * prodF (fun q => S * a q * dl (row xss i0) (row xss r) q + b q) (j + 1) c) xss.length +
        b j * sumN (fun r => agr T (row xss i0) (row xss r) * prodF (fun q => S * a q * dl (row xss i0) (row xss r) q + b q) (j + 1) c) xss.length := by
      rw [← sumN_mul, ← sumN_mul, ← sumN_add]
      refine sumN_congr fun r hr => ?_
      rw [agr_add (k := k) hk8 (by omega) hT (by rw [hR.len i0 hi0, hk]) (by rw [hR.len r hr, hk]), prodF]
      grind
    rw [hsplit, prodF]
    by_cases h0 : a j = 0
    · rw [h0]
      grind
    · have ih2 := expect hR hk hs hi0 a b c (j + 1) (T + 2 ^ j) (by omega) (by rw [Nat.pow_succ]; omega) (by
        rw [supp, if_pos (by simp [h0])] at hsup
        rw [f1]; omega)
      rw [f1, Int.pow_succ] at ih2
      grind

/-- One set's factor. -/
def fac (S : Nat) (C : Nat) (x r : List Int) (q : Nat) : Int := if inSet C q = true then S * dl x r q - 1 else 1
def phi (S k C : Nat) (x r : List Int) : Int := prodF (fac S C x r) 0 k
theorem fac_mul (S C D : Nat) (x r : List Int) (q : Nat) : fac S C x r q * fac S D x r q =
    S * (if inSet C q = true ∧ inSet D q = true then (S : Int) - 2 else if inSet C q = true ∨ inSet D q = true then 1 else 0) * dl x r q + (if inSet C q = true ∧ inSet D q = true then 1 else if inSet C q = true ∨ inSet D q = true then -1 else 1) := by
  have hd : dl x r q = 0 ∨ dl x r q = 1 := by unfold dl; split <;> simp
  unfold fac
  generalize inSet C q = c
  generalize inSet D q = d
  cases c <;> cases d
  · simp
  · simp; grind
  · simp; grind
  · rcases hd with h | h <;> rw [h] <;> simp <;> grind
theorem set_eq {k C D : Nat} (hC : C < 2 ^ k) (hD : D < 2 ^ k) (h : ∀ q, q < k → inSet C q = inSet D q) : C = D := by
  refine Nat.eq_of_testBit_eq fun q => ?_
  by_cases hq : q < k
  · have := h q hq
    unfold inSet at this
    rw [Nat.testBit_eq_decide_div_mod_eq, Nat.testBit_eq_decide_div_mod_eq]
    by_cases h1 : C / 2 ^ q % 2 = 1 <;> by_cases h2 : D / 2 ^ q % 2 = 1 <;> simp [h1, h2] at this ⊢
  · have hp : 2 ^ k ≤ 2 ^ q := Nat.pow_le_pow_right (by omega) (by omega)
    rw [Nat.testBit_lt_two_pow (by omega), Nat.testBit_lt_two_pow (by omega)]

theorem phi_pair {S t k : Nat} {xss : List (List Int)} (hR : IsRuns S xss) (hk : (row xss 0).length = k) (hs : StrengthIs S xss t) {i0 : Nat} (hi0 : i0 < xss.length) {C D : Nat} (hC : C < 2 ^ k) (hD : D < 2 ^ k)
    (hsup : supp (fun q => inSet C q || inSet D q) 0 k ≤ t) :
    sumN (fun r => phi S k C (row xss i0) (row xss r) * phi S k D (row xss i0) (row xss r)) xss.length = xss.length * ((if D = C then 1 else 0) * ((S : Int) - 1) ^ onesOf C) := by
  have hk8 := hR.k8
  rw [hk] at hk8
  have h := expect hR hk hs hi0 (fun q => if inSet C q = true ∧ inSet D q = true then (S : Int) - 2 else if inSet C q = true ∨ inSet D q = true then 1 else 0)
    (fun q => if inSet C q = true ∧ inSet D q = true then 1 else if inSet C q = true ∨ inSet D q = true then -1 else 1) k 0 0 (by omega) (by simp) (by
      have h0 : onesOf 0 = 0 := by decide
      rw [h0, Nat.zero_add]
      refine Nat.le_trans (supp_le (fun q hq => ?_) k 0) hsup
      by_cases h1 : inSet C q = true
      · simp [h1]
      · by_cases h2 : inSet D q = true
        · simp [h2]
        · simp [h1, h2] at hq)
  have h0 : onesOf 0 = 0 := by decide
  rw [h0, Int.pow_zero, Int.one_mul] at h
  have e : sumN (fun r => phi S k C (row xss i0) (row xss r) * phi S k D (row xss i0) (row xss r)) xss.length = sumN (fun r => agr 0 (row xss i0) (row xss r) * prodF (fun q => S * (if inSet C q = true ∧ inSet D q = true then (S : Int) - 2 else if inSet C q = true ∨ inSet D q = true then 1 else 0) * dl (row xss i0) (row xss r) q + (if inSet C q = true ∧ inSet D q = true then 1 else if inSet C q = true ∨ inSet D q = true then -1 else 1)) 0 k) xss.length :=
    sumN_congr fun r hr => by
      rw [agr_zero _ _ (by rw [hR.len i0 hi0, hR.len r hr]) (by rw [hR.len r hr, hk]; omega), Int.one_mul]
      unfold phi
      rw [← prodF_mul]
      exact prodF_congr k 0 fun q _ _ => fac_mul S C D _ _ q
  rw [e, h]
  congr 1
  by_cases hCD : D = C
  · subst hCD
    rw [if_pos rfl, Int.one_mul, ones_supp k (by omega) D hD, ← prodF_pow]
    refine prodF_congr k 0 fun q _ _ => ?_
    by_cases h1 : inSet D q = true
    · simp only [h1, and_self, if_true]; omega
    · simp [h1]
  · rw [if_neg hCD, Int.zero_mul]
    obtain ⟨q, hq⟩ := Classical.not_forall.1 (fun h => hCD (set_eq hD hC h))
    obtain ⟨hq1, hq2⟩ := Classical.not_imp.1 hq
    refine prodF_zero k 0 q (by omega) (by omega) ?_
    by_cases h1 : inSet C q = true <;> by_cases h2 : inSet D q = true
    · exact absurd (h2.trans h1.symm) hq2
    · simp [h1, h2]
    · simp [h1, h2]
    · simp only [Bool.not_eq_true] at h1 h2
      exact absurd (h2.trans h1.symm) hq2

/-- The sets that are summed over. -/
def inF (t C : Nat) : Bool := decide (onesOf C ≤ t / 2) || (decide (t % 2 = 1) && decide (onesOf C = t / 2 + 1) && inSet C 0)
theorem inF_pair {k t C D : Nat} (hk : k ≤ 8) (hk1 : 1 ≤ k) (hC : C < 2 ^ k) (hD : D < 2 ^ k) (h1 : inF t C = true) (h2 : inF t D = true) : supp (fun q => inSet C q || inSet D q) 0 k ≤ t := by
  have e := supp_or_and (inSet C) (inSet D) k 0
  rw [← ones_supp k (by omega) C hC, ← ones_supp k (by omega) D hD] at e
  unfold inF at h1 h2
  simp only [Bool.or_eq_true, Bool.and_eq_true, decide_eq_true_iff] at h1 h2
  rcases h1 with h1 | ⟨⟨h1, h3⟩, h4⟩ <;> rcases h2 with h2 | ⟨⟨h2, h5⟩, h6⟩
  · omega
  · omega
  · omega
  · have := supp_pos (p := fun q => inSet C q && inSet D q) k 0 0 (by omega) (by omega) (by simp [h4, h6])
    omega

theorem raoM {S t k : Nat} {xss : List (List Int)} (hR : IsRuns S xss) (hk : (row xss 0).length = k) (hs : StrengthIs S xss t) :
    sumN (fun C => (if inF t C = true then 1 else 0) * ((S : Int) - 1) ^ onesOf C) (2 ^ k) ≤ xss.length := by
  have hn1 := hR.n1
  have hk8 := hR.k8
  have hk1 := hR.k1
  have hS := hR.s2
  rw [hk] at hk8 hk1
  have hi0 : 0 < xss.length := by omega
  obtain ⟨M, hM⟩ : ∃ M, sumN (fun C => (if inF t C = true then 1 else 0) * ((S : Int) - 1) ^ onesOf C) (2 ^ k) = M := ⟨_, rfl⟩
  have hx : ∀ C, C < 2 ^ k → phi S k C (row xss 0) (row xss 0) = ((S : Int) - 1) ^ onesOf C := fun C hC => by
    rw [ones_supp k (by omega) C hC, ← prodF_pow]
    unfold phi
    refine prodF_congr k 0 fun q _ _ => ?_
    unfold fac dl
    by_cases h : inSet C q = true
    · simp only [h, if_true]; omega
    · simp [h]
  have hK0 : sumN (fun C => (if inF t C = true then 1 else 0) * phi S k C (row xss 0) (row xss 0)) (2 ^ k) = M := by
    rw [← hM]
    exact sumN_congr fun C hC => by rw [hx C hC]
  have hsq : sumN (fun r => sumN (fun C => (if inF t C = true then 1 else 0) * phi S k C (row xss 0) (row xss r)) (2 ^ k) * sumN (fun C => (if inF t C = true then 1 else 0) * phi S k C (row xss 0) (row xss r)) (2 ^ k)) xss.length = xss.length * M := by
    rw [sumN_congr (g := fun r => sumN (fun C => sumN (fun D => ((if inF t C = true then 1 else 0) * phi S k C (row xss 0) (row xss r)) * ((if inF t D = true then 1 else 0) * phi S k D (row xss 0) (row xss r))) (2 ^ k)) (2 ^ k)) (fun r _ => by
      rw [Int.mul_comm, ← sumN_mul]
      exact sumN_congr fun C _ => by rw [Int.mul_comm, ← sumN_mul])]
    rw [sumN_swap]
    rw [sumN_congr (g := fun C => xss.length * ((if inF t C = true then 1 else 0) * ((S : Int) - 1) ^ onesOf C)) (fun C hC => by
      rw [sumN_swap]
      rw [sumN_congr (g := fun D => (xss.length * ((if inF t C = true then 1 else 0) * (if inF t D = true then 1 else 0) * ((S : Int) - 1) ^ onesOf C)) * (if D = C then 1 else 0)) (fun D hD => by
        by_cases h1 : inF t C = true
        · by_cases h2 : inF t D = true
          · rw [sumN_congr (g := fun r => phi S k C (row xss 0) (row xss r) * phi S k D (row xss 0) (row xss r)) (fun r _ => by rw [if_pos h1, if_pos h2, Int.one_mul, Int.one_mul]), phi_pair hR hk hs hi0 hC hD (inF_pair hk8 hk1 hC hD h1 h2), if_pos h1, if_pos h2]
            grind
          · rw [sumN_zero (fun r _ => by rw [if_neg h2]; simp), if_neg h2]; simp
        · rw [sumN_zero (fun r _ => by rw [if_neg h1]; simp), if_neg h1]; simp)]
      rw [sumN_delta, if_pos hC]
      by_cases h1 : inF t C = true
      · rw [if_pos h1]; simp
      · rw [if_neg h1]; simp)]
    rw [sumN_mul, hM]
  have hge := sumN_ge (f := fun r => sumN (fun C => (if inF t C = true then 1 else 0) * phi S k C (row xss 0) (row xss r)) (2 ^ k) * sumN (fun C => (if inF t C = true then 1 else 0) * phi S k C (row xss 0) (row xss r)) (2 ^ k)) (n := xss.length) (v := 0) (fun y _ => by
    show 0 ≤ _ * _
    rw [← Int.natAbs_mul_self]; omega) hi0
  rw [hsq] at hge
  have hge2 : M * M ≤ xss.length * M := by
    have h : sumN (fun C => (if inF t C = true then 1 else 0) * phi S k C (row xss 0) (row xss 0)) (2 ^ k) * sumN (fun C => (if inF t C = true then 1 else 0) * phi S k C (row xss 0) (row xss 0)) (2 ^ k) ≤ xss.length * M := hge
    rw [hK0] at h
    exact h
  have hpos : 1 ≤ M := by
    have h := sumN_ge (f := fun C => (if inF t C = true then 1 else 0) * ((S : Int) - 1) ^ onesOf C) (n := 2 ^ k) (v := 0) (fun C _ => by
      show 0 ≤ (if inF t C = true then 1 else 0) * ((S : Int) - 1) ^ onesOf C
      refine Int.mul_nonneg (by split <;> omega) ?_
      have : 0 ≤ (S : Int) - 1 := by omega
      exact Int.pow_nonneg this) (Nat.two_pow_pos k)
    rw [hM] at h
    have h0 : onesOf 0 = 0 := by decide
    have h1 : inF t 0 = true := by unfold inF; rw [h0]; simp
    have h2 : (if inF t 0 = true then (1 : Int) else 0) * ((S : Int) - 1) ^ onesOf 0 = 1 := by rw [if_pos h1, h0]; simp
    have h3 : (if inF t 0 = true then (1 : Int) else 0) * ((S : Int) - 1) ^ onesOf 0 ≤ M := h
    rw [h2] at h3
    exact h3
  rw [hM]
  exact Int.le_of_mul_le_mul_right hge2 (by omega)

end Go.Proofs.Ytfggmgfobcgadaa
