/- The blocks of an even matrix of signs: how long they are, and in how many of them two points lie. Plain but for the words of the walk. -/
import Derived.Test.YtkgdohoandfaeaaHadaLaw
import Derived.Test.YtkgdohoandfaeaaSignsBlocks
import Derived.Laws.Bits64b
namespace Go.Proofs.Ytkgdohoandfaeaa
open Go.RowKit
set_option linter.unusedVariables false

/-! ### The columns are orthogonal, too -/
theorem sumN_nil {f : Nat → Int} {n : Nat} (h : ∀ i, i < n → f i = 0) : sumN f n = 0 := by rw [sumN_congr h, sumN_zero]
theorem sumN_all {f : Nat → Int} : ∀ {n : Nat}, (∀ i, i < n → 0 ≤ f i) → sumN f n = 0 → ∀ i, i < n → f i = 0
  | 0, _, _, i, hi => by omega
  | n + 1, h, h0, i, hi => by
    rw [sumN] at h0
    have h1 := sumN_nonneg (f := f) (n := n) (fun i hi => h i (by omega))
    have h2 := h n (by omega)
    by_cases e : i = n
    · subst e; omega
    · exact sumN_all (n := n) (fun i hi => h i (by omega)) (by omega) i (by omega)

section
variable (h : Nat → Nat → Int) (n : Nat)
/-- Two rows; two columns. -/
def rowP (i k : Nat) : Int := sumN (fun p => h i p * h k p) n
def colP (p q : Nat) : Int := sumN (fun i => h i p * h i q) n

theorem frob : sumN (fun p => sumN (fun q => colP h n p q * colP h n p q) n) n = sumN (fun i => sumN (fun k => rowP h n i k * rowP h n i k) n) n := by
  have e1 : ∀ p q, colP h n p q * colP h n p q = sumN (fun i => sumN (fun k => (h i p * h k p) * (h i q * h k q)) n) n := fun p q => by
    unfold colP
    rw [mul_sumN]
    exact sumN_congr fun i _ => sumN_congr fun k _ => by
      show h i p * h i q * (h k p * h k q) = h i p * h k p * (h i q * h k q)
      rw [Int.mul_assoc, Int.mul_assoc, Int.mul_left_comm (h i q)]
  have e2 : ∀ i k, rowP h n i k * rowP h n i k = sumN (fun p => sumN (fun q => (h i p * h k p) * (h i q * h k q)) n) n := fun i k => by
    unfold rowP
    rw [mul_sumN]
  rw [sumN_congr fun p _ => sumN_congr fun q _ => e1 p q, sumN_congr fun i _ => sumN_congr fun k _ => e2 i k]
  -- sum_p sum_q sum_i sum_k = sum_i sum_k sum_p sum_q
  rw [sumN_congr fun p _ => sumN_comm (fun q i => sumN (fun k => (h i p * h k p) * (h i q * h k q)) n) n n]
  rw [sumN_comm (fun p i => sumN (fun q => sumN (fun k => (h i p * h k p) * (h i q * h k q)) n) n) n n]
  refine sumN_congr fun i _ => ?_
  rw [sumN_congr fun p _ => sumN_comm (fun q k => (h i p * h k p) * (h i q * h k q)) n n]
  rw [sumN_comm (fun p k => sumN (fun q => (h i p * h k p) * (h i q * h k q)) n) n n]

theorem col_orth (hs : ∀ i p, i < n → p < n → h i p = 1 ∨ h i p = -1) (hr : ∀ i k, i < n → k < n → rowP h n i k = if i = k then (n : Int) else 0) (p q : Nat) (hp : p < n) (hq : q < n) : colP h n p q = if p = q then (n : Int) else 0 := by
  have hd : ∀ p, p < n → colP h n p p = n := fun p hp => by
    unfold colP
    rw [sumN_congr (g := fun _ => 1) fun i hi => by rcases hs i p hi hp with e | e <;> rw [e] <;> rfl, sumN_const, Int.mul_one]
  by_cases e : p = q
  · subst e; rw [if_pos rfl, hd p hp]
  · rw [if_neg e]
    have hf := frob h n
    have hR : sumN (fun i => sumN (fun k => rowP h n i k * rowP h n i k) n) n = sumN (fun _ => (n : Int) * n) n := sumN_congr fun i hi => by
      rw [sumN_single i hi (fun k hk hne => by rw [hr i k hi hk, if_neg (Ne.symm hne)]; rfl), hr i i hi hi, if_pos rfl]
    let E : Nat → Nat → Int := fun p q => if p = q then 0 else colP h n p q * colP h n p q
    have hE0 : ∀ p q, 0 ≤ E p q := fun p q => by show 0 ≤ (if p = q then 0 else colP h n p q * colP h n p q); split; exact Int.le_refl 0; exact sq_nonneg _
    have hL : ∀ p, p < n → sumN (fun q => colP h n p q * colP h n p q) n = (n : Int) * n + sumN (E p) n := fun p hp => by
      rw [sumN_congr (g := fun q => (if p = q then (n : Int) * n else 0) + E p q) fun q hq => by
        show _ = (if p = q then (n : Int) * n else 0) + (if p = q then 0 else colP h n p q * colP h n p q)
        by_cases e : p = q
        · subst e; rw [if_pos rfl, if_pos rfl, hd p hp, Int.add_zero]
        · rw [if_neg e, if_neg e, Int.zero_add], sumN_plus, sumN_single (f := fun q => if p = q then (n : Int) * n else 0) p hp (fun q _ hne => if_neg (Ne.symm hne)), if_pos rfl]
    rw [sumN_congr hL, sumN_plus, hR] at hf
    have hS : sumN (fun p => sumN (E p) n) n = 0 := by omega
    have h1 := sumN_all (fun i _ => sumN_nonneg (fun q _ => hE0 i q)) hS p hp
    have h2 : (if p = q then 0 else colP h n p q * colP h n p q) = 0 := sumN_all (fun q _ => hE0 p q) h1 q hq
    rw [if_neg e] at h2
    rcases Int.mul_eq_zero.1 h2 with h3 | h3 <;> exact h3
end

/-! ### Counting -/
/-- How often f holds at 1 .. m. -/
def cntB (f : Nat → Bool) : Nat → Nat
  | 0 => 0
  | m + 1 => cntB f m + (if f (m + 1) = true then 1 else 0)
theorem cntB_congr {f g : Nat → Bool} : ∀ m, (∀ j, 1 ≤ j → j ≤ m → f j = g j) → cntB f m = cntB g m
  | 0, _ => rfl
  | m + 1, h => by rw [cntB, cntB, cntB_congr m (fun j h1 h2 => h j h1 (by omega)), h (m + 1) (by omega) (by omega)]
theorem onesTo_cnt (ys : List Int) (n i : Nat) : ∀ m, (onesTo ys n i m).length = cntB (fun j => decide (nth ys (i * n + j) = 1)) m
  | 0 => rfl
  | m + 1 => by
    rw [onesTo, cntB, ← onesTo_cnt ys n i m]
    by_cases e : nth ys (i * n + (m + 1)) = 1
    · rw [if_pos e, if_pos (decide_eq_true e), List.length_append]; rfl
    · rw [if_neg e, if_neg (by simpa using e), Nat.add_zero]
theorem cnt_sum (x : Nat → Int) : ∀ m, (∀ j, 1 ≤ j → j ≤ m → x j = 1 ∨ x j = -1) → 2 * (cntB (fun j => decide (x j = 1)) m : Int) = sumN (fun j => 1 + x j) (m + 1) - (1 + x 0)
  | 0, _ => by simp [cntB, sumN]
  | m + 1, h => by
    have ih := cnt_sum x m (fun j h1 h2 => h j h1 (by omega))
    rw [cntB, sumN]
    rcases h (m + 1) (by omega) (by omega) with e | e
    · rw [if_pos (decide_eq_true e), e]; push_cast; omega
    · rw [if_neg (by rw [e]; decide), e]; push_cast; omega
theorem cnt_sum2 (x y : Nat → Int) : ∀ m, (∀ j, 1 ≤ j → j ≤ m → x j = 1 ∨ x j = -1) → (∀ j, 1 ≤ j → j ≤ m → y j = 1 ∨ y j = -1) →
    4 * (cntB (fun j => decide (x j = 1) && decide (y j = 1)) m : Int) = sumN (fun j => (1 + x j + y j) + x j * y j) (m + 1) - ((1 + x 0 + y 0) + x 0 * y 0)
  | 0, _, _ => by simp [cntB, sumN]
  | m + 1, h, h' => by
    have ih := cnt_sum2 x y m (fun j h1 h2 => h j h1 (by omega)) (fun j h1 h2 => h' j h1 (by omega))
    rw [cntB, sumN]
    rcases h (m + 1) (by omega) (by omega) with e | e <;> rcases h' (m + 1) (by omega) (by omega) with e' | e' <;> rw [e, e'] <;> simp <;> omega

/-- Even: 1 at the rims. -/
def Rims (n : Nat) (ys : List Int) : Prop := ∀ i, i < n → nth ys i = 1 ∧ nth ys (i * n) = 1

theorem size_law {n : Nat} {ys : List Int} (hm : IsMat n ys) (ho : Orth n ys) (hr : Rims n ys) (h4 : 4 ≤ n) (i : Nat) (h1 : 1 ≤ i) (hi : i < n) : 2 * (onesTo ys n i (n - 1)).length + 2 = n := by
  obtain ⟨m, rfl⟩ : ∃ m, n = m + 1 := ⟨n - 1, by omega⟩
  have h := cnt_sum (fun j => nth ys (i * (m + 1) + j)) m (fun j _ hj => nth_sign hm _ (place_lt hi (by omega)))
  rw [Nat.add_sub_cancel, onesTo_cnt]
  have hd := ho i 0 hi (by omega)
  rw [dotTo_sum, sumN_congr (g := fun j => nth ys (i * (m + 1) + j)) fun q hq => by rw [Nat.zero_mul, Nat.zero_add, (hr q hq).1, Int.mul_one]] at hd
  have hs : sumN (fun j => 1 + nth ys (i * (m + 1) + j)) (m + 1) = ((m + 1 : Nat) : Int) := by
    rw [sumN_plus, sumN_const, hd]; push_cast; omega
  rw [hs] at h
  simp only [Nat.add_zero, (hr i hi).2] at h
  push_cast at h
  omega

theorem pair_law {n : Nat} {ys : List Int} (hm : IsMat n ys) (ho : Orth n ys) (hr : Rims n ys) (h4 : 4 ≤ n) (p q : Nat) (hp1 : 1 ≤ p) (hp : p < n) (hq1 : 1 ≤ q) (hq : q < n) (hpq : p ≠ q) :
    4 * cntB (fun i => decide (nth ys (i * n + p) = 1) && decide (nth ys (i * n + q) = 1)) (n - 1) + 4 = n := by
  have hc := col_orth (fun i p => nth ys (i * n + p)) n (fun i p hi hp => nth_sign hm _ (place_lt hi hp)) (fun i k hi hk => by
    rw [← dot_all hm ho i k hi hk, dotTo_sum]; rfl)
  have c1 := hc p 0 hp (by omega)
  have c2 := hc q 0 hq (by omega)
  have c3 := hc p q hp hq
  rw [if_neg (by omega)] at c1 c2
  rw [if_neg hpq] at c3
  unfold colP at c1 c2 c3
  simp only [Nat.add_zero] at c1 c2 c3
  rw [sumN_congr (g := fun i => nth ys (i * n + p)) fun i hi => by rw [(hr i hi).2, Int.mul_one]] at c1
  rw [sumN_congr (g := fun i => nth ys (i * n + q)) fun i hi => by rw [(hr i hi).2, Int.mul_one]] at c2
  obtain ⟨m, rfl⟩ : ∃ m, n = m + 1 := ⟨n - 1, by omega⟩
  have h := cnt_sum2 (fun i => nth ys (i * (m + 1) + p)) (fun i => nth ys (i * (m + 1) + q)) m (fun j _ hj => nth_sign hm _ (place_lt (by omega) hp)) (fun j _ hj => nth_sign hm _ (place_lt (by omega) hq))
  rw [sumN_plus, sumN_plus, sumN_plus, c1, c2, c3, sumN_const, Nat.zero_mul, Nat.zero_add, Nat.zero_add, (hr p hp).1, (hr q hq).1] at h
  rw [Nat.add_sub_cancel]
  push_cast at h
  omega

/-! ### Sets of points, a bit for each -/
/-- The set of a block. -/
def maskN (b : List Int) : Nat := b.foldl (fun s x => s ||| 2 ^ x.toNat) 0
def maskTo (b : List Int) (k : Nat) : Nat := maskN (b.take k)
theorem maskN_snoc (b : List Int) (x : Int) : maskN (b ++ [x]) = maskN b ||| 2 ^ x.toNat := by unfold maskN; rw [List.foldl_append]; rfl
theorem maskN_lt (b : List Int) (m : Nat) (h : ∀ x ∈ b, x.toNat < m) : maskN b < 2 ^ m := by
  unfold maskN
  have : ∀ (b : List Int) (s : Nat), s < 2 ^ m → (∀ x ∈ b, x.toNat < m) → b.foldl (fun s x => s ||| 2 ^ x.toNat) s < 2 ^ m := by
    intro b
    induction b with
    | nil => intro s hs _; exact hs
    | cons x b ih =>
      intro s hs hb
      exact ih _ (Nat.or_lt_two_pow hs (Nat.pow_lt_pow_right (by omega) (hb x (by simp)))) (fun y hy => hb y (by simp [hy]))
  exact this b 0 (Nat.pow_pos (by omega)) h
theorem mask_onesTo (ys : List Int) (n i p : Nat) : ∀ m, (maskN (onesTo ys n i m)).testBit p = (decide (p < m) && decide (nth ys (i * n + (p + 1)) = 1))
  | 0 => by simp [onesTo, maskN]
  | m + 1 => by
    rw [onesTo]
    by_cases e : nth ys (i * n + (m + 1)) = 1
    · rw [if_pos e, maskN_snoc, Nat.testBit_or, mask_onesTo ys n i p m, Int.toNat_natCast, Nat.testBit_two_pow]
      by_cases hp : m = p
      · subst hp; simp [e]
      · have : (p < m + 1) ↔ (p < m) := by omega
        simp [hp, this]
    · rw [if_neg e, mask_onesTo ys n i p m]
      by_cases hp : m = p
      · subst hp; simp [e]
      · have : (p < m + 1) ↔ (p < m) := by omega
        simp [this]
theorem pair_test (m i j : Nat) (hij : i ≠ j) : (m &&& (2 ^ i ||| 2 ^ j) == (2 ^ i ||| 2 ^ j)) = (m.testBit i && m.testBit j) := by
  rw [Bool.eq_iff_iff, beq_iff_eq, Bool.and_eq_true]
  constructor
  · intro h
    constructor
    · have := congrArg (fun x => x.testBit i) h
      simp only [Nat.testBit_and, Nat.testBit_or, Nat.testBit_two_pow_self, Bool.true_or, Bool.and_true] at this
      exact this
    · have := congrArg (fun x => x.testBit j) h
      simp only [Nat.testBit_and, Nat.testBit_or, Nat.testBit_two_pow_self, Bool.or_true, Bool.and_true] at this
      exact this
  · rintro ⟨h1, h2⟩
    refine Nat.eq_of_testBit_eq fun t => ?_
    rw [Nat.testBit_and, Nat.testBit_or, Nat.testBit_two_pow, Nat.testBit_two_pow]
    by_cases e1 : i = t
    · subst e1; simp [h1]
    · by_cases e2 : j = t
      · subst e2; simp [h2]
      · simp [e1, e2]

/-- In how many of the first k sets a set lies. -/
def cntM (f : Nat → Nat) (s : Nat) : Nat → Nat
  | 0 => 0
  | k + 1 => cntM f s k + (if (f k &&& s == s) = true then 1 else 0)
theorem cntM_le (f : Nat → Nat) (s : Nat) : ∀ k, cntM f s k ≤ k
  | 0 => Nat.le_refl _
  | k + 1 => by rw [cntM]; have := cntM_le f s k; split <;> omega
theorem cntM_cnt (f : Nat → Nat) (i j : Nat) (hij : i ≠ j) : ∀ k, cntM f (2 ^ i ||| 2 ^ j) k = cntB (fun t => (f (t - 1)).testBit i && (f (t - 1)).testBit j) k
  | 0 => rfl
  | k + 1 => by rw [cntM, cntB, cntM_cnt f i j hij k, pair_test _ _ _ hij, Nat.add_sub_cancel]

theorem row_blocksTo (ys : List Int) (n : Nat) : ∀ k t, t < k → row (blocksTo ys n k) t = onesTo ys n (t + 1) (n - 1)
  | 0, t, h => by omega
  | k + 1, t, h => by
    rw [blocksTo]
    by_cases e : t = k
    · subst e
      rw [row_eq _ _ (by rw [List.length_append, blocksTo_length]; simp), List.getElem_append_right (by rw [blocksTo_length]; exact Nat.le_refl _)]
      simp [blocksTo_length]
    · rw [row_eq _ _ (by rw [List.length_append, blocksTo_length]; simp; omega), List.getElem_append_left (by rw [blocksTo_length]; omega), ← row_eq, row_blocksTo ys n k t (by omega)]

/-- Each two points lie together in a quarter of the side, less 1. -/
theorem level_law {n : Nat} {ys : List Int} (hm : IsMat n ys) (ho : Orth n ys) (hr : Rims n ys) (h4 : 4 ≤ n) (p q : Nat) (hpq : p < q) (hq : q < n - 1) :
    4 * cntM (fun t => maskN (row (blocksOf n ys) t)) (2 ^ p ||| 2 ^ q) (n - 1) + 4 = n := by
  have h := pair_law hm ho hr h4 (p + 1) (q + 1) (by omega) (by omega) (by omega) (by omega) (by omega)
  rw [cntM_cnt _ _ _ (by omega), cntB_congr (g := fun i => decide (nth ys (i * n + (p + 1)) = 1) && decide (nth ys (i * n + (q + 1)) = 1)) (n - 1) fun j h1 h2 => by
    obtain ⟨t, rfl⟩ : ∃ t, j = t + 1 := ⟨j - 1, by omega⟩
    rw [Nat.add_sub_cancel, show row (blocksOf n ys) t = onesTo ys n (t + 1) (n - 1) from row_blocksTo ys n (n - 1) t (by omega), mask_onesTo, mask_onesTo, decide_eq_true (show p < n - 1 by omega), decide_eq_true (show q < n - 1 by omega), Bool.true_and, Bool.true_and]]
  exact h

/-- The blocks are in order, of points. -/
structure Block (n : Nat) (b : List Int) : Prop where
  range : ∀ x ∈ b, 0 ≤ x ∧ x < n
  up : ∀ i, i + 1 < b.length → nth b i < nth b (i + 1)
theorem block_snoc {n : Nat} {b : List Int} {x : Nat} (h : Block x b) (hx : x < n) : Block n (b ++ [(x : Int)]) := by
  refine ⟨fun y hy => ?_, fun i hi => ?_⟩
  · rcases List.mem_append.1 hy with h1 | h1
    · have := h.range y h1; omega
    · obtain rfl : y = (x : Int) := by simpa using h1
      omega
  · rw [List.length_append] at hi
    simp at hi
    have e1 : nth (b ++ [(x : Int)]) i = nth b i := by
      rw [nth_eq _ _ (by simp; omega), nth_eq _ _ hi, List.getElem_append_left]
    rw [e1]
    by_cases e : i + 1 = b.length
    · have e2 : nth (b ++ [(x : Int)]) (i + 1) = x := by
        rw [nth_eq _ _ (by simp; omega), List.getElem_append_right (by omega)]; simp
      rw [e2]
      exact (h.range _ (nth_mem b i hi)).2
    · rw [show nth (b ++ [(x : Int)]) (i + 1) = nth b (i + 1) by rw [nth_eq _ _ (by simp; omega), nth_eq _ _ (by omega), List.getElem_append_left]]
      exact h.up i (by omega)
theorem Block.mono {n m : Nat} {b : List Int} (h : Block n b) (hm : n ≤ m) : Block m b := ⟨fun x hx => by have := h.range x hx; omega, h.up⟩
theorem block_onesTo (ys : List Int) (n i : Nat) : ∀ m, Block m (onesTo ys n i m)
  | 0 => ⟨fun x hx => by simp [onesTo] at hx, fun i hi => by simp [onesTo] at hi⟩
  | m + 1 => by
    rw [onesTo]
    split
    · exact block_snoc (block_onesTo ys n i m) (by omega)
    · exact (block_onesTo ys n i m).mono (by omega)

end Go.Proofs.Ytkgdohoandfaeaa
