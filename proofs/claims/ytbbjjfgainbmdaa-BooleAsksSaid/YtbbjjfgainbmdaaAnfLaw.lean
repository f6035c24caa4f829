/- The plain laws of sums of products. -/
import Derived.Test.YtbbjjfgainbmdaaAnfTop
import Derived.Test.YtbbjjfgainbmdaaBackLaw
namespace Go.Proofs.Ytbbjjfgainbmdaa
open Go.RowKit

/-- One behind the other, bit by bit. -/
def compK (K L : Nat → Nat → Int) (b d : Nat) : Int := K b 0 * L 0 d + K b 1 * L 1 d
theorem kern_comp (K L : Nat → Nat → Int) : ∀ (t x y : Nat), sumN (fun a => kern K t x a * kern L t a y) (2 ^ t) = kern (compK K L) t x y
  | 0, x, y => by simp [sumN, kern]
  | t + 1, x, y => by
    have h1 : ∀ a, a < 2 ^ t → kern K (t + 1) x a * kern L (t + 1) a y = (K (bit t x) 0 * L 0 (bit t y)) * (kern K t x a * kern L t a y) := fun a ha => by
      have hb : bit t a = 0 := by unfold bit; rw [Nat.div_eq_of_lt ha]
      rw [kern, kern, hb]; grind
    have h2 : ∀ a, a < 2 ^ t → kern K (t + 1) x (2 ^ t + a) * kern L (t + 1) (2 ^ t + a) y = (K (bit t x) 1 * L 1 (bit t y)) * (kern K t x a * kern L t a y) := fun a ha => by
      have hb : bit t (2 ^ t + a) = 1 := by unfold bit; rw [Nat.add_div_left _ (two_pow_pos t), Nat.div_eq_of_lt ha]
      have hl : ∀ s, s < t → bit s (2 ^ t + a) = bit s a := fun s hs => by
        have := bit_low hs a 1; rwa [Nat.mul_one, Nat.add_comm] at this
      rw [kern, kern, hb, kern_congr K t x x (2 ^ t + a) a (fun _ _ => rfl) hl, kern_congr L t (2 ^ t + a) a y y hl (fun _ _ => rfl)]; grind
    rw [Nat.pow_succ, Nat.mul_two, sumN_add, sumN_congr h1, sumN_congr h2, sumN_mul, sumN_mul, kern_comp K L t x y, kern]
    unfold compK; grind

theorem kern_anf : ∀ t a x, kern anfK t a x = if ∀ s, s < t → bit s x ≤ bit s a then 1 else 0
  | 0, a, x => by simp [kern]
  | t + 1, a, x => by
    rw [kern, kern_anf t a x]
    unfold anfK
    by_cases h1 : ∀ s, s < t → bit s x ≤ bit s a
    · by_cases h2 : bit t x ≤ bit t a
      · rw [if_pos h1, if_pos h2, if_pos]; rfl
        intro s hs
        rcases Nat.lt_succ_iff_lt_or_eq.1 hs with h | rfl
        · exact h1 s h
        · exact h2
      · have hn : ¬ ∀ s, s < t + 1 → bit s x ≤ bit s a := fun h => h2 (h t (by omega))
        rw [if_neg h2, if_neg hn, Int.mul_zero]
    · have hn : ¬ ∀ s, s < t + 1 → bit s x ≤ bit s a := fun h => h1 fun s hs => h s (by omega)
      rw [if_neg h1, if_neg hn, Int.zero_mul]

theorem within_iff (k u x : Nat) (hx : x < 2 ^ k) : (∀ s, s < k → bit s x ≤ bit s u) ↔ x &&& u = x := by
  constructor
  · intro h
    refine bits_eq k (x &&& u) x (Nat.lt_of_le_of_lt Nat.and_le_left hx) hx fun s hs => ?_
    rw [bit_and]
    have := h s hs
    have h1 := bit_lt s x
    have h2 := bit_lt s u
    rcases bit_cases s x with e | e
    · rw [e, Nat.zero_mul]
    · rw [e] at this ⊢; rw [Nat.one_mul]; omega
  · intro h s _
    have e := bit_and s x u
    rw [h] at e
    rcases bit_cases s u with e' | e'
    · rw [e', Nat.mul_zero] at e; omega
    · have := bit_lt s x; omega
theorem kern_within (k u x : Nat) (hx : x < 2 ^ k) : kern anfK k u x = if x &&& u = x then 1 else 0 := by
  rw [kern_anf]
  by_cases h : x &&& u = x
  · rw [if_pos h, if_pos ((within_iff k u x hx).2 h)]
  · rw [if_neg h, if_neg (fun e => h ((within_iff k u x hx).1 e))]

theorem anfAcc_sum (t : List Int) (u : Nat) : ∀ n, anfAcc t u n = sumN (fun x => (if x &&& u = x then 1 else 0) * nth t x) n :=
  acc_sum _ _ fun x s => by split <;> simp
theorem sumN_cut (f : Nat → Int) (m : Nat) : ∀ n, m ≤ n → (∀ i, m ≤ i → f i = 0) → sumN f n = sumN f m
  | 0, h, _ => by rw [show m = 0 by omega]
  | n + 1, h, h0 => by
    by_cases e : m = n + 1
    · rw [e]
    · rw [sumN, h0 n (by omega), sumN_cut f m n (by omega) h0, Int.add_zero]
theorem anfOf_eq (t : List Int) (k : Nat) : anfOfL t (2 ^ k) = anfL t k (2 ^ k) := by
  unfold anfOfL anfL
  refine tab_congr fun u hu => ?_
  unfold mixA
  rw [anfAcc_sum, mix_all _ _ _ _ hu, ← sumN_cut _ (u + 1) (2 ^ k) (by omega)]
  · congr 1
    exact sumN_congr fun x hx => by rw [kern_within k u x hx]
  · intro i hi
    rw [if_neg, Int.zero_mul]
    intro e
    have := Nat.and_le_right (n := i) (m := u)
    omega

theorem sumN_mod {f g : Nat → Int} : ∀ {n : Nat}, (∀ i, i < n → f i % 2 = g i % 2) → sumN f n % 2 = sumN g n % 2
  | 0, _ => rfl
  | n + 1, h => by
    have h1 := sumN_mod (n := n) (fun i hi => h i (by omega))
    have h2 := h n (by omega)
    rw [sumN, sumN]; omega
theorem kern_two : ∀ t i x, kern (compK anfK anfK) t i x % 2 = if ∀ s, s < t → bit s i = bit s x then 1 else 0
  | 0, i, x => by simp [kern]
  | t + 1, i, x => by
    have h := kern_two t i x
    rw [kern]
    have hA : compK anfK anfK (bit t i) (bit t x) % 2 = if bit t i = bit t x then 1 else 0 := by
      rcases bit_cases t i with e | e <;> rcases bit_cases t x with e' | e' <;> rw [e, e'] <;> decide
    rw [Int.mul_emod, h, hA]
    by_cases h1 : ∀ s, s < t → bit s i = bit s x
    · by_cases h2 : bit t i = bit t x
      · rw [if_pos h1, if_pos h2, if_pos]; rfl
        intro s hs
        rcases Nat.lt_succ_iff_lt_or_eq.1 hs with h | rfl
        · exact h1 s h
        · exact h2
      · have hn : ¬ ∀ s, s < t + 1 → bit s i = bit s x := fun h => h2 (h t (by omega))
        rw [if_neg h2, if_neg hn, Int.mul_zero]; rfl
    · have hn : ¬ ∀ s, s < t + 1 → bit s i = bit s x := fun h => h1 fun s hs => h s (by omega)
      rw [if_neg h1, if_neg hn, Int.zero_mul]; rfl

theorem anf_twice (t : List Int) (k : Nat) (ht : IsTable t k) : anfL (anfL t k (2 ^ k)) k (2 ^ k) = t := by
  apply nth_ext
  · unfold anfL; rw [tab_length, ht.len]
  · intro i hi
    have hi' : i < 2 ^ k := by unfold anfL at hi; rwa [tab_length] at hi
    have h0 : nth (anfL (anfL t k (2 ^ k)) k (2 ^ k)) i = mixA (nth (anfL t k (2 ^ k))) k i := nth_tab _ _ _ hi'
    rw [h0]
    unfold mixA
    rw [mix_all _ _ _ _ hi']
    have h1 : sumN (fun a => kern anfK k i a * nth (anfL t k (2 ^ k)) a) (2 ^ k) % 2 = sumN (fun a => sumN (fun x => kern anfK k i a * (kern anfK k a x * nth t x)) (2 ^ k)) (2 ^ k) % 2 := by
      refine sumN_mod fun a ha => ?_
      have e : nth (anfL t k (2 ^ k)) a = mixA (nth t) k a := nth_tab _ _ _ ha
      rw [e]; unfold mixA; rw [mix_all _ _ _ _ ha, sumN_mul, Int.mul_emod, Int.emod_emod, ← Int.mul_emod]
    rw [h1, sumN_comm, sumN_congr (g := fun x => kern (compK anfK anfK) k i x * nth t x) (fun x _ => by
      rw [← kern_comp, Int.mul_comm, ← sumN_mul]
      exact sumN_congr fun a _ => by grind)]
    have h2 : sumN (fun x => kern (compK anfK anfK) k i x * nth t x) (2 ^ k) % 2 = sumN (fun x => (if x = i then 1 else 0) * nth t x) (2 ^ k) % 2 := by
      refine sumN_mod fun x hx => ?_
      rw [Int.mul_emod, kern_two]
      by_cases e : x = i
      · subst e; rw [if_pos (fun _ _ => rfl), if_pos rfl]; omega
      · rw [if_neg (fun h => e (bits_eq k i x hi' hx h).symm), if_neg e]; simp
    rw [h2, sumN_single i hi' (fun x _ hne => by rw [if_neg hne, Int.zero_mul]), if_pos rfl]
    rcases ht.nth01 i with h | h <;> rw [h] <;> rfl

end Go.Proofs.Ytbbjjfgainbmdaa
