/- Plain law: sums, bits, and the butterfly: what a table becomes when each bit in turn is mixed by a matrix of two rows. No program here; no conditions but those named. -/
import Derived.Test.YtkgdohoandfaeaaBase
namespace Go.Proofs.Ytkgdohoandfaeaa

def sumN (f : Nat → Int) : Nat → Int
  | 0 => 0
  | n + 1 => sumN f n + f n

theorem sumN_congr {f g : Nat → Int} : ∀ {n : Nat}, (∀ i, i < n → f i = g i) → sumN f n = sumN g n
  | 0, _ => rfl
  | n + 1, h => by rw [sumN, sumN, sumN_congr (fun i hi => h i (by omega)), h n (by omega)]
theorem sumN_add (f : Nat → Int) (m : Nat) : ∀ n, sumN f (m + n) = sumN f m + sumN (fun i => f (m + i)) n
  | 0 => by simp [sumN]
  | n + 1 => by rw [← Nat.add_assoc, sumN, sumN_add f m n, sumN]; omega
theorem sumN_mul (c : Int) (f : Nat → Int) : ∀ n, sumN (fun i => c * f i) n = c * sumN f n
  | 0 => by simp [sumN]
  | n + 1 => by rw [sumN, sumN_mul c f n, sumN, Int.mul_add]
theorem sumN_plus (f g : Nat → Int) : ∀ n, sumN (fun i => f i + g i) n = sumN f n + sumN g n
  | 0 => by simp [sumN]
  | n + 1 => by rw [sumN, sumN_plus f g n, sumN, sumN]; omega
theorem sumN_zero : ∀ n, sumN (fun _ => 0) n = 0
  | 0 => rfl
  | n + 1 => by rw [sumN, sumN_zero n]; rfl
theorem sumN_const (c : Int) : ∀ n : Nat, sumN (fun _ => c) n = n * c
  | 0 => by simp [sumN]
  | n + 1 => by rw [sumN, sumN_const c n, Int.natCast_add, Int.add_mul]; simp
theorem sumN_comm (f : Nat → Nat → Int) (m : Nat) : ∀ n, sumN (fun i => sumN (fun j => f i j) m) n = sumN (fun j => sumN (fun i => f i j) n) m
  | 0 => by simp [sumN, sumN_zero]
  | n + 1 => by
    rw [sumN, sumN_comm f m n, ← sumN_plus]
    rfl
theorem sumN_nonneg {f : Nat → Int} : ∀ {n : Nat}, (∀ i, i < n → 0 ≤ f i) → 0 ≤ sumN f n
  | 0, _ => by simp [sumN]
  | n + 1, h => by rw [sumN]; have := sumN_nonneg (n := n) (fun i hi => h i (by omega)); have := h n (by omega); omega
theorem sumN_le {f g : Nat → Int} : ∀ {n : Nat}, (∀ i, i < n → f i ≤ g i) → sumN f n ≤ sumN g n
  | 0, _ => by simp [sumN]
  | n + 1, h => by rw [sumN, sumN]; have := sumN_le (n := n) (fun i hi => h i (by omega)); have := h n (by omega); omega
/-- One place alone is not 0. -/
theorem sumN_single {f : Nat → Int} (a : Nat) : ∀ {n : Nat}, a < n → (∀ i, i < n → i ≠ a → f i = 0) → sumN f n = f a
  | n + 1, h, h0 => by
    rw [sumN]
    by_cases ha : a < n
    · rw [sumN_single a ha (fun i hi hne => h0 i (by omega) hne), h0 n (by omega) (by omega)]; omega
    · obtain rfl : a = n := by omega
      rw [sumN_congr (g := fun _ => 0) (fun i hi => h0 i (by omega) (by omega)), sumN_zero]; omega

/-- Bit t of a number. -/
def bit (t a : Nat) : Nat := a / 2 ^ t % 2
theorem bit_lt (t a : Nat) : bit t a < 2 := Nat.mod_lt _ (by omega)
theorem two_pow_pos (t : Nat) : 0 < 2 ^ t := Nat.pow_pos (by omega)

theorem bit_low {s t : Nat} (h : s < t) (a c : Nat) : bit s (a + 2 ^ t * c) = bit s a := by
  unfold bit
  obtain ⟨d, rfl⟩ : ∃ d, t = s + (d + 1) := ⟨t - s - 1, by omega⟩
  rw [Nat.pow_add, Nat.pow_succ, show 2 ^ s * (2 ^ d * 2) * c = 2 ^ s * (2 * (2 ^ d * c)) by
    rw [Nat.mul_assoc, Nat.mul_assoc, Nat.mul_left_comm (2 ^ d)], Nat.add_mul_div_left _ _ (two_pow_pos s)]
  omega

/-- The product over the t lowest bits. -/
def kern (K : Nat → Nat → Int) : Nat → Nat → Nat → Int
  | 0, _, _ => 1
  | t + 1, a, x => kern K t a x * K (bit t a) (bit t x)

theorem kern_congr (K : Nat → Nat → Int) : ∀ (t : Nat) (a b x y : Nat), (∀ s, s < t → bit s a = bit s b) → (∀ s, s < t → bit s x = bit s y) → kern K t a x = kern K t b y
  | 0, _, _, _, _, _, _ => rfl
  | t + 1, a, b, x, y, h, h' => by
    rw [kern, kern, kern_congr K t a b x y (fun s hs => h s (by omega)) (fun s hs => h' s (by omega)), h t (by omega), h' t (by omega)]

/-- What the bits make, one behind the other. -/
def mix (K : Nat → Nat → Int) (g : Nat → Int) : Nat → Nat → Int
  | 0, i => g i
  | t + 1, i => K (bit t i) 0 * mix K g t (i - 2 ^ t * bit t i) + K (bit t i) 1 * mix K g t (i - 2 ^ t * bit t i + 2 ^ t)

theorem mix_sum (K : Nat → Nat → Int) (g : Nat → Int) : ∀ (t i : Nat), mix K g t i = sumN (fun y => kern K t i y * g (2 ^ t * (i / 2 ^ t) + y)) (2 ^ t)
  | 0, i => by simp [mix, sumN, kern]
  | t + 1, i => by
    have hb : i / 2 ^ t = 2 * (i / 2 ^ (t + 1)) + bit t i := by
      unfold bit; rw [Nat.pow_succ, ← Nat.div_div_eq_div_mul]; omega
    have hP := two_pow_pos t
    generalize hq : i / 2 ^ (t + 1) = q at *
    generalize hbb : bit t i = b at *
    have hi : i = 2 ^ t * (2 * q) + 2 ^ t * b + i % 2 ^ t := by
      have := Nat.div_add_mod i (2 ^ t); rw [hb, Nat.mul_add] at this; omega
    generalize hr : i % 2 ^ t = r at hi
    have hrlt : r < 2 ^ t := by rw [← hr]; exact Nat.mod_lt _ hP
    have hi0 : i - 2 ^ t * b = 2 ^ t * (2 * q) + r := by omega
    have hd0 : (2 ^ t * (2 * q) + r) / 2 ^ t = 2 * q := by rw [Nat.mul_add_div hP, Nat.div_eq_of_lt hrlt]; omega
    have hd1 : (2 ^ t * (2 * q) + r + 2 ^ t) / 2 ^ t = 2 * q + 1 := by rw [Nat.add_div_right _ hP, hd0]
    have hl0 : ∀ s, s < t → bit s (2 ^ t * (2 * q) + r) = bit s i := fun s hs => by
      rw [hi, show 2 ^ t * (2 * q) + 2 ^ t * b + r = (2 ^ t * (2 * q) + r) + 2 ^ t * b by omega, bit_low hs]
    have hl1 : ∀ s, s < t → bit s (2 ^ t * (2 * q) + r + 2 ^ t) = bit s i := fun s hs => by
      rw [← hl0 s hs]; have := bit_low hs (2 ^ t * (2 * q) + r) 1; rwa [Nat.mul_one] at this
    rw [mix, hbb, hi0, mix_sum K g t, mix_sum K g t, hd0, hd1, Nat.pow_succ, Nat.mul_two, sumN_add, ← sumN_mul, ← sumN_mul]
    congr 1
    · refine sumN_congr fun y hy => ?_
      have hby : bit t y = 0 := by unfold bit; rw [Nat.div_eq_of_lt hy]
      rw [kern, hbb, hby, kern_congr K t _ i y y hl0 (fun _ _ => rfl), show (2 ^ t + 2 ^ t) * q = 2 ^ t * (2 * q) by rw [← Nat.mul_two, Nat.mul_assoc]]
      rw [Int.mul_comm (kern K t i y) (K b 0), Int.mul_assoc]
    · refine sumN_congr fun y hy => ?_
      have hby : bit t (2 ^ t + y) = 1 := by unfold bit; rw [Nat.add_div_left _ hP, Nat.div_eq_of_lt hy]
      have hly : ∀ s, s < t → bit s y = bit s (2 ^ t + y) := fun s hs => by
        have := bit_low hs y 1; rw [Nat.mul_one, Nat.add_comm] at this; exact this.symm
      rw [kern, hbb, hby, kern_congr K t _ i y (2 ^ t + y) hl1 hly, show (2 ^ t + 2 ^ t) * q = 2 ^ t * (2 * q) by rw [← Nat.mul_two, Nat.mul_assoc]]
      rw [Int.mul_comm (kern K t i _) (K b 1), Int.mul_assoc, show 2 ^ t * (2 * q + 1) + y = 2 ^ t * (2 * q) + (2 ^ t + y) by rw [Nat.mul_add]; omega]

theorem mix_all (K : Nat → Nat → Int) (g : Nat → Int) (k a : Nat) (h : a < 2 ^ k) : mix K g k a = sumN (fun x => kern K k a x * g x) (2 ^ k) := by
  rw [mix_sum, Nat.div_eq_of_lt h]
  simp

/-- The signs' matrix. -/
def sg (b c : Nat) : Int := if b = 1 ∧ c = 1 then -1 else 1

theorem sg_comm (b c : Nat) : sg b c = sg c b := by unfold sg; split <;> split <;> first | rfl | omega

theorem kern_comm (t a x : Nat) : kern sg t a x = kern sg t x a := by
  induction t with
  | zero => rfl
  | succ t ih => rw [kern, kern, ih, sg_comm]

theorem sg_sq (b c : Nat) : sg b c * sg b c = 1 := by unfold sg; split <;> rfl
theorem kern_sq (t a x : Nat) : kern sg t a x * kern sg t a x = 1 := by
  induction t with
  | zero => rfl
  | succ t ih => rw [kern, show ∀ p q : Int, p * q * (p * q) = (p * p) * (q * q) from fun p q => by rw [Int.mul_assoc, Int.mul_assoc, Int.mul_left_comm q], ih, sg_sq]; rfl

/-- Two columns, together: 0, but where they are one. -/
theorem kern_orth : ∀ (t x y : Nat), sumN (fun a => kern sg t a x * kern sg t a y) (2 ^ t) = if ∀ s, s < t → bit s x = bit s y then 2 ^ t else 0
  | 0, x, y => by simp [sumN, kern]
  | t + 1, x, y => by
    have ih := kern_orth t x y
    have hP := two_pow_pos t
    rw [Nat.pow_succ, Nat.mul_two, sumN_add]
    have e1 : sumN (fun a => kern sg (t + 1) a x * kern sg (t + 1) a y) (2 ^ t) = sumN (fun a => kern sg t a x * kern sg t a y) (2 ^ t) := by
      refine sumN_congr fun a ha => ?_
      have hba : bit t a = 0 := by unfold bit; rw [Nat.div_eq_of_lt ha]
      rw [kern, kern, hba]
      simp [sg]
    have e2 : sumN (fun a => kern sg (t + 1) (2 ^ t + a) x * kern sg (t + 1) (2 ^ t + a) y) (2 ^ t) = sg 1 (bit t x) * sg 1 (bit t y) * sumN (fun a => kern sg t a x * kern sg t a y) (2 ^ t) := by
      rw [← sumN_mul]
      refine sumN_congr fun a ha => ?_
      have hba : bit t (2 ^ t + a) = 1 := by unfold bit; rw [Nat.add_div_left _ hP, Nat.div_eq_of_lt ha]
      have hla : ∀ s, s < t → bit s (2 ^ t + a) = bit s a := fun s hs => by
        have := bit_low hs a 1; rwa [Nat.mul_one, Nat.add_comm] at this
      rw [kern, kern, hba, kern_congr sg t _ a x x hla (fun _ _ => rfl), kern_congr sg t _ a y y hla (fun _ _ => rfl)]
      rw [show ∀ p q r s : Int, p * q * (r * s) = q * s * (p * r) from fun p q r s => by
        rw [Int.mul_assoc, Int.mul_left_comm q, ← Int.mul_assoc, Int.mul_comm (p * r)]]
    rw [e1, e2, ih]
    have hx := bit_lt t x
    have hy := bit_lt t y
    by_cases h : ∀ s, s < t → bit s x = bit s y
    · rw [if_pos h]
      by_cases hb : bit t x = bit t y
      · have hall : ∀ s, s < t + 1 → bit s x = bit s y := fun s hs => by
          rcases Nat.lt_succ_iff_lt_or_eq.1 hs with h1 | rfl
          · exact h s h1
          · exact hb
        rw [if_pos hall, hb, sg_sq, Int.pow_succ]; omega
      · have hall : ¬ ∀ s, s < t + 1 → bit s x = bit s y := fun hh => hb (hh t (by omega))
        rw [if_neg hall]
        have : sg 1 (bit t x) * sg 1 (bit t y) = -1 := by
          rcases (show (bit t x = 0 ∧ bit t y = 1) ∨ (bit t x = 1 ∧ bit t y = 0) by omega) with ⟨h1, h2⟩ | ⟨h1, h2⟩ <;> rw [h1, h2] <;> rfl
        rw [this]; omega
    · rw [if_neg h, if_neg (fun hh => h fun s hs => hh s (by omega))]; simp

theorem bits_eq : ∀ (t x y : Nat), x < 2 ^ t → y < 2 ^ t → (∀ s, s < t → bit s x = bit s y) → x = y
  | 0, x, y, hx, hy, _ => by simp at hx hy; omega
  | t + 1, x, y, hx, hy, h => by
    have hP := two_pow_pos t
    have e := h t (by omega)
    have hxx : x / 2 ^ t < 2 := by rw [Nat.div_lt_iff_lt_mul hP]; rw [Nat.pow_succ] at hx; omega
    have hyy : y / 2 ^ t < 2 := by rw [Nat.div_lt_iff_lt_mul hP]; rw [Nat.pow_succ] at hy; omega
    unfold bit at e
    rw [Nat.mod_eq_of_lt hxx, Nat.mod_eq_of_lt hyy] at e
    have h0 := bits_eq t (x % 2 ^ t) (y % 2 ^ t) (Nat.mod_lt _ hP) (Nat.mod_lt _ hP) (fun s hs => by
      have a1 := bit_low hs (x % 2 ^ t) (x / 2 ^ t)
      have a2 := bit_low hs (y % 2 ^ t) (y / 2 ^ t)
      rw [Nat.mod_add_div] at a1 a2
      rw [← a1, ← a2]; exact h s (by omega))
    rw [← Nat.mod_add_div x (2 ^ t), ← Nat.mod_add_div y (2 ^ t), h0, e]

theorem kern_orth' (k x y : Nat) (hx : x < 2 ^ k) (hy : y < 2 ^ k) : sumN (fun a => kern sg k a x * kern sg k a y) (2 ^ k) = if x = y then 2 ^ k else 0 := by
  rw [kern_orth]
  by_cases h : x = y
  · subst h; rw [if_pos (fun _ _ => rfl), if_pos rfl]
  · rw [if_neg h, if_neg (fun hh => h (bits_eq k x y hx hy hh))]

/-- Twice the spectrum is the function, 2 to the power of k times. -/
theorem spec_back (g : Nat → Int) (k y : Nat) (hy : y < 2 ^ k) :
    sumN (fun a => kern sg k y a * sumN (fun x => kern sg k a x * g x) (2 ^ k)) (2 ^ k) = 2 ^ k * g y := by
  have e : sumN (fun a => kern sg k y a * sumN (fun x => kern sg k a x * g x) (2 ^ k)) (2 ^ k) = sumN (fun x => g x * sumN (fun a => kern sg k a x * kern sg k a y) (2 ^ k)) (2 ^ k) := by
    rw [show (fun a => kern sg k y a * sumN (fun x => kern sg k a x * g x) (2 ^ k)) = fun a => sumN (fun x => kern sg k y a * (kern sg k a x * g x)) (2 ^ k) from
      funext fun a => (sumN_mul _ _ _).symm, sumN_comm]
    refine sumN_congr fun x hx => ?_
    rw [← sumN_mul]
    refine sumN_congr fun a ha => ?_
    rw [kern_comm k y a, Int.mul_comm (kern sg k a y), Int.mul_right_comm, Int.mul_comm _ (g x)]
  rw [e, sumN_single y hy]
  · rw [kern_orth' k y y hy hy, if_pos rfl, Int.mul_comm]
  · intro x hx hne
    rw [kern_orth' k x y hx hy, if_neg hne, Int.mul_zero]

/-- Parseval. -/
theorem spec_squares (g : Nat → Int) (k : Nat) :
    sumN (fun a => sumN (fun x => kern sg k a x * g x) (2 ^ k) * sumN (fun x => kern sg k a x * g x) (2 ^ k)) (2 ^ k) = 2 ^ k * sumN (fun x => g x * g x) (2 ^ k) := by
  have e : sumN (fun a => sumN (fun x => kern sg k a x * g x) (2 ^ k) * sumN (fun x => kern sg k a x * g x) (2 ^ k)) (2 ^ k)
      = sumN (fun y => g y * sumN (fun a => kern sg k y a * sumN (fun x => kern sg k a x * g x) (2 ^ k)) (2 ^ k)) (2 ^ k) := by
    rw [show (fun a => sumN (fun x => kern sg k a x * g x) (2 ^ k) * sumN (fun x => kern sg k a x * g x) (2 ^ k))
        = fun a => sumN (fun y => sumN (fun x => kern sg k a x * g x) (2 ^ k) * (kern sg k a y * g y)) (2 ^ k) from funext fun a => (sumN_mul _ _ _).symm, sumN_comm]
    refine sumN_congr fun y hy => ?_
    rw [← sumN_mul]
    refine sumN_congr fun a ha => ?_
    rw [kern_comm k y a, Int.mul_comm, Int.mul_assoc, Int.mul_left_comm]
  rw [e, ← sumN_mul]
  refine sumN_congr fun y hy => ?_
  rw [spec_back g k y hy, Int.mul_left_comm]

end Go.Proofs.Ytkgdohoandfaeaa
