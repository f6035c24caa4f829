/- Degree and immunity are, together, k at most (Siegenthaler). -/
import Derived.Test.YtbbjjfgainbmdaaImmune
namespace Go.Proofs.Ytbbjjfgainbmdaa
open Go.RowKit

theorem wtS_succ (t u : Nat) : wtS (t + 1) u = wtS t u + bit t u := rfl
/-- Apart. -/
def awayK (b c : Nat) : Int := if b = 1 ∧ c = 1 then 0 else 1
/-- 2 for each bit that is 0. -/
def pw : Nat → Nat → Int
  | 0, _ => 1
  | t + 1, u => pw t u * (if bit t u = 1 then 1 else 2)
theorem pw_eq : ∀ t u, ∃ z : Nat, pw t u = 2 ^ z ∧ z + wtS t u = t
  | 0, u => ⟨0, rfl, rfl⟩
  | t + 1, u => by
    obtain ⟨z, h1, h2⟩ := pw_eq t u
    rcases bit_cases t u with e | e
    · exact ⟨z + 1, by rw [pw, h1, e, Int.pow_succ]; rfl, by rw [wtS_succ, e]; omega⟩
    · exact ⟨z, by rw [pw, h1, e]; simp, by rw [wtS_succ, e]; omega⟩
theorem kern_awaysg : ∀ t u x, kern (compK awayK sg) t u x = pw t u * kern anfK t u x
  | 0, u, x => by simp [kern, pw]
  | t + 1, u, x => by
    rw [kern, kern, kern_awaysg t u x, pw]
    have : compK awayK sg (bit t u) (bit t x) = (if bit t u = 1 then 1 else 2) * anfK (bit t u) (bit t x) := by
      rcases bit_cases t u with e | e <;> rcases bit_cases t x with e' | e' <;> rw [e, e'] <;> decide
    rw [this]; grind
theorem kern_away_zero : ∀ t u, kern awayK t u 0 = 1
  | 0, u => rfl
  | t + 1, u => by
    have : bit t 0 = 0 := by simp [bit]
    rw [kern, kern_away_zero t u, this]; simp [awayK]
theorem kern_away_wt : ∀ t u a, kern awayK t u a ≠ 0 → wtS t a + wtS t u ≤ t
  | 0, u, a, _ => Nat.le_refl _
  | t + 1, u, a, h => by
    rw [kern] at h
    have h1 : kern awayK t u a ≠ 0 := fun e => h (by rw [e, Int.zero_mul])
    have h2 : awayK (bit t u) (bit t a) ≠ 0 := fun e => h (by rw [e, Int.mul_zero])
    have := kern_away_wt t u a h1
    rw [wtS_succ, wtS_succ]
    have hu := bit_lt t u
    have ha := bit_lt t a
    have : ¬ (bit t u = 1 ∧ bit t a = 1) := fun e => h2 (by unfold awayK; rw [if_pos e])
    omega

/-- The sum with signs. -/
def wsum (t : List Int) (k a : Nat) : Int := sumN (fun x => kern sg k a x * nth t x) (2 ^ k)
theorem kern_sg_zero : ∀ k x, kern sg k x 0 = 1
  | 0, x => rfl
  | k + 1, x => by
    have : bit k 0 = 0 := by simp [bit]
    rw [kern, kern_sg_zero k x, this]; simp [sg]
theorem kern_sum (k a : Nat) (ha : a < 2 ^ k) : sumN (fun x => kern sg k a x) (2 ^ k) = if a = 0 then 2 ^ k else 0 := by
  rw [← kern_orth' k a 0 ha (two_pow_pos k)]
  exact sumN_congr fun x _ => by rw [kern_sg_zero, Int.mul_one, kern_comm]
theorem spec_wsum (t : List Int) (k a : Nat) (ha : a < 2 ^ k) (h0 : 0 < a) : spec t k a = -2 * wsum t k a := by
  have h : spec t k a = sumN (fun x => kern sg k a x + -2 * (kern sg k a x * nth t x)) (2 ^ k) := sumN_congr fun x _ => by grind
  rw [h, sumN_plus, kern_sum k a ha, if_neg (by omega), sumN_mul, Int.zero_add]; rfl
theorem poisson (t : List Int) (k u : Nat) : sumN (fun a => kern awayK k u a * wsum t k a) (2 ^ k) = pw k u * sumN (fun x => kern anfK k u x * nth t x) (2 ^ k) := by
  have h : sumN (fun a => kern awayK k u a * wsum t k a) (2 ^ k) = sumN (fun a => sumN (fun x => kern awayK k u a * (kern sg k a x * nth t x)) (2 ^ k)) (2 ^ k) :=
    sumN_congr fun a _ => by rw [sumN_mul]; rfl
  rw [h, sumN_comm, ← sumN_mul]
  refine sumN_congr fun x _ => ?_
  rw [← Int.mul_assoc, ← kern_awaysg, ← kern_comp, Int.mul_comm, ← sumN_mul]
  exact sumN_congr fun a _ => by grind

theorem exists_wt : ∀ t j, j ≤ t → ∃ v, v < 2 ^ t ∧ wtS t v = j
  | 0, j, h => ⟨0, by simp, by rw [show j = 0 by omega]; rfl⟩
  | t + 1, j, h => by
    by_cases hj : j ≤ t
    · obtain ⟨v, h1, h2⟩ := exists_wt t j hj
      have hb : bit t v = 0 := by unfold bit; rw [Nat.div_eq_of_lt h1]
      exact ⟨v, by rw [Nat.pow_succ]; omega, by rw [wtS_succ, hb, h2]; rfl⟩
    · obtain ⟨v, h1, h2⟩ := exists_wt t t (Nat.le_refl _)
      have hb : bit t (2 ^ t + v) = 1 := by unfold bit; rw [Nat.add_div_left _ (two_pow_pos t), Nat.div_eq_of_lt h1]
      have hl : ∀ d, d ≤ t → wtS d (2 ^ t + v) = wtS d v := by
        intro d
        induction d with
        | zero => intro _; rfl
        | succ d ih =>
          intro hd
          rw [wtS_succ, wtS_succ, ih (by omega)]
          have := bit_low (show d < t by omega) v 1
          rw [Nat.mul_one, Nat.add_comm] at this
          rw [this]
      exact ⟨2 ^ t + v, by rw [Nat.pow_succ]; omega, by rw [wtS_succ, hb, hl t (Nat.le_refl _), h2]; omega⟩

theorem degTo_mem (l : List Int) : ∀ j, degTo l j = 0 ∨ ∃ u, u < j ∧ nth l u = 1 ∧ degTo l j = wt u
  | 0 => .inl rfl
  | j + 1 => by
    rw [degTo]
    split
    · rename_i h; exact .inr ⟨j, by omega, h.1, rfl⟩
    · rcases degTo_mem l j with h | ⟨u, h1, h2, h3⟩
      · exact .inl h
      · exact .inr ⟨u, by omega, h2, h3⟩

/-- Where all sums of few bits are 0, each part takes its share. -/
theorem share (t : List Int) (k u m : Nat) (hz : ∀ a, a < 2 ^ k → 0 < a → wtS k a ≤ m → wsum t k a = 0) (hu : k ≤ wtS k u + m) :
    wsum t k 0 = pw k u * sumN (fun x => kern anfK k u x * nth t x) (2 ^ k) := by
  rw [← poisson, sumN_single 0 (two_pow_pos k)]
  · rw [kern_away_zero, Int.one_mul]
  · intro a ha hne
    by_cases h : kern awayK k u a = 0
    · rw [h, Int.zero_mul]
    · have := kern_away_wt k u a h
      rw [hz a ha (by omega) (by omega), Int.mul_zero]

theorem siegenthaler (t : List Int) (k : Nat) (ht : IsTable t k) : degTo (anfL t k (2 ^ k)) (2 ^ k) + immTo (tab (spec t k) (2 ^ k)) k (2 ^ k) ≤ k := by
  have h8 := ht.k8
  have hN := pow8 h8
  have hle := immTo_le (tab (spec t k) (2 ^ k)) k (2 ^ k)
  have hge := immTo_bound (tab (spec t k) (2 ^ k)) k (2 ^ k) hN
  rcases degTo_mem (anfL t k (2 ^ k)) (2 ^ k) with h | ⟨u, hu, hu1, hd⟩
  · rw [h]; omega
  · rw [hd]
    obtain ⟨m, hm⟩ : ∃ m : Nat, (m : Int) = immTo (tab (spec t k) (2 ^ k)) k (2 ^ k) := ⟨(immTo (tab (spec t k) (2 ^ k)) k (2 ^ k)).toNat, by omega⟩
    rw [wt_eq k u h8 hu, ← hm]
    rcases Nat.lt_or_ge k (wtS k u + m) with hlt | hge2
    · exfalso
      have hz : ∀ a, a < 2 ^ k → 0 < a → wtS k a ≤ m → wsum t k a = 0 := fun a ha h0 hw => by
        by_cases hs : nth (tab (spec t k) (2 ^ k)) a = 0
        · rw [nth_tab _ _ _ ha, spec_wsum t k a ha h0] at hs; omega
        · have := immTo_at (tab (spec t k) (2 ^ k)) k a h0 hs (2 ^ k) ha
          rw [← hm, wt_eq k a h8 ha] at this; omega
      have e1 := share t k u m hz (by omega)
      obtain ⟨v, hv, hwv⟩ := exists_wt k (k - m) (by omega)
      have e2 := share t k v m hz (by omega)
      obtain ⟨z1, p1, q1⟩ := pw_eq k u
      obtain ⟨z2, p2, q2⟩ := pw_eq k v
      rw [p1] at e1
      rw [p2] at e2
      have hu2 : sumN (fun x => kern anfK k u x * nth t x) (2 ^ k) % 2 = 1 := by
        unfold anfL at hu1
        rw [nth_tab _ _ _ hu] at hu1
        unfold mixA at hu1
        rwa [mix_all _ _ _ _ hu] at hu1
      generalize sumN (fun x => kern anfK k u x * nth t x) (2 ^ k) = S at *
      generalize sumN (fun x => kern anfK k v x * nth t x) (2 ^ k) = R at *
      obtain ⟨d, hd2⟩ : ∃ d, z2 = z1 + (d + 1) := ⟨z2 - z1 - 1, by omega⟩
      rw [e1, hd2, Int.pow_add, Int.mul_assoc] at e2
      have hpos : (2 : Int) ^ z1 ≠ 0 := by
        have : ((2 ^ z1 : Nat) : Int) = (2 : Int) ^ z1 := by simp
        have := two_pow_pos z1
        omega
      have e3 := Int.eq_of_mul_eq_mul_left hpos e2
      rw [Int.pow_succ, Int.mul_right_comm] at e3
      omega
    · omega

end Go.Proofs.Ytbbjjfgainbmdaa
