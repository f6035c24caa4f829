/- Plain: finite sums; what the trace of a table P is where P * P is c * P (modulo a prime, or outright): c times a number of columns. -/
import Derived.Test.YtfggmgfobcgadaaBase
namespace Go.Proofs.Ytfggmgfobcgadaa

def sumN (f : Nat → Int) : Nat → Int
  | 0 => 0
  | k + 1 => sumN f k + f k
theorem sumN_congr {f g : Nat → Int} : ∀ {n : Nat}, (∀ y, y < n → f y = g y) → sumN f n = sumN g n
  | 0, _ => rfl
  | n + 1, h => by rw [sumN, sumN, sumN_congr (fun y hy => h y (by omega)), h n (by omega)]
theorem sumN_add (f g : Nat → Int) : ∀ n, sumN (fun y => f y + g y) n = sumN f n + sumN g n
  | 0 => rfl
  | n + 1 => by rw [sumN, sumN, sumN, sumN_add f g n]; omega
theorem sumN_mul (c : Int) (f : Nat → Int) : ∀ n, sumN (fun y => c * f y) n = c * sumN f n
  | 0 => by simp [sumN]
  | n + 1 => by rw [sumN, sumN, sumN_mul c f n, Int.mul_add]
theorem sumN_const (c : Int) : ∀ n, sumN (fun _ => c) n = c * n
  | 0 => by simp [sumN]
  | n + 1 => by rw [sumN, sumN_const c n]; grind
theorem sumN_zero {f : Nat → Int} : ∀ {n : Nat}, (∀ y, y < n → f y = 0) → sumN f n = 0
  | 0, _ => rfl
  | n + 1, h => by rw [sumN, sumN_zero (fun y hy => h y (by omega)), h n (by omega)]; rfl
theorem sumN_delta (f : Nat → Int) (i : Nat) : ∀ n, sumN (fun y => f y * if y = i then 1 else 0) n = if i < n then f i else 0
  | 0 => by simp [sumN]
  | n + 1 => by
    rw [sumN, sumN_delta f i n]
    by_cases h : n = i
    · subst h; simp
    · rw [if_neg h]
      by_cases h2 : i < n
      · rw [if_pos h2, if_pos (by omega)]; simp
      · rw [if_neg h2, if_neg (by omega)]; simp
theorem sumN_swap (f : Nat → Nat → Int) (m : Nat) : ∀ n, sumN (fun x => sumN (fun y => f x y) m) n = sumN (fun y => sumN (fun x => f x y) n) m
  | 0 => (sumN_zero fun _ _ => rfl).symm
  | n + 1 => by
    rw [sumN, sumN_swap f m n, ← sumN_add]
    exact sumN_congr fun y _ => rfl
theorem sumN_dvd (p : Int) {f : Nat → Int} : ∀ {n : Nat}, (∀ y, y < n → p ∣ f y) → p ∣ sumN f n
  | 0, _ => by simp [sumN]
  | n + 1, h => Int.dvd_add (sumN_dvd p fun y hy => h y (by omega)) (h n (by omega))

theorem quad_sum (f1 f2 h1 h2 : Nat → Int) (g a b : Int) : ∀ n, sumN (fun y => (g * f1 y - a * f2 y) * (g * h1 y - h2 y * b)) n =
    g * g * sumN (fun y => f1 y * h1 y) n - g * b * sumN (fun y => f1 y * h2 y) n - g * a * sumN (fun y => f2 y * h1 y) n + a * b * sumN (fun y => f2 y * h2 y) n
  | 0 => by simp [sumN]
  | n + 1 => by
    have ih := quad_sum f1 f2 h1 h2 g a b n
    simp only [sumN]
    rw [ih]
    grind
theorem lin_sum (f h1 h2 : Nat → Int) (g : Int) : ∀ n, sumN (fun y => g * f y - h1 y * h2 y) n = g * sumN f n - sumN (fun y => h2 y * h1 y) n
  | 0 => by simp [sumN]
  | n + 1 => by
    have ih := lin_sum f h1 h2 g n
    simp only [sumN]
    rw [ih]
    grind

theorem rank_trace (p : Int) (hp : ∀ a b : Int, p ∣ a * b → p ∣ a ∨ p ∣ b) (n : Nat) : ∀ (q j : Nat), j + q = n → ∀ (P : Nat → Nat → Int) (c : Int), ¬ p ∣ c →
    (∀ x z, x < n → z < n → p ∣ sumN (fun y => P x y * P y z) n - c * P x z) → (∀ x y, x < n → y < j → p ∣ P x y) → ∃ s : Nat, s ≤ q ∧ p ∣ sumN (fun x => P x x) n - c * s
  | 0, j, hj, P, c, _, _, hz => ⟨0, Nat.le_refl _, by
      have h := sumN_dvd p (f := fun x => P x x) (n := n) (fun y hy => hz y y hy (by omega))
      simpa using h⟩
  | q + 1, j, hj, P, c, hc, hP, hz => by
    by_cases hall : ∀ x, x < n → p ∣ P x j
    · obtain ⟨s, h1, h2⟩ := rank_trace p hp n q (j + 1) (by omega) P c hc hP (fun x y hx hy => by
        rcases Nat.lt_succ_iff_lt_or_eq.1 hy with h | rfl
        · exact hz x y hx h
        · exact hall x hx)
      exact ⟨s, by omega, h2⟩
    · obtain ⟨i, hi⟩ := Classical.not_forall.1 hall
      obtain ⟨hi1, hi2⟩ := Classical.not_imp.1 hi
      have hjn : j < n := by omega
      have hcg : ¬ p ∣ c * P i j := fun h => (hp _ _ h).elim hc hi2
      obtain ⟨s, h1, h2⟩ := rank_trace p hp n q (j + 1) (by omega) (fun x y => P i j * P x y - P x j * P i y) (c * P i j) hcg
        (fun x z hx hz' => by
          show p ∣ sumN (fun y => (P i j * P x y - P x j * P i y) * (P i j * P y z - P y j * P i z)) n - c * P i j * (P i j * P x z - P x j * P i z)
          rw [quad_sum (fun y => P x y) (fun y => P i y) (fun y => P y z) (fun y => P y j) (P i j) (P x j) (P i z) n]
          obtain ⟨t1, e1⟩ := hP x z hx hz'
          obtain ⟨t2, e2⟩ := hP x j hx hjn
          obtain ⟨t3, e3⟩ := hP i z hi1 hz'
          obtain ⟨t4, e4⟩ := hP i j hi1 hjn
          refine ⟨P i j * P i j * t1 - P i j * P i z * t2 - P i j * P x j * t3 + P x j * P i z * t4, ?_⟩
          have f1 : sumN (fun y => P x y * P y z) n = c * P x z + p * t1 := by omega
          have f2 : sumN (fun y => P x y * P y j) n = c * P x j + p * t2 := by omega
          have f3 : sumN (fun y => P i y * P y z) n = c * P i z + p * t3 := by omega
          have f4 : sumN (fun y => P i y * P y j) n = c * P i j + p * t4 := by omega
          rw [f1, f2, f3, f4]
          grind)
        (fun x y hx hy => by
          rcases Nat.lt_succ_iff_lt_or_eq.1 hy with h | rfl
          · obtain ⟨t1, e1⟩ := hz x y hx h
            obtain ⟨t2, e2⟩ := hz i y hi1 h
            exact ⟨P i j * t1 - P x j * t2, by show P i j * P x y - P x j * P i y = _; rw [e1, e2]; grind⟩
          · exact ⟨0, by show P i y * P x y - P x y * P i y = _; grind⟩)
      refine ⟨s + 1, by omega, ?_⟩
      have h3 : sumN (fun x => P i j * P x x - P x j * P i x) n = P i j * sumN (fun x => P x x) n - sumN (fun y => P i y * P y j) n := lin_sum (fun x => P x x) (fun x => P x j) (fun x => P i x) (P i j) n
      have h4 : p ∣ sumN (fun x => P i j * P x x - P x j * P i x) n - c * P i j * s := h2
      rw [h3] at h4
      obtain ⟨t4, e4⟩ := hP i j hi1 hjn
      obtain ⟨t5, e5⟩ := h4
      have h5 : p ∣ P i j * (sumN (fun x => P x x) n - c * (s + 1)) := by
        refine ⟨t5 + t4, ?_⟩
        have f4 : sumN (fun y => P i y * P y j) n = c * P i j + p * t4 := by omega
        rw [f4] at e5
        grind
      have h6 := (hp _ _ h5).resolve_left hi2
      simpa using h6

/-- 0 and primes. -/
theorem zero_splits (a b : Int) (h : (0 : Int) ∣ a * b) : (0 : Int) ∣ a ∨ (0 : Int) ∣ b := by
  rcases Int.mul_eq_zero.1 (Int.zero_dvd.1 h) with h | h
  · exact .inl (by rw [h]; exact Int.dvd_refl _)
  · exact .inr (by rw [h]; exact Int.dvd_refl _)
theorem big_small : ∀ q, q < 1000 → 2 ≤ q → ¬ q ∣ 890711 := by decide +kernel
theorem big_splits (a b : Int) (h : (890711 : Int) ∣ a * b) : (890711 : Int) ∣ a ∨ (890711 : Int) ∣ b := by
  have h1 : 890711 ∣ a.natAbs * b.natAbs := by
    have := Int.natAbs_dvd_natAbs.2 h
    rwa [Int.natAbs_mul] at this
  have hg : Nat.gcd 890711 a.natAbs ∣ 890711 := Nat.gcd_dvd_left _ _
  obtain ⟨e, he⟩ := hg
  by_cases g1 : Nat.gcd 890711 a.natAbs = 1
  · right
    have := Nat.Coprime.dvd_of_dvd_mul_left g1 h1
    exact Int.natAbs_dvd_natAbs.1 this
  · left
    have he1 : e = 1 := by
      by_cases e1 : e = 1
      · exact e1
      · exfalso
        have e0 : 2 ≤ e := by
          rcases Nat.eq_zero_or_pos e with h0 | h0
          · rw [h0] at he; simp at he
          · omega
        have g0 : 2 ≤ Nat.gcd 890711 a.natAbs := by
          rcases Nat.eq_zero_or_pos (Nat.gcd 890711 a.natAbs) with h0 | h0
          · rw [h0] at he; simp at he
          · omega
        have hd : e ∣ 890711 := ⟨Nat.gcd 890711 a.natAbs, by rw [Nat.mul_comm]; exact he⟩
        by_cases hs : e < 1000
        · exact big_small e hs e0 hd
        · have hs2 : Nat.gcd 890711 a.natAbs < 1000 := by
            by_cases h3 : Nat.gcd 890711 a.natAbs < 1000
            · exact h3
            · have := Nat.mul_le_mul (Nat.le_of_not_lt h3) (Nat.le_of_not_lt hs)
              omega
          exact big_small _ hs2 g0 (Nat.gcd_dvd_left _ _)
    rw [he1, Nat.mul_one] at he
    have : 890711 ∣ a.natAbs := he ▸ Nat.gcd_dvd_right _ _
    exact Int.natAbs_dvd_natAbs.1 this

end Go.Proofs.Ytfggmgfobcgadaa
