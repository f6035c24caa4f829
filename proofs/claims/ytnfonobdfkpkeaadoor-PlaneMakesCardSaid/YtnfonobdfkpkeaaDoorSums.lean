/- Sums and congruences of integers; plain. -/
namespace Go.Proofs.YtnfonobdfkpkeaaDoor

/-- A sum. -/
def sm (f : Nat → Int) : Nat → Int
  | 0 => 0
  | n + 1 => sm f n + f n
theorem sm_congr {f g : Nat → Int} : ∀ n, (∀ i, i < n → f i = g i) → sm f n = sm g n
  | 0, _ => rfl
  | n + 1, h => by rw [sm, sm, sm_congr n (fun i hi => h i (by omega)), h n (by omega)]
theorem sm_add (f g : Nat → Int) : ∀ n, sm (fun i => f i + g i) n = sm f n + sm g n
  | 0 => rfl
  | n + 1 => by rw [sm, sm, sm, sm_add f g n]; omega
theorem sm_sub (f g : Nat → Int) : ∀ n, sm (fun i => f i - g i) n = sm f n - sm g n
  | 0 => rfl
  | n + 1 => by rw [sm, sm, sm, sm_sub f g n]; omega
theorem sm_mul (c : Int) (f : Nat → Int) : ∀ n, sm (fun i => c * f i) n = c * sm f n
  | 0 => by simp [sm]
  | n + 1 => by rw [sm, sm, sm_mul c f n, Int.mul_add]
theorem sm_mulr (f : Nat → Int) (c : Int) (n : Nat) : sm (fun i => f i * c) n = sm f n * c := by
  rw [Int.mul_comm, ← sm_mul]; exact sm_congr n fun i _ => Int.mul_comm _ _
theorem sm_zero : ∀ n, sm (fun _ => 0) n = 0
  | 0 => rfl
  | n + 1 => by rw [sm, sm_zero n]; rfl
theorem sm_nil {f : Nat → Int} (n : Nat) (h : ∀ i, i < n → f i = 0) : sm f n = 0 := by rw [sm_congr n h, sm_zero]
theorem sm_swap (f : Nat → Nat → Int) (m : Nat) : ∀ n, sm (fun i => sm (fun j => f i j) m) n = sm (fun j => sm (fun i => f i j) n) m
  | 0 => by simp only [sm]; rw [sm_zero]
  | n + 1 => by
    rw [sm, sm_swap f m n, ← sm_add]; rfl
theorem sm_one {f : Nat → Int} {k : Nat} : ∀ n, k < n → (∀ i, i < n → i ≠ k → f i = 0) → sm f n = f k
  | 0, h, _ => by omega
  | n + 1, hk, h => by
    rw [sm]
    by_cases e : k = n
    · subst e; rw [sm_nil k (fun i hi => h i (by omega) (by omega))]; omega
    · rw [sm_one n (by omega) (fun i hi => h i (by omega)), h n (by omega) (Ne.symm e)]; omega
theorem sm_front (f : Nat → Int) : ∀ n, sm f (n + 1) = f 0 + sm (fun i => f (i + 1)) n
  | 0 => by simp [sm]
  | n + 1 => by rw [sm, sm_front f n, sm]; omega
theorem sm_neg (f : Nat → Int) : ∀ n, sm (fun i => -(f i)) n = -(sm f n)
  | 0 => rfl
  | n + 1 => by rw [sm, sm, sm_neg f n]; omega
theorem sm_nonneg {f : Nat → Int} : ∀ n, (∀ i, i < n → 0 ≤ f i) → 0 ≤ sm f n
  | 0, _ => by simp [sm]
  | n + 1, h => by rw [sm]; have := sm_nonneg n (fun i hi => h i (by omega)); have := h n (by omega); omega

/-- Alike modulo p. -/
def Cg (p a b : Int) : Prop := ∃ t, a = b + p * t
theorem Cg.refl (p a : Int) : Cg p a a := ⟨0, by simp⟩
theorem Cg.of_eq {p a b : Int} (h : a = b) : Cg p a b := h ▸ Cg.refl p a
theorem Cg.symm {p a b : Int} (h : Cg p a b) : Cg p b a := by obtain ⟨t, rfl⟩ := h; exact ⟨-t, by rw [Int.mul_neg]; omega⟩
theorem Cg.trans {p a b c : Int} (h : Cg p a b) (k : Cg p b c) : Cg p a c := by obtain ⟨t, rfl⟩ := h; obtain ⟨u, rfl⟩ := k; exact ⟨u + t, by rw [Int.mul_add]; omega⟩
theorem Cg.add {p a b c d : Int} (h : Cg p a b) (k : Cg p c d) : Cg p (a + c) (b + d) := by obtain ⟨t, rfl⟩ := h; obtain ⟨u, rfl⟩ := k; exact ⟨t + u, by rw [Int.mul_add]; omega⟩
theorem Cg.neg {p a b : Int} (h : Cg p a b) : Cg p (-a) (-b) := by obtain ⟨t, rfl⟩ := h; exact ⟨-t, by rw [Int.mul_neg]; omega⟩
theorem Cg.sub {p a b c d : Int} (h : Cg p a b) (k : Cg p c d) : Cg p (a - c) (b - d) := by rw [Int.sub_eq_add_neg, Int.sub_eq_add_neg]; exact h.add k.neg
theorem Cg.mul_left {p a b : Int} (c : Int) (h : Cg p a b) : Cg p (c * a) (c * b) := by obtain ⟨t, rfl⟩ := h; exact ⟨c * t, by rw [Int.mul_add, Int.mul_left_comm]⟩
theorem Cg.mul_right {p a b : Int} (c : Int) (h : Cg p a b) : Cg p (a * c) (b * c) := by rw [Int.mul_comm a, Int.mul_comm b]; exact h.mul_left c
theorem Cg.mul {p a b c d : Int} (h : Cg p a b) (k : Cg p c d) : Cg p (a * c) (b * d) := (h.mul_right c).trans (k.mul_left b)
theorem Cg.mod (p a : Int) : Cg p (a % p) a := ⟨-(a / p), by have := Int.emod_add_mul_ediv a p; rw [Int.mul_neg]; omega⟩
theorem Cg.sm {p : Int} {f g : Nat → Int} : ∀ n, (∀ i, i < n → Cg p (f i) (g i)) → Cg p (sm f n) (sm g n)
  | 0, _ => Cg.refl _ _
  | n + 1, h => (Cg.sm n (fun i hi => h i (by omega))).add (h n (by omega))
theorem Cg.emod {p a b : Int} (h : Cg p a b) : a % p = b % p := by
  obtain ⟨t, rfl⟩ := h
  rw [Int.add_mul_emod_self_left]
theorem Cg.eq {p a b : Int} (h : Cg p a b) (ha : 0 ≤ a) (ha' : a < p) (hb : 0 ≤ b) (hb' : b < p) : a = b := by
  have := h.emod
  rwa [Int.emod_eq_of_lt ha ha', Int.emod_eq_of_lt hb hb'] at this
theorem Cg.self (p : Int) (a : Int) : Cg p (a + p) a := ⟨1, by omega⟩

end Go.Proofs.YtnfonobdfkpkeaaDoor
