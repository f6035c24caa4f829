/- Fields told by their operations, sums, and spaces of rows over them. Plain, no program. -/

namespace Go.Proofs.YtnhdngnolepkcaaDoor
set_option linter.unusedSectionVars false

class Fld (K : Type) extends Add K, Mul K, Neg K, Zero K, One K where
  inv : K → K
  add_comm : ∀ a b : K, a + b = b + a
  add_assoc : ∀ a b c : K, a + b + c = a + (b + c)
  add_zero : ∀ a : K, a + 0 = a
  add_neg : ∀ a : K, a + -a = 0
  mul_comm : ∀ a b : K, a * b = b * a
  mul_assoc : ∀ a b c : K, a * b * c = a * (b * c)
  mul_one : ∀ a : K, a * 1 = a
  add_mul : ∀ a b c : K, (a + b) * c = a * c + b * c
  mul_inv : ∀ a : K, a ≠ 0 → a * inv a = 1
  one_ne : (1 : K) ≠ 0

namespace Fld
variable {K : Type} [Fld K]
instance : Std.Associative (α := K) (· + ·) := ⟨add_assoc⟩
instance : Std.Commutative (α := K) (· + ·) := ⟨add_comm⟩
instance : Std.Associative (α := K) (· * ·) := ⟨mul_assoc⟩
instance : Std.Commutative (α := K) (· * ·) := ⟨mul_comm⟩
theorem zero_add (a : K) : 0 + a = a := by rw [add_comm, add_zero]
theorem neg_add (a : K) : -a + a = 0 := by rw [add_comm, add_neg]
theorem one_mul (a : K) : 1 * a = a := by rw [mul_comm, mul_one]
theorem mul_add (a b c : K) : a * (b + c) = a * b + a * c := by rw [mul_comm, add_mul, mul_comm b, mul_comm c]
theorem add_cancel {a b c : K} (h : a + b = a + c) : b = c := by
  have := congrArg (fun x => -a + x) h
  simpa only [← add_assoc, neg_add, zero_add] using this
theorem zero_mul (a : K) : 0 * a = 0 := by
  have h : 0 * a + 0 * a = 0 * a + 0 := by rw [← add_mul, add_zero, add_zero]
  exact add_cancel h
theorem mul_zero (a : K) : a * 0 = 0 := by rw [mul_comm, zero_mul]
theorem neg_unique {a b : K} (h : a + b = 0) : b = -a := add_cancel (a := a) (by rw [h, add_neg])
theorem neg_mul (a b : K) : -a * b = -(a * b) := neg_unique (by rw [← add_mul, add_neg, zero_mul])
theorem mul_neg (a b : K) : a * -b = -(a * b) := by rw [mul_comm, neg_mul, mul_comm]
theorem neg_neg (a : K) : - -a = a := (neg_unique (neg_add a)).symm
theorem neg_zero : -(0 : K) = 0 := (neg_unique (add_zero 0)).symm
theorem neg_sum (a b : K) : -(a + b) = -a + -b := by
  refine (neg_unique ?_).symm
  have : a + b + (-a + -b) = (a + -a) + (b + -b) := by ac_rfl
  rw [this, add_neg, add_neg, add_zero]
theorem mul_ne {a b : K} (ha : a ≠ 0) (hb : b ≠ 0) : a * b ≠ 0 := by
  intro h
  have := congrArg (fun x => inv a * x) h
  simp only [mul_zero, ← mul_assoc] at this
  rw [mul_comm (inv a), mul_inv a ha, one_mul] at this
  exact hb this
theorem inv_ne {a : K} (ha : a ≠ 0) : inv a ≠ 0 := by
  intro h
  have := mul_inv a ha
  rw [h, mul_zero] at this
  exact one_ne this.symm
theorem neg_ne {a : K} (ha : a ≠ 0) : -a ≠ 0 := fun h => ha (by rw [← neg_neg a, h, neg_zero])
theorem eq_of_sub {a b : K} (h : a + -b = 0) : a = b := by
  have := neg_unique (a := -b) (b := a) (by rw [add_comm]; exact h)
  rw [this, neg_neg]
end Fld
open Fld

/-- A sum in a field. -/
def ks {K : Type} [Fld K] (f : Nat → K) : Nat → K
  | 0 => 0
  | n + 1 => ks f n + f n

section
variable {K : Type} [Fld K]
theorem ks_congr {f g : Nat → K} : ∀ n, (∀ i, i < n → f i = g i) → ks f n = ks g n
  | 0, _ => rfl
  | n + 1, h => by rw [ks, ks, ks_congr n (fun i hi => h i (by omega)), h n (by omega)]
theorem ks_add (f g : Nat → K) : ∀ n, ks (fun i => f i + g i) n = ks f n + ks g n
  | 0 => (add_zero 0).symm
  | n + 1 => by rw [ks, ks, ks, ks_add f g n]; ac_rfl
theorem ks_mul (c : K) (f : Nat → K) : ∀ n, ks (fun i => c * f i) n = c * ks f n
  | 0 => (mul_zero c).symm
  | n + 1 => by rw [ks, ks, ks_mul c f n, mul_add]
theorem ks_mulr (f : Nat → K) (c : K) (n : Nat) : ks (fun i => f i * c) n = ks f n * c := by
  rw [mul_comm, ← ks_mul]; exact ks_congr n fun i _ => mul_comm _ _
theorem ks_nil {f : Nat → K} : ∀ n, (∀ i, i < n → f i = 0) → ks f n = 0
  | 0, _ => rfl
  | n + 1, h => by rw [ks, ks_nil n (fun i hi => h i (by omega)), h n (by omega), add_zero]
theorem ks_swap (f : Nat → Nat → K) (m : Nat) : ∀ n, ks (fun i => ks (fun j => f i j) m) n = ks (fun j => ks (fun i => f i j) n) m
  | 0 => by simp only [ks]; rw [ks_nil m fun _ _ => rfl]
  | n + 1 => by rw [ks, ks_swap f m n, ← ks_add]; rfl
theorem ks_one {f : Nat → K} {k : Nat} : ∀ n, k < n → (∀ i, i < n → i ≠ k → f i = 0) → ks f n = f k
  | 0, h, _ => by omega
  | n + 1, hk, h => by
    rw [ks]
    by_cases e : k = n
    · subst e; rw [ks_nil k (fun i hi => h i (by omega) (by omega)), zero_add]
    · rw [ks_one n (by omega) (fun i hi => h i (by omega)), h n (by omega) (Ne.symm e), add_zero]
theorem ks_pick {n k : Nat} (f : Nat → K) (hk : k < n) : ks (fun i => f i * (if i = k then 1 else 0)) n = f k := by
  rw [ks_one n hk (fun i _ h => by rw [if_neg h, mul_zero]), if_pos rfl, mul_one]
theorem ks_neg (f : Nat → K) : ∀ n, ks (fun i => -(f i)) n = -(ks f n)
  | 0 => neg_zero.symm
  | n + 1 => by rw [ks, ks, ks_neg f n, neg_sum]
theorem ks_split (f : Nat → K) (m : Nat) : ∀ n, ks f (m + n) = ks f m + ks (fun i => f (m + i)) n
  | 0 => (add_zero _).symm
  | n + 1 => by rw [← Nat.add_assoc, ks, ks_split f m n, ks, add_assoc]

/-- The row of zeros; a row and another one times an element. -/
def vz : Nat → K := fun _ => 0
def lin (u : Nat → K) (a : K) (r : Nat → K) : Nat → K := fun i => u i + a * r i
theorem lin_zero (u r : Nat → K) : lin u 0 r = u := funext fun i => by unfold lin; rw [zero_mul, add_zero]

/-- A space of rows of n elements (nothing behind). -/
structure Sub (n : Nat) (S : (Nat → K) → Prop) : Prop where
  zero : S vz
  sup : ∀ v, S v → ∀ i, n ≤ i → v i = 0
  lin : ∀ u a r, S u → S r → S (lin u a r)

/-- The span of rows. -/
def Span : List (Nat → K) → (Nat → K) → Prop
  | [], v => v = vz
  | r :: rs, v => ∃ a u, Span rs u ∧ v = lin u a r

theorem span_zero : ∀ L : List (Nat → K), Span L vz
  | [] => rfl
  | _ :: L => ⟨0, vz, span_zero L, (lin_zero _ _).symm⟩
theorem span_lin : ∀ (L : List (Nat → K)) (u : Nat → K) (a : K) (r : Nat → K), Span L u → Span L r → Span L (lin u a r)
  | [], u, a, r, hu, hr => by
    have hu : u = vz := hu
    have hr : r = vz := hr
    subst hu hr
    show lin vz a vz = vz
    funext i; unfold lin vz; rw [mul_zero, add_zero]
  | x :: L, _, a, _, ⟨b, u, hu, rfl⟩, ⟨c, r, hr, rfl⟩ => by
    refine ⟨b + a * c, lin u a r, span_lin L u a r hu hr, funext fun i => ?_⟩
    unfold lin
    rw [mul_add, add_mul]
    ac_rfl
theorem span_head (r : Nat → K) (L : List (Nat → K)) : Span (r :: L) r := ⟨1, vz, span_zero L, funext fun i => by unfold lin vz; rw [one_mul, zero_add]⟩
theorem span_tail {r v : Nat → K} {L : List (Nat → K)} (h : Span L v) : Span (r :: L) v := ⟨0, v, h, (lin_zero _ _).symm⟩
theorem span_mem : ∀ {L : List (Nat → K)} {r : Nat → K}, r ∈ L → Span L r
  | x :: L, r, h => by
    rcases List.mem_cons.1 h with rfl | h
    · exact span_head _ _
    · exact span_tail (span_mem h)
theorem span_le_of {S : (Nat → K) → Prop} (h0 : S vz) (hl : ∀ u a r, S u → S r → S (lin u a r)) : ∀ {L : List (Nat → K)} {v : Nat → K}, (∀ r ∈ L, S r) → Span L v → S v
  | [], v, _, h => by have h : v = vz := h; rw [h]; exact h0
  | x :: L, _, hL, ⟨a, u, hu, e⟩ => by
    rw [e]
    exact hl _ _ _ (span_le_of h0 hl (fun r hr => hL r (List.mem_cons_of_mem _ hr)) hu) (hL x List.mem_cons_self)
theorem Sub.span_le {n : Nat} {S : (Nat → K) → Prop} (hS : Sub n S) {L : List (Nat → K)} {v : Nat → K} (h : ∀ r ∈ L, S r) (hv : Span L v) : S v := span_le_of hS.zero hS.lin h hv
theorem span_sub {n : Nat} {L : List (Nat → K)} (h : ∀ r ∈ L, ∀ i, n ≤ i → r i = 0) : Sub n (Span L) := by
  refine ⟨span_zero L, fun v hv => ?_, span_lin L⟩
  refine span_le_of (S := fun v => ∀ i, n ≤ i → v i = 0) (fun i _ => rfl) (fun u a r hu hr i hi => ?_) h hv
  unfold lin; rw [hu i hi, hr i hi, mul_zero, add_zero]
theorem span_trans {L M : List (Nat → K)} {v : Nat → K} (h : ∀ r ∈ L, Span M r) (hv : Span L v) : Span M v := span_le_of (span_zero M) (span_lin M) h hv
theorem span_same {L M : List (Nat → K)} (h : ∀ r ∈ L, Span M r) (k : ∀ r ∈ M, Span L r) (v : Nat → K) : Span L v ↔ Span M v := ⟨span_trans h, span_trans k⟩
theorem span_sublist {L M : List (Nat → K)} (h : ∀ r ∈ L, r ∈ M) {v : Nat → K} (hv : Span L v) : Span M v := span_trans (fun r hr => span_mem (h r hr)) hv
theorem span_snoc {L : List (Nat → K)} {r v : Nat → K} : Span (L ++ [r]) v ↔ ∃ a u, Span L u ∧ v = lin u a r := by
  have h : Span (L ++ [r]) v ↔ Span (r :: L) v := span_same (fun x hx => span_mem (by simp at hx ⊢; rcases hx with h | h; exact .inr h; exact .inl h)) (fun x hx => span_mem (by simp at hx ⊢; rcases hx with h | h; exact .inr h; exact .inl h)) v
  exact h
theorem span_append {L M : List (Nat → K)} {v : Nat → K} : Span (L ++ M) v ↔ ∃ x y, Span L x ∧ Span M y ∧ v = lin x 1 y := by
  constructor
  · refine span_le_of (S := fun v => ∃ x y, Span L x ∧ Span M y ∧ v = lin x 1 y) ⟨vz, vz, span_zero L, span_zero M, funext fun i => by unfold lin vz; rw [one_mul, add_zero]⟩ ?_ ?_
    · rintro _ a _ ⟨x, y, hx, hy, rfl⟩ ⟨x', y', hx', hy', rfl⟩
      refine ⟨lin x a x', lin y a y', span_lin L _ _ _ hx hx', span_lin M _ _ _ hy hy', funext fun i => ?_⟩
      unfold lin
      rw [one_mul, one_mul, one_mul, mul_add]
      ac_rfl
    · intro r hr
      rcases List.mem_append.1 hr with h | h
      · exact ⟨r, vz, span_mem h, span_zero M, funext fun i => by unfold lin vz; rw [mul_zero, add_zero]⟩
      · exact ⟨vz, r, span_zero L, span_mem h, funext fun i => by unfold lin vz; rw [one_mul, zero_add]⟩
  · rintro ⟨x, y, hx, hy, rfl⟩
    exact span_lin _ _ _ _ (span_sublist (fun r hr => List.mem_append_left _ hr) hx) (span_sublist (fun r hr => List.mem_append_right _ hr) hy)

/-- Two rows, cell by cell. -/
def dot (n : Nat) (u v : Nat → K) : K := ks (fun c => u c * v c) n
theorem dot_comm (n : Nat) (u v : Nat → K) : dot n u v = dot n v u := ks_congr n fun _ _ => mul_comm _ _
theorem dot_lin (n : Nat) (w u : Nat → K) (a : K) (r : Nat → K) : dot n w (lin u a r) = dot n w u + a * dot n w r := by
  unfold dot lin
  rw [← ks_mul, ← ks_add]
  refine ks_congr n fun i _ => ?_
  rw [mul_add]
  have : w i * (a * r i) = a * (w i * r i) := by ac_rfl
  rw [this]
theorem dot_lin_left (n : Nat) (w u : Nat → K) (a : K) (r : Nat → K) : dot n (lin u a r) w = dot n u w + a * dot n r w := by
  rw [dot_comm, dot_lin, dot_comm, dot_comm n w r]
theorem dot_zero (n : Nat) (w : Nat → K) : dot n w vz = 0 := ks_nil n fun _ _ => mul_zero _

/-- What is normal to rows. -/
def Nul (n : Nat) (S : (Nat → K) → Prop) (v : Nat → K) : Prop := (∀ i, n ≤ i → v i = 0) ∧ ∀ r, S r → dot n r v = 0
theorem nul_sub (n : Nat) (S : (Nat → K) → Prop) : Sub n (Nul n S) := by
  refine ⟨⟨fun _ _ => rfl, fun r _ => dot_zero n r⟩, fun _ h => h.1, fun u a r hu hr => ⟨fun i hi => ?_, fun x hx => ?_⟩⟩
  · unfold lin; rw [hu.1 i hi, hr.1 i hi, mul_zero, add_zero]
  · rw [dot_lin, hu.2 x hx, hr.2 x hx, mul_zero, add_zero]
theorem nul_span {n : Nat} {L : List (Nat → K)} {v : Nat → K} : Nul n (Span L) v ↔ (∀ i, n ≤ i → v i = 0) ∧ ∀ r ∈ L, dot n r v = 0 := by
  refine ⟨fun h => ⟨h.1, fun r hr => h.2 r (span_mem hr)⟩, fun h => ⟨h.1, fun r hr => ?_⟩⟩
  refine span_le_of (S := fun r => dot n r v = 0) (by rw [dot_comm]; exact dot_zero n v) (fun u a r hu hr => ?_) h.2 hr
  rw [dot_lin_left, hu, hr, mul_zero, add_zero]
theorem nul_congr {n : Nat} {S T : (Nat → K) → Prop} (h : ∀ v, S v ↔ T v) (v : Nat → K) : Nul n S v ↔ Nul n T v :=
  ⟨fun k => ⟨k.1, fun r hr => k.2 r ((h r).2 hr)⟩, fun k => ⟨k.1, fun r hr => k.2 r ((h r).1 hr)⟩⟩
end
end Go.Proofs.YtnhdngnolepkcaaDoor

/- Reduced bases, what is normal to them, and the way to reach them. Plain, no program. -/
namespace Go.Proofs.YtnhdngnolepkcaaDoor
set_option linter.unusedSectionVars false
open Fld

section
variable {K : Type} [Fld K]
theorem ks_front (f : Nat → K) : ∀ n, ks f (n + 1) = f 0 + ks (fun i => f (i + 1)) n
  | 0 => by rw [ks, ks, ks, zero_add, add_zero]
  | n + 1 => by rw [ks, ks_front f n, ks]; ac_rfl

/-- The rows of a list, by their places. -/
def rowAt (L : List (Nat → K)) (i : Nat) : Nat → K := L.getD i vz
theorem rowAt_eq (L : List (Nat → K)) (i : Nat) (h : i < L.length) : rowAt L i = L[i] := by simp [rowAt, h]
theorem rowAt_mem (L : List (Nat → K)) (i : Nat) (h : i < L.length) : rowAt L i ∈ L := by rw [rowAt_eq L i h]; exact List.getElem_mem h
theorem mem_rowAt {L : List (Nat → K)} {r : Nat → K} (h : r ∈ L) : ∃ i, i < L.length ∧ rowAt L i = r := by
  obtain ⟨i, hi, e⟩ := List.mem_iff_getElem.1 h
  exact ⟨i, hi, by rw [rowAt_eq L i hi, e]⟩
theorem span_ks {L : List (Nat → K)} {w : Nat → Nat → K} (a : Nat → K) : ∀ m, (∀ i, i < m → Span L (w i)) → Span L (fun c => ks (fun i => a i * w i c) m)
  | 0, _ => span_zero L
  | m + 1, h => span_lin L _ _ _ (span_ks a m fun i hi => h i (by omega)) (h m (by omega))
theorem span_sum : ∀ (L : List (Nat → K)) (v : Nat → K), Span L v → ∃ a : Nat → K, ∀ c, v c = ks (fun i => a i * rowAt L i c) L.length
  | [], v, h => ⟨fun _ => 0, fun c => by have h : v = vz := h; rw [h]; rfl⟩
  | r :: L, _, ⟨a, u, hu, e⟩ => by
    obtain ⟨b, hb⟩ := span_sum L u hu
    refine ⟨fun i => match i with | 0 => a | i + 1 => b i, fun c => ?_⟩
    subst e
    rw [List.length_cons, ks_front, lin, hb c, add_comm]
    rfl

/-- A reduced basis: m rows of n elements, the row i beginning at P i. -/
structure Rref (n m : Nat) (B : Nat → Nat → K) (P : Nat → Nat) : Prop where
  sup : ∀ i, i < m → ∀ c, n ≤ c → B i c = 0
  pn : ∀ i, i < m → P i < n
  inc : ∀ i j, i < j → j < m → P i < P j
  low : ∀ i, i < m → ∀ c, c < P i → B i c = 0
  one : ∀ i, i < m → ∀ j, j < m → B i (P j) = if i = j then 1 else 0

namespace Rref
variable {n m : Nat} {B : Nat → Nat → K} {P : Nat → Nat}
theorem inj (h : Rref n m B P) {i j : Nat} (hi : i < m) (hj : j < m) (e : P i = P j) : i = j := by
  rcases Nat.lt_trichotomy i j with hl | hl | hl
  · have := h.inc i j hl hj; omega
  · exact hl
  · have := h.inc j i hl hi; omega
theorem mono (h : Rref n m B P) {i j : Nat} (hij : i ≤ j) (hj : j < m) : P i ≤ P j := by
  rcases Nat.lt_or_ge i j with hl | hl
  · exact Nat.le_of_lt (h.inc i j hl hj)
  · obtain rfl : i = j := by omega
    exact Nat.le_refl _
theorem pick (h : Rref n m B P) (a : Nat → K) {j : Nat} (hj : j < m) : ks (fun i => a i * B i (P j)) m = a j := by
  rw [ks_congr (g := fun i => a i * (if i = j then 1 else 0)) m (fun i hi => by rw [h.one i hi j hj])]
  exact ks_pick a hj
/-- A row of the space, by its elements at the beginnings. -/
theorem coords (h : Rref n m B P) {v : Nat → K} (hv : ∃ a : Nat → K, ∀ c, v c = ks (fun i => a i * B i c) m) (c : Nat) : v c = ks (fun i => v (P i) * B i c) m := by
  obtain ⟨a, ha⟩ := hv
  rw [ha c]
  refine ks_congr m fun i hi => ?_
  rw [ha (P i), h.pick a hi]
/-- Where a row of the space begins. -/
theorem lead (h : Rref n m B P) {v : Nat → K} (hv : ∃ a : Nat → K, ∀ c, v c = ks (fun i => a i * B i c) m) {k : Nat} (hk : v k ≠ 0) (hlow : ∀ c, c < k → v c = 0) : ∃ i, i < m ∧ P i = k := by
  have hc := h.coords hv
  have hex : ∃ i, i < m ∧ v (P i) ≠ 0 := Classical.byContradiction fun hn => hk (by
    rw [hc k]
    refine ks_nil m fun i hi => ?_
    have : v (P i) = 0 := Classical.byContradiction fun g => hn ⟨i, hi, g⟩
    rw [this, zero_mul])
  obtain ⟨i0, hi0, hv0⟩ := hex
  obtain ⟨i, ⟨hi, hvi⟩, hmin⟩ : ∃ i, (i < m ∧ v (P i) ≠ 0) ∧ ∀ j, j < i → ¬ (j < m ∧ v (P j) ≠ 0) := by
    have : ∀ N i0, i0 ≤ N → (i0 < m ∧ v (P i0) ≠ 0) → ∃ i, (i < m ∧ v (P i) ≠ 0) ∧ ∀ j, j < i → ¬ (j < m ∧ v (P j) ≠ 0) := by
      intro N
      induction N with
      | zero => intro i0 h0 hp; exact ⟨i0, hp, fun j hj => by omega⟩
      | succ N ih =>
        intro i0 h0 hp
        by_cases hb : ∃ j, j < i0 ∧ (j < m ∧ v (P j) ≠ 0)
        · obtain ⟨j, hj, hq⟩ := hb; exact ih j (by omega) hq
        · exact ⟨i0, hp, fun j hj hq => hb ⟨j, hj, hq⟩⟩
    exact this i0 i0 (Nat.le_refl _) ⟨hi0, hv0⟩
  refine ⟨i, hi, ?_⟩
  have hz : ∀ c, c < P i → v c = 0 := fun c hcl => by
    rw [hc c]
    refine ks_nil m fun j hj => ?_
    by_cases hji : j < i
    · have : v (P j) = 0 := Classical.byContradiction fun g => hmin j hji ⟨hj, g⟩
      rw [this, zero_mul]
    · rw [h.low j hj c (by have := h.mono (show i ≤ j by omega) hj; omega), mul_zero]
  rcases Nat.lt_trichotomy (P i) k with hl | hl | hl
  · exact absurd (hlow _ hl) hvi
  · exact hl
  · exact absurd (hz _ hl) hk
/-- The row that is 1 at its own beginning and 0 at the others is the basis' own. -/
theorem own (h : Rref n m B P) {v : Nat → K} (hv : ∃ a : Nat → K, ∀ c, v c = ks (fun i => a i * B i c) m) {i : Nat} (hi : i < m) (h1 : ∀ j, j < m → v (P j) = if i = j then 1 else 0) : v = B i := by
  funext c
  rw [h.coords hv c, ks_congr (g := fun j => B j c * (if j = i then 1 else 0)) m (fun j hj => ?_)]
  · exact ks_pick (fun j => B j c) hi
  · rw [h1 j hj, mul_comm]
    by_cases e : i = j
    · subst e; rfl
    · rw [if_neg e, if_neg (Ne.symm e)]
theorem self (_ : Rref n m B P) {i : Nat} (hi : i < m) : ∃ a : Nat → K, ∀ c, B i c = ks (fun j => a j * B j c) m :=
  ⟨fun j => if j = i then 1 else 0, fun c => by
    rw [ks_congr (g := fun j => B j c * (if j = i then 1 else 0)) m (fun j _ => mul_comm _ _)]
    exact (ks_pick (fun j => B j c) hi).symm⟩

/-- A column that no row begins at. -/
def Free (m : Nat) (P : Nat → Nat) (c : Nat) : Prop := ∀ i, i < m → P i ≠ c
/-- What is normal, by a free column. -/
def nv (m : Nat) (B : Nat → Nat → K) (P : Nat → Nat) (c j : Nat) : K := (if j = c then 1 else 0) + ks (fun k => -(B k c) * (if j = P k then 1 else 0)) m
theorem nv_free (m : Nat) (B : Nat → Nat → K) {c j : Nat} (hj : Free m P j) : nv m B P c j = if j = c then 1 else 0 := by
  unfold nv
  rw [ks_nil m (fun k hk => by rw [if_neg (fun e => hj k hk e.symm), mul_zero]), add_zero]
theorem nv_piv (h : Rref n m B P) {c i : Nat} (hc : Free m P c) (hi : i < m) : nv m B P c (P i) = -(B i c) := by
  unfold nv
  rw [if_neg (hc i hi), zero_add, ks_one m hi (fun k hk hne => by rw [if_neg (fun e => hne (h.inj hi hk e).symm), mul_zero]), if_pos rfl, mul_one]
theorem nv_sup (h : Rref n m B P) {c j : Nat} (hc : c < n) (hj : n ≤ j) : nv m B P c j = 0 := by
  rw [nv_free m B (fun i hi e => by have := h.pn i hi; omega), if_neg (by omega)]
theorem dot_nv (h : Rref n m B P) (v : Nat → K) {c : Nat} (hc : c < n) : dot n v (nv m B P c) = v c + ks (fun k => -(B k c) * v (P k)) m := by
  unfold dot nv
  rw [ks_congr (g := fun j => v j * (if j = c then 1 else 0) + ks (fun k => -(B k c) * (v j * (if j = P k then 1 else 0))) m) n (fun j _ => ?_), ks_add, ks_pick v hc, ks_swap]
  · congr 1
    refine ks_congr m fun k hk => ?_
    rw [ks_mul, ks_pick v (h.pn k hk)]
  · rw [mul_add, ← ks_mul]
    congr 1
    refine ks_congr m fun k _ => ?_
    ac_rfl
/-- A sum over columns, by the free ones and the beginnings. -/
theorem ks_piv (h : Rref n m B P) (f : Nat → K) (g : Nat → K) (hg : ∀ c, c < n → Free m P c → g c = f c) (hz : ∀ i, i < m → g (P i) = 0) : ks f n = ks g n + ks (fun k => f (P k)) m := by
  rw [ks_congr (g := fun c => g c + ks (fun k => f c * (if c = P k then 1 else 0)) m) n (fun c hc => ?_), ks_add, ks_swap]
  · congr 1
    exact ks_congr m fun k hk => ks_pick f (h.pn k hk)
  · by_cases hf : Free m P c
    · rw [hg c hc hf, ks_nil m (fun k hk => by rw [if_neg (fun e => hf k hk e.symm), mul_zero]), add_zero]
    · obtain ⟨i, hi, e⟩ : ∃ i, i < m ∧ P i = c := Classical.byContradiction fun hn => hf fun i hi e => hn ⟨i, hi, e⟩
      subst e
      rw [hz i hi, zero_add, ks_one m hi (fun k hk hne => by rw [if_neg (fun e => hne (h.inj hi hk e).symm), mul_zero]), if_pos rfl, mul_one]

/-- What is normal to a reduced basis is spanned by the free columns' rows. -/
theorem nul_iff (h : Rref n m B P) {L : List (Nat → K)} (hL : ∀ r, r ∈ L ↔ ∃ c, c < n ∧ Free m P c ∧ r = nv m B P c) (v : Nat → K) :
    Span L v ↔ (∀ c, n ≤ c → v c = 0) ∧ ∀ i, i < m → dot n (B i) v = 0 := by
  constructor
  · refine span_le_of (S := fun v => (∀ c, n ≤ c → v c = 0) ∧ ∀ i, i < m → dot n (B i) v = 0) ⟨fun _ _ => rfl, fun i _ => dot_zero n _⟩ (fun u a r hu hr => ⟨fun c hc => ?_, fun i hi => ?_⟩) (fun r hr => ?_)
    · unfold lin; rw [hu.1 c hc, hr.1 c hc, mul_zero, add_zero]
    · rw [dot_lin, hu.2 i hi, hr.2 i hi, mul_zero, add_zero]
    · obtain ⟨c, hc, hf, rfl⟩ := (hL r).1 hr
      refine ⟨fun j hj => h.nv_sup hc hj, fun i hi => ?_⟩
      rw [h.dot_nv _ hc, ks_congr (g := fun k => -(B k c) * (if k = i then 1 else 0)) m (fun k hk => ?_), ks_pick (fun k => -(B k c)) hi, add_neg]
      rw [h.one i hi k hk]
      by_cases e : i = k
      · subst e; rfl
      · rw [if_neg e, if_neg (Ne.symm e)]
  · rintro ⟨hs, hd⟩
    have hw := fun c => Classical.em (Free m P c)
    let w : Nat → Nat → K := fun c => open Classical in if Free m P c then nv m B P c else vz
    have hspan : Span L (fun j => ks (fun c => v c * w c j) n) := span_ks v n fun c hc => by
      show Span L (open Classical in if Free m P c then nv m B P c else vz)
      by_cases hf : Free m P c
      · rw [if_pos hf]; exact span_mem ((hL _).2 ⟨c, hc, hf, rfl⟩)
      · rw [if_neg hf]; exact span_zero L
    have e : v = fun j => ks (fun c => v c * w c j) n := by
      funext j
      by_cases hj : j < n
      · by_cases hf : Free m P j
        · refine ((ks_one n hj (fun c _ hne => ?_)).trans ?_).symm
          · show v c * (open Classical in if Free m P c then nv m B P c else vz) j = 0
            by_cases hfc : Free m P c
            · rw [if_pos hfc, nv_free m B hf, if_neg (Ne.symm hne), mul_zero]
            · rw [if_neg hfc]; exact mul_zero _
          · show v j * (open Classical in if Free m P j then nv m B P j else vz) j = v j
            rw [if_pos hf, nv_free m B hf, if_pos rfl, mul_one]
        · obtain ⟨i, hi, e⟩ : ∃ i, i < m ∧ P i = j := Classical.byContradiction fun hn => hf fun i hi e => hn ⟨i, hi, e⟩
          subst e
          have h1 := hd i hi
          unfold dot at h1
          rw [h.ks_piv (fun c => B i c * v c) (fun c => -(v c * w c (P i))) (fun c hc hfc => ?_) (fun k hk => ?_)] at h1
          · rw [ks_neg, ks_congr (g := fun k => v (P k) * (if k = i then 1 else 0)) m (fun k hk => ?_), ks_pick (fun k => v (P k)) hi] at h1
            · exact eq_of_sub (by rw [add_comm]; exact h1)
            · rw [h.one i hi k hk, mul_comm]
              by_cases e : i = k
              · subst e; rfl
              · rw [if_neg e, if_neg (Ne.symm e)]
          · show -(v c * (open Classical in if Free m P c then nv m B P c else vz) (P i)) = _
            rw [if_pos hfc, h.nv_piv hfc hi, mul_neg, neg_neg, mul_comm]
          · show -(v (P k) * (open Classical in if Free m P (P k) then nv m B P (P k) else vz) (P i)) = 0
            rw [if_neg (fun hfk => hfk k hk rfl)]
            show -(v (P k) * 0) = 0
            rw [mul_zero, neg_zero]
      · rw [hs j (by omega)]
        refine (ks_nil n fun c hc => ?_).symm
        show v c * (open Classical in if Free m P c then nv m B P c else vz) j = 0
        by_cases hfc : Free m P c
        · rw [if_pos hfc, h.nv_sup hc (by omega), mul_zero]
        · rw [if_neg hfc]; exact mul_zero _
    rw [e]; exact hspan

/-- What is normal to all that is normal lies in the space. -/
theorem back (h : Rref n m B P) {v : Nat → K} (hs : ∀ c, n ≤ c → v c = 0) (hv : ∀ c, c < n → Free m P c → dot n (nv m B P c) v = 0) : ∃ a : Nat → K, ∀ c, v c = ks (fun i => a i * B i c) m := by
  refine ⟨fun i => v (P i), fun c => ?_⟩
  by_cases hc : c < n
  · by_cases hf : Free m P c
    · have h1 := hv c hc hf
      rw [dot_comm, h.dot_nv v hc] at h1
      rw [ks_congr (g := fun k => -(v (P k) * B k c)) m (fun k _ => by rw [neg_mul, mul_comm]), ks_neg] at h1
      exact eq_of_sub h1
    · obtain ⟨i, hi, e⟩ : ∃ i, i < m ∧ P i = c := Classical.byContradiction fun hn => hf fun i hi e => hn ⟨i, hi, e⟩
      subst e
      rw [h.pick _ hi]
  · rw [hs c (by omega)]
    exact (ks_nil m fun i hi => by rw [h.sup i hi c (by omega), mul_zero]).symm
end Rref
end
end Go.Proofs.YtnhdngnolepkcaaDoor

/- Elimination: the way to a reduced basis, column by column; what is normal, by a reduced basis. Plain, no program. -/
namespace Go.Proofs.YtnhdngnolepkcaaDoor
set_option linter.unusedSectionVars false
open Fld

section
variable {K : Type} [Fld K] [DecidableEq K]

/-- A row times an element; a row less another one times an element. -/
def sclV (a : K) (r : Nat → K) : Nat → K := fun j => a * r j
def lessV (l : Nat → K) (c : Nat) (o : Nat → K) : Nat → K := lin o (-(o c)) l
def pivAt (c : Nat) (L : List (Nat → K)) : Option Nat := L.findIdx? fun r => !(decide (r c = 0))
def leadV (c : Nat) (r : Nat → K) : Nat → K := sclV (inv (r c)) r
/-- One column. -/
def stepB (c : Nat) (s : List (Nat → K) × List (Nat → K)) : List (Nat → K) × List (Nat → K) :=
  match pivAt c s.1 with
  | none => s
  | some i => ((s.1.eraseIdx i).map (lessV (leadV c (rowAt s.1 i)) c), s.2.map (lessV (leadV c (rowAt s.1 i)) c) ++ [leadV c (rowAt s.1 i)])
def redTo (rows : List (Nat → K)) : Nat → List (Nat → K) × List (Nat → K)
  | 0 => (rows, [])
  | c + 1 => stepB c (redTo rows c)
def basV (n : Nat) (rows : List (Nat → K)) : List (Nat → K) := (redTo rows n).2

theorem pivAt_some {c i : Nat} {L : List (Nat → K)} (h : pivAt c L = some i) : i < L.length ∧ rowAt L i c ≠ 0 ∧ ∀ j, j < i → rowAt L j c = 0 := by
  unfold pivAt at h
  obtain ⟨hi, h1, h2⟩ := List.findIdx?_eq_some_iff_getElem.1 h
  refine ⟨hi, by rw [rowAt_eq L i hi]; simpa using h1, fun j hj => ?_⟩
  have := h2 j hj
  rw [rowAt_eq L j (by omega)]
  simpa using this
theorem pivAt_none {c : Nat} {L : List (Nat → K)} (h : pivAt c L = none) {r : Nat → K} (hr : r ∈ L) : r c = 0 := by
  unfold pivAt at h
  have := List.findIdx?_eq_none_iff.1 h r hr
  simpa using this

theorem leadV_one {c : Nat} {r : Nat → K} (h : r c ≠ 0) : leadV c r c = 1 := by
  show inv (r c) * r c = 1
  rw [mul_comm, mul_inv _ h]
theorem leadV_zero {c j : Nat} {r : Nat → K} (h : r j = 0) : leadV c r j = 0 := by
  show inv (r c) * r j = 0
  rw [h, mul_zero]
theorem lessV_at {l o : Nat → K} {c : Nat} (h : l c = 1) : lessV l c o c = 0 := by
  show o c + -(o c) * l c = 0
  rw [h, mul_one, add_neg]
theorem lessV_off {l o : Nat → K} {c j : Nat} (h : l j = 0) : lessV l c o j = o j := by
  show o j + -(o c) * l j = o j
  rw [h, mul_zero, add_zero]
theorem lessV_back (l o : Nat → K) (c : Nat) : o = lin (lessV l c o) (o c) l := by
  funext j
  show o j = o j + -(o c) * l j + o c * l j
  rw [neg_mul, add_assoc, neg_add, add_zero]

/-- What stands behind the columns ahead of c. -/
structure RedAt (n c : Nat) (rows : List (Nat → K)) (s : List (Nat → K) × List (Nat → K)) (P : Nat → Nat) : Prop where
  ref : Rref n s.2.length (rowAt s.2) P
  lt : ∀ i, i < s.2.length → P i < c
  sup : ∀ r ∈ s.1, ∀ j, n ≤ j → r j = 0
  low : ∀ r ∈ s.1, ∀ j, j < c → r j = 0
  span : ∀ v, Span (s.1 ++ s.2) v ↔ Span rows v

theorem mem_erase {L : List (Nat → K)} {i : Nat} {r : Nat → K} (h : r ∈ L.eraseIdx i) : r ∈ L := List.mem_of_mem_eraseIdx h
theorem mem_erase_or {L : List (Nat → K)} {i : Nat} (hi : i < L.length) {r : Nat → K} (h : r ∈ L) : r = rowAt L i ∨ r ∈ L.eraseIdx i := by
  obtain ⟨j, hj, e⟩ := List.mem_iff_getElem.1 h
  by_cases he : j = i
  · subst he; left; rw [rowAt_eq L j hj, e]
  · right; exact List.mem_eraseIdx_iff_getElem.2 ⟨j, hj, he, e⟩

theorem redAt_start {n : Nat} {rows : List (Nat → K)} (h : ∀ r ∈ rows, ∀ j, n ≤ j → r j = 0) : RedAt n 0 rows (rows, []) (fun _ => 0) where
  ref := ⟨fun i hi => absurd hi (by simp), fun i hi => absurd hi (by simp), fun i j _ hj => absurd hj (by simp), fun i hi => absurd hi (by simp), fun i hi => absurd hi (by simp)⟩
  lt := fun i hi => absurd hi (by simp)
  sup := h
  low := fun r _ j hj => by omega
  span := fun v => by simp

theorem RedAt.step {n c : Nat} {rows : List (Nat → K)} {s : List (Nat → K) × List (Nat → K)} {P : Nat → Nat} (h : RedAt n c rows s P) (hc : c < n) : ∃ P', RedAt n (c + 1) rows (stepB c s) P' := by
  unfold stepB
  cases hp : pivAt c s.1 with
  | none =>
    refine ⟨P, h.ref, fun i hi => by have := h.lt i hi; omega, h.sup, fun r hr j hj => ?_, h.span⟩
    by_cases e : j = c
    · subst e; exact pivAt_none hp hr
    · exact h.low r hr j (by omega)
  | some i =>
    obtain ⟨hi, hne, _⟩ := pivAt_some hp
    obtain ⟨l, hl⟩ : ∃ l, leadV c (rowAt s.1 i) = l := ⟨_, rfl⟩
    have hmem := rowAt_mem s.1 i hi
    have l1 : l c = 1 := hl ▸ leadV_one hne
    have l0 : ∀ j, j < c → l j = 0 := fun j hj => hl ▸ leadV_zero (h.low _ hmem j hj)
    have ls : ∀ j, n ≤ j → l j = 0 := fun j hj => hl ▸ leadV_zero (h.sup _ hmem j hj)
    show ∃ P', RedAt n (c + 1) rows ((s.1.eraseIdx i).map (lessV (leadV c (rowAt s.1 i)) c), s.2.map (lessV (leadV c (rowAt s.1 i)) c) ++ [leadV c (rowAt s.1 i)]) P'
    rw [hl]
    have hlen : (s.2.map (lessV l c) ++ [l]).length = s.2.length + 1 := by simp
    have hrow : ∀ j, j < s.2.length → rowAt (s.2.map (lessV l c) ++ [l]) j = lessV l c (rowAt s.2 j) := fun j hj => by
      rw [rowAt_eq _ _ (by rw [hlen]; omega), rowAt_eq _ _ hj, List.getElem_append_left (by simpa using hj), List.getElem_map]
    have hlast : rowAt (s.2.map (lessV l c) ++ [l]) s.2.length = l := by
      rw [rowAt_eq _ _ (by rw [hlen]; omega), List.getElem_append_right (by simp)]
      simp
    refine ⟨fun j => if j < s.2.length then P j else c, ⟨?_, ?_, ?_, ?_, ?_⟩, ?_, ?_, ?_, ?_⟩
    · intro j hj k hk
      rw [hlen] at hj
      by_cases e : j < s.2.length
      · rw [hrow j e, lessV_off (ls k hk)]; exact h.ref.sup j e k hk
      · obtain rfl : j = s.2.length := by omega
        rw [hlast]; exact ls k hk
    · intro j hj
      rw [hlen] at hj
      by_cases e : j < s.2.length
      · rw [if_pos e]; exact h.ref.pn j e
      · rw [if_neg e]; exact hc
    · intro j k hjk hk
      rw [hlen] at hk
      rw [if_pos (show j < s.2.length by omega)]
      by_cases e : k < s.2.length
      · rw [if_pos e]; exact h.ref.inc j k hjk e
      · rw [if_neg e]; exact h.lt j (by omega)
    · intro j hj k hk
      rw [hlen] at hj
      by_cases e : j < s.2.length
      · rw [if_pos e] at hk
        have := h.lt j e
        rw [hrow j e, lessV_off (l0 k (by omega))]; exact h.ref.low j e k hk
      · obtain rfl : j = s.2.length := by omega
        rw [if_neg e] at hk
        rw [hlast]; exact l0 k hk
    · intro j hj k hk
      rw [hlen] at hj hk
      by_cases e : j < s.2.length
      · rw [hrow j e]
        by_cases e2 : k < s.2.length
        · rw [if_pos e2, lessV_off (l0 _ (h.lt k e2))]; exact h.ref.one j e k e2
        · rw [if_neg e2, lessV_at l1, if_neg (by omega)]
      · obtain rfl : j = s.2.length := by omega
        rw [hlast]
        by_cases e2 : k < s.2.length
        · rw [if_pos e2, l0 _ (h.lt k e2), if_neg (by omega)]
        · rw [if_neg e2, l1, if_pos (by omega)]
    · intro j hj
      rw [hlen] at hj
      by_cases e : j < s.2.length
      · rw [if_pos e]; have := h.lt j e; omega
      · rw [if_neg e]; omega
    · intro r hr j hj
      obtain ⟨o, ho, rfl⟩ := List.mem_map.1 hr
      rw [lessV_off (ls j hj)]
      exact h.sup o (mem_erase ho) j hj
    · intro r hr j hj
      obtain ⟨o, ho, rfl⟩ := List.mem_map.1 hr
      by_cases e : j = c
      · subst e; exact lessV_at l1
      · rw [lessV_off (l0 j (by omega))]
        exact h.low o (mem_erase ho) j (by omega)
    · intro v
      refine Iff.trans ?_ (h.span v)
      have hls : Span (s.1 ++ s.2) l := by
        have := span_lin (s.1 ++ s.2) vz (inv (rowAt s.1 i c)) _ (span_zero _) (span_mem (List.mem_append_left _ hmem))
        have e : lin vz (inv (rowAt s.1 i c)) (rowAt s.1 i) = l := by rw [← hl]; funext j; exact zero_add _
        rwa [e] at this
      have hlm : Span ((s.1.eraseIdx i).map (lessV l c) ++ (s.2.map (lessV l c) ++ [l])) l := span_mem (by simp)
      refine span_same (fun r hr => ?_) (fun r hr => ?_) v
      · have hless : ∀ o, o ∈ s.1 ++ s.2 → Span (s.1 ++ s.2) (lessV l c o) := fun o ho => span_lin _ _ _ _ (span_mem ho) hls
        rcases List.mem_append.1 hr with hr | hr
        · obtain ⟨o, ho, rfl⟩ := List.mem_map.1 hr
          exact hless o (List.mem_append_left _ (mem_erase ho))
        · rcases List.mem_append.1 hr with hr | hr
          · obtain ⟨o, ho, rfl⟩ := List.mem_map.1 hr
            exact hless o (List.mem_append_right _ ho)
          · obtain rfl : r = l := by simpa using hr
            exact hls
      · have hback : ∀ o, lessV l c o ∈ (s.1.eraseIdx i).map (lessV l c) ++ (s.2.map (lessV l c) ++ [l]) → Span ((s.1.eraseIdx i).map (lessV l c) ++ (s.2.map (lessV l c) ++ [l])) o := fun o ho => by
          have := span_lin _ _ (o c) _ (span_mem ho) hlm
          rwa [← lessV_back] at this
        rcases List.mem_append.1 hr with hr | hr
        · rcases mem_erase_or hi hr with rfl | hr
          · have := span_lin _ vz (rowAt s.1 i c) _ (span_zero _) hlm
            have e : lin vz (rowAt s.1 i c) l = rowAt s.1 i := by
              rw [← hl]; funext j
              show 0 + rowAt s.1 i c * (inv (rowAt s.1 i c) * rowAt s.1 i j) = rowAt s.1 i j
              rw [zero_add, ← mul_assoc, mul_inv _ hne, one_mul]
            rwa [e] at this
          · exact hback r (List.mem_append_left _ (List.mem_map_of_mem hr))
        · exact hback r (List.mem_append_right _ (List.mem_append_left _ (List.mem_map_of_mem hr)))

theorem redTo_ok {n : Nat} {rows : List (Nat → K)} (h : ∀ r ∈ rows, ∀ j, n ≤ j → r j = 0) : ∀ c, c ≤ n → ∃ P, RedAt n c rows (redTo rows c) P
  | 0, _ => ⟨_, redAt_start h⟩
  | c + 1, hc => by
    obtain ⟨P, hP⟩ := redTo_ok h c (by omega)
    exact hP.step (by omega)

/-- The way leads to a reduced basis of the rows' space. -/
theorem basV_ok {n : Nat} {rows : List (Nat → K)} (h : ∀ r ∈ rows, ∀ j, n ≤ j → r j = 0) : ∃ P, Rref n (basV n rows).length (rowAt (basV n rows)) P ∧ ∀ v, Span (basV n rows) v ↔ Span rows v := by
  obtain ⟨P, hP⟩ := redTo_ok h n (Nat.le_refl n)
  refine ⟨P, hP.ref, fun v => Iff.trans ?_ (hP.span v)⟩
  refine span_same (fun r hr => span_mem (List.mem_append_right _ hr)) (fun r hr => ?_) v
  rcases List.mem_append.1 hr with hr | hr
  · have e : r = vz := funext fun j => by
      by_cases hj : j < n
      · exact hP.low r hr j hj
      · exact hP.sup r hr j (by omega)
    rw [e]; exact span_zero _
  · exact span_mem hr

/-- A list that is a reduced basis. -/
def IsRref (n : Nat) (L : List (Nat → K)) (P : Nat → Nat) : Prop := Rref n L.length (rowAt L) P
theorem IsRref.span {n : Nat} {L : List (Nat → K)} {P : Nat → Nat} (_ : IsRref n L P) {v : Nat → K} : Span L v ↔ ∃ a : Nat → K, ∀ c, v c = ks (fun i => a i * rowAt L i c) L.length := by
  refine ⟨span_sum L v, fun ⟨a, ha⟩ => ?_⟩
  have := span_ks (L := L) (w := rowAt L) a L.length fun i hi => span_mem (rowAt_mem L i hi)
  rwa [← (funext ha : v = _)] at this
theorem IsRref.sup {n : Nat} {L : List (Nat → K)} {P : Nat → Nat} (h : IsRref n L P) {r : Nat → K} (hr : r ∈ L) (j : Nat) (hj : n ≤ j) : r j = 0 := by
  obtain ⟨i, hi, rfl⟩ := mem_rowAt hr
  exact Rref.sup h i hi j hj

/-- Two reduced bases of one space begin alike. -/
theorem rref_starts {n : Nat} {L M : List (Nat → K)} {P Q : Nat → Nat} (hL : IsRref n L P) (hM : IsRref n M Q) (hs : ∀ v, Span L v → Span M v) {i : Nat} (hi : i < L.length) : ∃ j, j < M.length ∧ Q j = P i := by
  have h1 : Span M (rowAt L i) := hs _ (span_mem (rowAt_mem L i hi))
  have h2 := (hM.span).1 h1
  refine Rref.lead hM h2 (k := P i) ?_ (fun c hc => Rref.low hL i hi c hc)
  rw [Rref.one hL i hi i hi, if_pos rfl]
  exact one_ne
theorem inc_same {a b : Nat} {P Q : Nat → Nat} (hP : ∀ i j, i < j → j < a → P i < P j) (hQ : ∀ i j, i < j → j < b → Q i < Q j)
    (h : ∀ i, i < a → ∃ j, j < b ∧ Q j = P i) (k : ∀ j, j < b → ∃ i, i < a ∧ P i = Q j) : a = b ∧ ∀ i, i < a → P i = Q i := by
  have key : ∀ i, (i < a → i < b ∧ P i = Q i) ∧ (i < b → i < a ∧ P i = Q i) := by
    intro i
    induction i using Nat.strongRecOn with
    | _ i ih =>
      have up : ∀ {a b : Nat} {P Q : Nat → Nat}, (∀ i j, i < j → j < a → P i < P j) → (∀ i j, i < j → j < b → Q i < Q j) → (∀ i, i < a → ∃ j, j < b ∧ Q j = P i) → (∀ j, j < b → ∃ i, i < a ∧ P i = Q j) →
          (∀ m, m < i → (m < a → m < b ∧ P m = Q m) ∧ (m < b → m < a ∧ P m = Q m)) → i < a → i < b ∧ P i = Q i := by
        intro a b P Q hP hQ h k ih hi
        obtain ⟨j, hj, e⟩ := h i hi
        have hji : i ≤ j := by
          rcases Nat.lt_or_ge j i with hl | hl
          · have h1 := (ih j hl).2 hj
            have h2 := hP j i hl hi
            omega
          · exact hl
        have hib : i < b := by omega
        refine ⟨hib, ?_⟩
        rcases Nat.lt_or_ge i j with hl | hl
        · have h3 := hQ i j hl hj
          obtain ⟨m, hm, e2⟩ := k i hib
          rcases Nat.lt_trichotomy m i with g | g | g
          · have h4 := (ih m g).1 hm
            have h5 := hQ m i g hib
            omega
          · subst g; exact e2
          · have h6 := hP i m g hm
            omega
        · obtain rfl : i = j := by omega
          exact e.symm
      refine ⟨up hP hQ h k ih, fun hi => ?_⟩
      have := up hQ hP k h (fun m hm => ⟨fun x => by have := (ih m hm).2 x; omega, fun x => by have := (ih m hm).1 x; omega⟩) hi
      exact ⟨this.1, this.2.symm⟩
  refine ⟨?_, fun i hi => ((key i).1 hi).2⟩
  rcases Nat.lt_trichotomy a b with hl | hl | hl
  · have := (key a).2 hl; omega
  · exact hl
  · have := (key b).1 hl; omega
/-- There is one reduced basis of a space. -/
theorem rref_unique {n : Nat} {L M : List (Nat → K)} {P Q : Nat → Nat} (hL : IsRref n L P) (hM : IsRref n M Q) (hs : ∀ v, Span L v ↔ Span M v) : L = M ∧ ∀ i, i < L.length → P i = Q i := by
  obtain ⟨hlen, hPQ⟩ := inc_same hL.inc hM.inc (fun i hi => rref_starts hL hM (fun v => (hs v).1) hi) (fun j hj => rref_starts hM hL (fun v => (hs v).2) hj)
  refine ⟨List.ext_getElem hlen fun i h1 h2 => ?_, hPQ⟩
  have h3 : Span M (rowAt L i) := (hs _).1 (span_mem (rowAt_mem L i h1))
  have := Rref.own hM ((hM.span).1 h3) h2 (fun j hj => by rw [← hPQ j (by omega), Rref.one hL i h1 j (by omega)])
  rw [rowAt_eq L i h1, rowAt_eq M i h2] at this
  exact this

/-- The columns that a row begins at. -/
def freeL (n m : Nat) (P : Nat → Nat) : List Nat := (List.range n).filter fun c => (List.range m).all fun i => !(P i == c)
theorem mem_freeL {n m : Nat} {P : Nat → Nat} {c : Nat} : c ∈ freeL n m P ↔ c < n ∧ Rref.Free m P c := by
  unfold freeL Rref.Free
  simp
def normV (n : Nat) (L : List (Nat → K)) (P : Nat → Nat) : List (Nat → K) := (freeL n L.length P).map (Rref.nv L.length (rowAt L) P)
theorem mem_normV {n : Nat} {L : List (Nat → K)} {P : Nat → Nat} (r : Nat → K) : r ∈ normV n L P ↔ ∃ c, c < n ∧ Rref.Free L.length P c ∧ r = Rref.nv L.length (rowAt L) P c := by
  unfold normV
  simp only [List.mem_map, mem_freeL]
  exact ⟨fun ⟨c, hc, e⟩ => ⟨c, hc.1, hc.2, e.symm⟩, fun ⟨c, h1, h2, e⟩ => ⟨c, ⟨h1, h2⟩, e.symm⟩⟩
theorem normV_nul {n : Nat} {L : List (Nat → K)} {P : Nat → Nat} (h : IsRref n L P) (v : Nat → K) : Span (normV n L P) v ↔ Nul n (Span L) v := by
  rw [Rref.nul_iff h mem_normV v, nul_span]
  refine and_congr_right fun _ => ⟨fun k r hr => ?_, fun k i hi => k _ (rowAt_mem L i hi)⟩
  obtain ⟨i, hi, rfl⟩ := mem_rowAt hr
  exact k i hi
/-- What is normal to the normal is the space. -/
theorem nul_nul {n : Nat} {L : List (Nat → K)} {P : Nat → Nat} (h : IsRref n L P) (v : Nat → K) : Nul n (Nul n (Span L)) v ↔ Span L v := by
  constructor
  · rintro ⟨h1, h2⟩
    refine (h.span).2 (Rref.back h h1 fun c hc hf => ?_)
    exact h2 _ ((normV_nul h _).1 (span_mem ((mem_normV _).2 ⟨c, hc, hf, rfl⟩)))
  · intro hv
    exact ⟨(span_sub fun r hr => h.sup hr).sup v hv, fun r hr => by rw [dot_comm]; exact hr.2 v hv⟩
end
end Go.Proofs.YtnhdngnolepkcaaDoor
