/- The product by all pairs, folded: it is the product; plain. -/
import Derived.Test.YtnfonobdfkpkeaaDoorFNumber
namespace Go.Proofs.YtnfonobdfkpkeaaDoor
open Go.RowKit

theorem sm_upd (f c : Nat → Int) (q : Nat) (v : Int) : ∀ N, q < N → sm (fun n => upd f q v n * c n) N = sm (fun n => f n * c n) N + (v - f q) * c q
  | 0, h => by omega
  | N + 1, h => by
    rw [sm, sm]
    by_cases e : q = N
    · subst e
      have : sm (fun n => upd f q v n * c n) q = sm (fun n => f n * c n) q := sm_congr q fun i hi => by unfold upd; rw [if_neg (by omega)]
      rw [this]
      unfold upd
      rw [if_pos rfl, Int.sub_mul]; omega
    · rw [sm_upd f c q v N (by omega)]
      unfold upd
      rw [if_neg (Ne.symm e)]; omega

/-- A row of products. -/
def prI (p i : Nat) (x : Int) (y f : Nat → Int) : Nat → Nat → Int
  | 0 => f
  | j + 1 => upd (prI p i x y f j) (i + j) ((prI p i x y f j (i + j) + x * y j) % p)
/-- All rows of products. -/
def prR (p k : Nat) (x y : Nat → Int) : Nat → Nat → Int
  | 0 => fun _ => 0
  | i + 1 => prI p i (x i) y (prR p k x y i) k
/-- A fold. -/
def rdI (p k i : Nat) (c : Int) (low f : Nat → Int) : Nat → Nat → Int
  | 0 => upd f i 0
  | j + 1 => upd (rdI p k i c low f j) (i - k + j) ((rdI p k i c low f j (i - k + j) - c * low j) % p)
/-- All folds, from the place N - 1 on down. -/
def rdS (p k N : Nat) (low f : Nat → Int) : Nat → Nat → Int
  | 0 => f
  | c + 1 => rdI p k (N - 1 - c) (rdS p k N low f c (N - 1 - c)) low (rdS p k N low f c) k

def Dig2 (p : Nat) (f : Nat → Int) : Prop := ∀ m, 0 ≤ f m ∧ f m < p
theorem upd_dig2 {p : Nat} {f : Nat → Int} (h : Dig2 p f) {q : Nat} {v : Int} (h0 : 0 ≤ v) (h1 : v < p) : Dig2 p (upd f q v) := fun m => by
  unfold upd; split
  · exact ⟨h0, h1⟩
  · exact h m
section
variable {p k : Nat} (hp : 0 < p)
include hp
theorem prI_dig {i : Nat} {x : Int} {y f : Nat → Int} (h : Dig2 p f) : ∀ j, Dig2 p (prI p i x y f j)
  | 0 => h
  | j + 1 => upd_dig2 (prI_dig h j) (mod_bd hp _).1 (mod_bd hp _).2
theorem prR_dig (x y : Nat → Int) : ∀ i, Dig2 p (prR p k x y i)
  | 0 => fun _ => by show (0 : Int) ≤ 0 ∧ (0 : Int) < p; omega
  | i + 1 => prI_dig hp (prR_dig x y i) k
theorem rdI_dig {i : Nat} {c : Int} {low f : Nat → Int} (h : Dig2 p f) : ∀ j, Dig2 p (rdI p k i c low f j)
  | 0 => upd_dig2 h (by omega) (by omega)
  | j + 1 => upd_dig2 (rdI_dig h j) (mod_bd hp _).1 (mod_bd hp _).2
theorem rdS_dig {N : Nat} {low f : Nat → Int} (h : Dig2 p f) : ∀ c, Dig2 p (rdS p k N low f c)
  | 0 => h
  | c + 1 => rdI_dig hp (rdS_dig h c) k
end

/-- What the places weigh. -/
def wgt (k N : Nat) (low : Nat → Int) (m : Nat) (f : Nat → Int) : Int := sm (fun n => f n * pwx k low n m) N
theorem wgt_prI {p k N i m : Nat} {x : Int} {y f low : Nat → Int} : ∀ j, i + j ≤ N → Cg p (wgt k N low m (prI p i x y f j)) (wgt k N low m f + sm (fun j => x * y j * pwx k low (i + j) m) j)
  | 0, _ => Cg.of_eq (by simp [prI, sm])
  | j + 1, h => by
    have ih := wgt_prI (p := p) (k := k) (N := N) (i := i) (m := m) (x := x) (y := y) (f := f) (low := low) j (by omega)
    show Cg p (wgt k N low m (upd (prI p i x y f j) (i + j) ((prI p i x y f j (i + j) + x * y j) % p))) _
    unfold wgt at ih ⊢
    rw [sm_upd _ _ _ _ N (by omega), sm]
    have h1 : Cg p (((prI p i x y f j (i + j) + x * y j) % p - prI p i x y f j (i + j)) * pwx k low (i + j) m) (x * y j * pwx k low (i + j) m) := by
      refine Cg.mul_right _ ?_
      have := (Cg.mod (p : Int) (prI p i x y f j (i + j) + x * y j)).sub (Cg.refl (p : Int) (prI p i x y f j (i + j)))
      refine this.trans (Cg.of_eq (by omega))
    refine (ih.add h1).trans (Cg.of_eq (by omega))
theorem wgt_prR {p k N m : Nat} {x y low : Nat → Int} : ∀ i, i + k ≤ N + 1 → i ≤ k → Cg p (wgt k N low m (prR p k x y i)) (sm (fun i => sm (fun j => x i * y j * pwx k low (i + j) m) k) i)
  | 0, _, _ => Cg.of_eq (by
    show wgt k N low m (fun _ => 0) = 0
    unfold wgt; exact sm_nil N fun i _ => by simp)
  | i + 1, h, hk => by
    have h1 := wgt_prI (p := p) (k := k) (N := N) (i := i) (m := m) (x := x i) (y := y) (f := prR p k x y i) (low := low) k (by omega)
    have ih := wgt_prR (p := p) (k := k) (N := N) (m := m) (x := x) (y := y) (low := low) i (by omega) (by omega)
    rw [sm]
    exact h1.trans (ih.add (Cg.refl _ _))
theorem wgt_rdI {p k N i m : Nat} {low f : Nat → Int} (hi : i < N) (hk : 1 ≤ k) (hki : k ≤ i) : ∀ j, j ≤ k → Cg p (wgt k N low m (rdI p k i (f i) low f j)) (wgt k N low m f - f i * (pwx k low i m + sm (fun j => low j * pwx k low (i - k + j) m) j))
  | 0, _ => Cg.of_eq (by
    show wgt k N low m (upd f i 0) = _
    unfold wgt
    rw [sm_upd _ _ _ _ N hi, sm, Int.add_zero, Int.zero_sub, Int.neg_mul]; omega)
  | j + 1, h => by
    have ih := wgt_rdI (p := p) (k := k) (N := N) (i := i) (m := m) (low := low) (f := f) hi hk hki j (by omega)
    show Cg p (wgt k N low m (upd (rdI p k i (f i) low f j) (i - k + j) ((rdI p k i (f i) low f j (i - k + j) - f i * low j) % p))) _
    unfold wgt at ih ⊢
    rw [sm_upd _ _ _ _ N (by omega), sm]
    have h1 : Cg p (((rdI p k i (f i) low f j (i - k + j) - f i * low j) % p - rdI p k i (f i) low f j (i - k + j)) * pwx k low (i - k + j) m) (-(f i * low j) * pwx k low (i - k + j) m) := by
      refine Cg.mul_right _ ?_
      have := (Cg.mod (p : Int) (rdI p k i (f i) low f j (i - k + j) - f i * low j)).sub (Cg.refl (p : Int) (rdI p k i (f i) low f j (i - k + j)))
      refine this.trans (Cg.of_eq (by omega))
    refine (ih.add h1).trans (Cg.of_eq ?_)
    rw [Int.mul_add (f i) (pwx k low i m) (sm (fun j => low j * pwx k low (i - k + j) m) j + low j * pwx k low (i - k + j) m), Int.mul_add (f i) (sm _ j), Int.mul_add (f i) (pwx k low i m), ← Int.mul_assoc (f i) (low j), Int.neg_mul]
    omega
theorem wgt_fold {p k N i m : Nat} {low f : Nat → Int} (hi : i < N) (hk : 1 ≤ k) (hki : k ≤ i) (hm : m < k) : Cg p (wgt k N low m (rdI p k i (f i) low f k)) (wgt k N low m f) := by
  refine (wgt_rdI (p := p) hi hk hki k (Nat.le_refl _)).trans (Cg.of_eq ?_)
  have h := pwx_fold (k := k) low hk (i - k) m hm
  rw [show k + (i - k) = i by omega] at h
  have e : sm (fun j => low j * pwx k low (i - k + j) m) k = sm (fun j => low j * pwx k low (j + (i - k)) m) k := sm_congr k fun j _ => by rw [Nat.add_comm]
  rw [h, e, Int.add_comm, Int.add_right_neg, Int.mul_zero]; omega
theorem wgt_rdS {p k N m : Nat} {low f : Nat → Int} (hk : 1 ≤ k) (hm : m < k) : ∀ c, c + k ≤ N → Cg p (wgt k N low m (rdS p k N low f c)) (wgt k N low m f)
  | 0, _ => Cg.refl _ _
  | c + 1, h => (wgt_fold (p := p) (i := N - 1 - c) (by omega) hk (by omega) hm).trans (wgt_rdS hk hm c (by omega))
/-- What has been folded is 0. -/
theorem rdI_zero {p k i : Nat} {c : Int} {low f : Nat → Int} (hki : k ≤ i) {n : Nat} (hn : i ≤ n) (hf : ∀ n, i < n → f n = 0) : ∀ j, j ≤ k → rdI p k i c low f j n = 0
  | 0, _ => by
    show upd f i 0 n = 0
    unfold upd
    by_cases e : n = i
    · rw [if_pos e]
    · rw [if_neg e]; exact hf n (by omega)
  | j + 1, h => by
    show upd (rdI p k i c low f j) (i - k + j) _ n = 0
    unfold upd
    rw [if_neg (by omega)]
    exact rdI_zero hki hn hf j (by omega)
theorem rdS_zero {p k N : Nat} {low f : Nat → Int} (hf : ∀ n, N ≤ n → f n = 0) : ∀ c, c + k ≤ N → ∀ n, N - c ≤ n → rdS p k N low f c n = 0
  | 0, _, n, hn => hf n (by omega)
  | c + 1, h, n, hn => rdI_zero (by omega) (by omega) (fun n hn => rdS_zero hf c (by omega) n (by omega)) k (Nat.le_refl _)
theorem prI_zero {p i : Nat} {x : Int} {y f : Nat → Int} {n : Nat} (hf : f n = 0) : ∀ j, i + j ≤ n → prI p i x y f j n = 0
  | 0, _ => hf
  | j + 1, h => by
    show upd (prI p i x y f j) (i + j) _ n = 0
    unfold upd
    rw [if_neg (by omega)]
    exact prI_zero hf j (by omega)
theorem prR_zero {p k : Nat} {x y : Nat → Int} {n : Nat} : ∀ i, i + k ≤ n + 1 → prR p k x y i n = 0
  | 0, _ => rfl
  | i + 1, h => prI_zero (prR_zero i (by omega)) k (by omega)

/-- The reference's product. -/
def refZ (p k : Nat) (low : Nat → Int) (a b : Nat) : Nat → Int := rdS p k (k + k) low (prR p k (dgI p a) (dgI p b) k) k
theorem refZ_dig {p k : Nat} {low : Nat → Int} (hp : 0 < p) (a b : Nat) : Dig2 p (refZ p k low a b) := rdS_dig hp (prR_dig hp _ _ k) k
theorem refZ_num {p k : Nat} {low : Nat → Int} (hp : 0 < p) (hk : 1 ≤ k) (a b : Nat) : num p (fun m => (refZ p k low a b m).toNat) k = mulF p k low a b := by
  unfold mulF
  refine num_congr k fun m hm => ?_
  have h1 := wgt_rdS (p := p) (k := k) (N := k + k) (m := m) (low := low) (f := prR p k (dgI p a) (dgI p b) k) hk hm k (Nat.le_refl _)
  have h2 := wgt_prR (p := p) (k := k) (N := k + k) (m := m) (x := dgI p a) (y := dgI p b) (low := low) k (by omega) (Nat.le_refl _)
  have h3 : wgt k (k + k) low m (refZ p k low a b) = refZ p k low a b m := by
    unfold wgt
    rw [sm_one (k := m) (k + k) (by omega) (fun n hn he => ?_), pwx_small low m m hm hm, if_pos rfl, Int.mul_one]
    by_cases hnk : n < k
    · rw [pwx_small low n m hnk hm, if_neg (Ne.symm he), Int.mul_zero]
    · have : refZ p k low a b n = 0 := rdS_zero (fun n hn => prR_zero k (by omega)) k (Nat.le_refl _) n (by omega)
      rw [this, Int.zero_mul]
  have h4 : sm (fun i => sm (fun j => dgI p a i * dgI p b j * pwx k low (i + j) m) k) k = prd p k low a b m := by
    rw [prd_comm]; rfl
  have h5 := h1.trans h2
  rw [h4] at h5
  change Cg p (wgt k (k + k) low m (refZ p k low a b)) _ at h5
  rw [h3] at h5
  have h6 := refZ_dig (k := k) (low := low) hp a b m
  have h7 := mod_bd hp (prd p k low a b m)
  have h8 := (h5.trans (Cg.mod (p : Int) (prd p k low a b m)).symm).eq h6.1 h6.2 h7.1 h7.2
  rw [h8]

end Go.Proofs.YtnfonobdfkpkeaaDoor
