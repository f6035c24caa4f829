/- A product by shifts is the product; plain but for the words of the walk. -/
import Derived.Test.YtnfonobdfkpkeaaDoorFShift
namespace Go.Proofs.YtnfonobdfkpkeaaDoor
open Go.RowKit

/-- A factor, shifted again and again. -/
def mulX (p k : Nat) (low : List Int) (a : Nat) : Nat → Nat → Int
  | 0 => dgI p a
  | i + 1 => shP p k low (mulX p k low a i)
/-- A sum, as far as a place. -/
def mulIn (p : Nat) (O x : Nat → Int) (y : Int) (j m : Nat) : Int := if m < j then (O m + x m * y) % p else O m
/-- The product, as far as a digit. -/
def mulO (p k : Nat) (low : List Int) (a b : Nat) : Nat → Nat → Int
  | 0 => fun _ => 0
  | i + 1 => mulIn p (mulO p k low a b i) (mulX p k low a i) (dgI p b i) k
theorem mulIn_succ (p : Nat) (O x : Nat → Int) (y : Int) (j m : Nat) : mulIn p O x y (j + 1) m = upd (mulIn p O x y j) j ((O j + x j * y) % p) m := by
  unfold upd mulIn
  by_cases e : m = j
  · subst e; rw [if_pos (by omega), if_pos rfl]
  · rw [if_neg e]
    by_cases h : m < j
    · rw [if_pos (by omega), if_pos h]
    · rw [if_neg (by omega), if_neg h]
theorem mulX_dig {p k : Nat} {low : List Int} (hp : 0 < p) (a : Nat) : ∀ i, Dig p (mulX p k low a i)
  | 0 => dgI_dig hp a
  | _ + 1 => shP_dig hp
theorem mulIn_dig {p : Nat} {O x : Nat → Int} {y : Int} (hp : 0 < p) (h : Dig p O) (j : Nat) : Dig p (mulIn p O x y j) := fun m => by
  unfold mulIn
  split
  · exact ⟨Int.emod_nonneg _ (by omega), Int.emod_lt_of_pos _ (by omega)⟩
  · exact h m
theorem mulO_dig {p k : Nat} {low : List Int} (hp : 0 < p) (a b : Nat) : ∀ i, Dig p (mulO p k low a b i)
  | 0 => fun _ => by show (0 : Int) ≤ 0 ∧ (0 : Int) < p; omega
  | i + 1 => mulIn_dig hp (mulO_dig hp a b i) k

theorem mulX_cg {p k : Nat} {low : List Int} (a : Nat) : ∀ i m, m < k → Cg p (mulX p k low a i m) (sm (fun j => (dgt p a j : Int) * pwx k (nth low) (i + j) m) k)
  | 0, m, hm => by
    refine Cg.of_eq ?_
    rw [sm_one (k := m) k hm (fun j hj he => by rw [Nat.zero_add, pwx_small (nth low) j m hj hm, if_neg (Ne.symm he), Int.mul_zero]), Nat.zero_add, pwx_small (nth low) m m hm hm, if_pos rfl, Int.mul_one]
    rfl
  | i + 1, m, hm => by
    have e : sm (fun j => (dgt p a j : Int) * pwx k (nth low) (i + 1 + j) m) k = sm (fun j => (dgt p a j : Int) * pwx k (nth low) (i + j + 1) m) k := sm_congr k fun j _ => by rw [show i + 1 + j = i + j + 1 by omega]
    rw [e, sum_step (k := k) (nth low) (fun j => (dgt p a j : Int)) (fun j => i + j) k m]
    have ih1 := mulX_cg (p := p) (k := k) (low := low) a i (k - 1) (by omega)
    show Cg p (shP p k low (mulX p k low a i) m) _
    unfold shP
    rw [if_pos hm]
    refine (Cg.mod _ _).trans ?_
    have h2 : Cg p ((p - mulX p k low a i (k - 1)) * nth low m) (-(mulX p k low a i (k - 1) * nth low m)) := ⟨nth low m, by rw [Int.sub_mul]; omega⟩
    by_cases h0 : 0 < m
    · rw [if_pos h0, if_pos h0, Int.sub_eq_add_neg]
      exact (mulX_cg (p := p) (k := k) (low := low) a i (m - 1) (by omega)).add (h2.trans (ih1.mul_right _).neg)
    · rw [if_neg h0, if_neg h0, Int.sub_eq_add_neg]
      exact (Cg.refl _ _).add (h2.trans (ih1.mul_right _).neg)
theorem mulO_cg {p k : Nat} {low : List Int} (a b : Nat) : ∀ i m, m < k → Cg p (mulO p k low a b i m) (sm (fun i => sm (fun j => (dgt p b i : Int) * (dgt p a j : Int) * pwx k (nth low) (i + j) m) k) i)
  | 0, m, _ => Cg.refl _ _
  | i + 1, m, hm => by
    show Cg p (mulIn p (mulO p k low a b i) (mulX p k low a i) (dgI p b i) k m) _
    unfold mulIn
    rw [if_pos hm, sm]
    refine (Cg.mod _ _).trans ((mulO_cg a b i m hm).add ?_)
    have h1 := (mulX_cg (p := p) (low := low) a i m hm).mul_right (dgI p b i)
    refine h1.trans (Cg.of_eq ?_)
    rw [← sm_mulr]
    exact sm_congr k fun j _ => by unfold dgI; rw [Int.mul_comm, Int.mul_assoc]
theorem mulO_num {p k : Nat} {low : List Int} (hp : 0 < p) (a b : Nat) : num p (fun m => (mulO p k low a b k m).toNat) k = mulF p k (nth low) a b := by
  unfold mulF
  refine num_congr k fun m hm => ?_
  have h1 := mulO_cg (p := p) (low := low) a b k m hm
  have h2 := mulO_dig (p := p) (k := k) (low := low) hp a b k m
  have h3 := mod_bd hp (prd p k (nth low) a b m)
  have h4 := (h1.trans (Cg.mod (p : Int) (prd p k (nth low) a b m)).symm).eq h2.1 h2.2 h3.1 h3.2
  rw [h4]

end Go.Proofs.YtnfonobdfkpkeaaDoor
