/- The sets that NextSet goes through, and what they say of the strength; plain. -/
import Derived.Test.YtfggmgfobcgadaaNextSet
import Derived.Test.YtfggmgfobcgadaaAlikeOf
import Derived.Test.YtfggmgfobcgadaaDownLaw
namespace Go.Proofs.Ytfggmgfobcgadaa
open Go.RowKit Go.Maps

/-- The sets from one on, f of them at most. -/
def gen (k t : Nat) : Nat → List Int → List (List Int)
  | 0, _ => []
  | f + 1, xs => xs :: match nextFrom k xs t with
    | none => []
    | some ys => gen k t f ys
def sets (k t : Nat) : List (List Int) := gen k t 71 (still t)
def cols (C k : Nat) : List Int := ((List.range k).filter (inSet C)).map fun (q : Nat) => (q : Int)
def maskOf (xs : List Int) : Nat := xs.foldr (fun x s => 2 ^ x.toNat + s) 0
def rank (xs : List Int) : Nat := xs.foldl (fun s x => s * 10 + x.toNat) 0
def setsOk (k t : Nat) : Bool :=
  decide ((sets k t).length ≤ 70) &&
  ((sets k t).all fun xs => decide (xs.length = t) && xs.all (fun x => decide (0 ≤ x) && decide (x < k)) && decide (maskOf xs < 2 ^ k) && decide (onesOf (maskOf xs) = t) && decide (cols (maskOf xs) k = xs) && decide (rank xs < 100000000) &&
    (match nextFrom k xs t with | none => true | some ys => decide (rank xs < rank ys))) &&
  ((List.range (2 ^ k)).all fun C => !(onesOf C == t) || (sets k t).contains (cols C k))
theorem sets_true : ((List.range 9).all fun k => (List.range (k + 1)).all fun t => t == 0 || setsOk k t) = true := by decide +kernel
theorem sets_ok (k t : Nat) (hk : k ≤ 8) (ht1 : 1 ≤ t) (ht : t ≤ k) : setsOk k t = true := by
  have h := sets_true
  have h1 := List.all_eq_true.1 (List.all_eq_true.1 h k (List.mem_range.2 (by omega))) t (List.mem_range.2 (by omega))
  rw [Bool.or_eq_true, beq_iff_eq] at h1
  rcases h1 with h1 | h1
  · omega
  · exact h1
structure SetFacts (k t : Nat) (xs : List Int) : Prop where
  len : xs.length = t
  lev : ∀ x ∈ xs, 0 ≤ x ∧ x < k
  mask : maskOf xs < 2 ^ k
  ones : onesOf (maskOf xs) = t
  co : cols (maskOf xs) k = xs
  rk : rank xs < 100000000
  next : ∀ ys, nextFrom k xs t = some ys → rank xs < rank ys
theorem sets_facts {k t : Nat} (hk : k ≤ 8) (ht1 : 1 ≤ t) (ht : t ≤ k) : (sets k t).length ≤ 70 ∧ (∀ xs ∈ sets k t, SetFacts k t xs) ∧ ∀ C, C < 2 ^ k → onesOf C = t → cols C k ∈ sets k t := by
  have h := sets_ok k t hk ht1 ht
  unfold setsOk at h
  rw [Bool.and_eq_true, Bool.and_eq_true] at h
  obtain ⟨⟨h1, h2⟩, h3⟩ := h
  refine ⟨of_decide_eq_true h1, fun xs hxs => ?_, fun C hC hone => ?_⟩
  · have := List.all_eq_true.1 h2 xs hxs
    simp only [Bool.and_eq_true, decide_eq_true_iff, List.all_eq_true] at this
    obtain ⟨⟨⟨⟨⟨⟨a1, a2⟩, a3⟩, a4⟩, a5⟩, a6⟩, a7⟩ := this
    refine ⟨a1, a2, a3, a4, a5, a6, fun ys hy => ?_⟩
    rw [hy] at a7
    exact of_decide_eq_true a7
  · have := List.all_eq_true.1 h3 C (List.mem_range.2 hC)
    rw [hone] at this
    simpa using this

theorem mem_cols {C k : Nat} {x : Int} : x ∈ cols C k ↔ ∃ q : Nat, q < k ∧ inSet C q = true ∧ x = q := by
  unfold cols
  constructor
  · intro h
    obtain ⟨q, hq, rfl⟩ := List.mem_map.1 h
    obtain ⟨h1, h2⟩ := List.mem_filter.1 hq
    exact ⟨q, List.mem_range.1 h1, h2, rfl⟩
  · rintro ⟨q, h1, h2, rfl⟩
    exact List.mem_map.2 ⟨q, List.mem_filter.2 ⟨List.mem_range.2 h1, h2⟩, rfl⟩
theorem same_agree {C k : Nat} {r r' : List Int} : SameOn (cols C k) r r' (cols C k).length ↔ Agree C k r r' := by
  constructor
  · intro h q hq hs
    obtain ⟨j, hj, he⟩ := List.getElem_of_mem (mem_cols.2 ⟨q, hq, hs, rfl⟩)
    have := h j hj
    rw [nth_eq _ _ hj, he, Int.toNat_natCast] at this
    exact this
  · intro h j hj
    have hm := nth_mem (cols C k) j hj
    obtain ⟨q, h1, h2, h3⟩ := mem_cols.1 hm
    rw [h3, Int.toNat_natCast]
    exact h q h1 h2
theorem cnt_same {S : Int} {xss : List (List Int)} {C k : Nat} (hR : IsRuns S xss) (hk : (row xss 0).length = k) {i : Nat} (hi : i < xss.length) : ∀ n, n ≤ xss.length → cntOn xss (cols C k) (row xss i) n = cntUp xss C (keyOf8 C (row xss i)) n
  | 0, _ => rfl
  | n + 1, hn => by
    have hk8 := hR.k8
    rw [hk] at hk8
    rw [cntOn, cntUp, cnt_same hR hk hi n (by omega)]
    congr 1
    have h := key_agree (C := C) hk8 (by rw [hR.len n (by omega), hk] : (row xss n).length = k) (by rw [hR.len i hi, hk] : (row xss i).length = k)
    by_cases h1 : keyOf8 C (row xss n) = keyOf8 C (row xss i)
    · rw [if_pos h1, if_pos]
      rw [same_agree]
      exact fun q hq hs => (h.1 h1 q hq hs).symm
    · rw [if_neg h1, if_neg]
      rw [same_agree]
      exact fun h2 => h1 (h.2 fun q hq hs => (h2 q hq hs).symm)

/-- A set whose runs are alike often, as the reference asks. -/
def GoodSet (xss : List (List Int)) (A : Nat) (xs : List Int) : Prop := ∀ i, i < xss.length → cntOn xss xs (row xss i) xss.length = xss.length / A
theorem good_alike {S : Nat} {xss : List (List Int)} {C k : Nat} (hR : IsRuns S xss) (hk : (row xss 0).length = k) (hA : S ^ onesOf C ≤ xss.length) (hm : xss.length % S ^ onesOf C = 0) : GoodSet xss (S ^ onesOf C) (cols C k) ↔ AlikeP S xss C := by
  have hS := hR.s2
  have hpos : 0 < S ^ onesOf C := Nat.pow_pos (by omega)
  obtain ⟨A, hAe⟩ : ∃ A, S ^ onesOf C = A := ⟨_, rfl⟩
  unfold GoodSet AlikeP
  rw [hAe] at hA hm hpos ⊢
  have hd : xss.length / A * A = xss.length := by have := Nat.div_add_mod xss.length A; rw [hm, Nat.mul_comm] at this; omega
  constructor
  · intro h
    refine ⟨hA, fun i hi => ?_⟩
    rw [← cnt_same hR hk hi xss.length (Nat.le_refl _), h i hi, hd]
  · rintro ⟨_, h⟩ i hi
    have h1 := h i hi
    rw [← cnt_same hR hk hi xss.length (Nat.le_refl _)] at h1
    exact Nat.eq_of_mul_eq_mul_right hpos (h1.trans hd.symm)
theorem alike_div {S : Nat} {xss : List (List Int)} {C : Nat} (h : AlikeP S xss C) (h1 : 1 ≤ xss.length) : S ^ onesOf C ≤ xss.length ∧ xss.length % S ^ onesOf C = 0 := by
  refine ⟨h.1, ?_⟩
  rw [← h.2 0 h1]
  have h2 := h.2 0 h1
  rw [Nat.mul_comm]
  rw [Nat.mul_comm] at h2
  have : (S ^ onesOf C * cntUp xss C (keyOf8 C (row xss 0)) xss.length) % S ^ onesOf C = 0 := Nat.mul_mod_right _ _
  exact this

end Go.Proofs.Ytfggmgfobcgadaa
