/- Runs that agree in a set of columns; plain. -/
import Derived.Test.YtnhdngnolepkcaaStrength
namespace Go.Proofs.Ytnhdngnolepkcaa
open Go.RowKit Go.Maps

theorem cntUp_list (xss : List (List Int)) (C : Nat) (key : List Int) : ∀ j, j ≤ xss.length → cntUp xss C key j = (xss.take j).countP (fun r => decide (keyOf8 C r = key))
  | 0, _ => by simp [cntUp]
  | j + 1, h => by
    rw [cntUp, cntUp_list xss C key j (by omega), List.take_add_one, List.getElem?_eq_getElem (show j < xss.length by omega), List.countP_append, row_eq _ _ (show j < xss.length by omega)]
    congr 1
    simp [List.countP_cons]
theorem alike_list {S : Nat} {xss : List (List Int)} {C : Nat} : AlikeP S xss C ↔ S ^ onesOf C ≤ xss.length ∧ ∀ r ∈ xss, xss.countP (fun x => decide (keyOf8 C x = keyOf8 C r)) * S ^ onesOf C = xss.length := by
  unfold AlikeP
  constructor
  · rintro ⟨h1, h2⟩
    refine ⟨h1, fun r hr => ?_⟩
    obtain ⟨i, hi, rfl⟩ := List.getElem_of_mem hr
    have h := h2 i hi
    rw [cntUp_list xss C _ _ (Nat.le_refl _), List.take_length, row_eq _ _ hi] at h
    exact h
  · rintro ⟨h1, h2⟩
    refine ⟨h1, fun i hi => ?_⟩
    rw [cntUp_list xss C _ _ (Nat.le_refl _), List.take_length, row_eq _ _ hi]
    exact h2 _ (List.getElem_mem hi)
/-- Two runs agree in a set of columns. -/
def Agree (C k : Nat) (r r' : List Int) : Prop := ∀ q, q < k → inSet C q = true → nth r q = nth r' q
theorem key_agree {C k : Nat} {r r' : List Int} (hk : k ≤ 8) (h : r.length = k) (h' : r'.length = k) : keyOf8 C r = keyOf8 C r' ↔ Agree C k r r' := by
  unfold keyOf8
  rw [h, h']
  constructor
  · intro he q hq hs
    have e1 := nth_keyUp C r k q (by omega)
    have e2 := nth_keyUp C r' k q (by omega)
    rw [if_pos ⟨hq, hs⟩] at e1 e2
    rw [← e1, ← e2, he]
  · intro ha
    refine nth_ext _ _ (by rw [keyUp_length, keyUp_length]) fun q hq => ?_
    rw [keyUp_length] at hq
    rw [nth_keyUp C r k q hq, nth_keyUp C r' k q hq]
    by_cases hc : q < k ∧ inSet C q = true
    · rw [if_pos hc, if_pos hc]; exact ha q hc.1 hc.2
    · rw [if_neg hc, if_neg hc]
theorem IsRuns.row {s : Int} {xss : List (List Int)} (h : IsRuns s xss) {r : List Int} (hr : r ∈ xss) : r.length = (Go.Proofs.Ytnhdngnolepkcaa.row xss 0).length ∧ ∀ x ∈ r, 0 ≤ x ∧ x < s := by
  obtain ⟨i, hi, rfl⟩ := List.getElem_of_mem hr
  rw [← row_eq _ _ hi]
  exact ⟨h.len i hi, h.lev i hi⟩
theorem rowFault_ok {s : Int} {k : Nat} {r : List Int} (h : r.length = k) (h1 : 1 ≤ k) (h8 : k ≤ 8) (hx : ∀ x ∈ r, 0 ≤ x ∧ x < s) : rowFault s k r = 0 := by
  unfold rowFault
  rw [h, if_neg (by omega), if_neg]
  simp only [List.any_eq_true, not_exists, not_and, Bool.not_eq_true]
  intro x hm
  have := hx x hm
  unfold badAt
  rw [decide_eq_false (by omega), decide_eq_false (by omega)]
  rfl
theorem runs_zero {s : Int} {k : Nat} {yss : List (List Int)} (h2 : 2 ≤ s) (h64 : s ≤ 64) (n1 : 1 ≤ yss.length) (n128 : yss.length ≤ 128) (h1 : 1 ≤ k) (h8 : k ≤ 8) (hr : ∀ r ∈ yss, r.length = k ∧ ∀ x ∈ r, 0 ≤ x ∧ x < s) : RunsAre s yss 0 ∧ (row yss 0).length = k := by
  have hk : (row yss 0).length = k := by rw [row_eq _ _ (by omega)]; exact (hr _ (List.getElem_mem _)).1
  refine ⟨.inr (.inr (.inr ⟨h2, h64, n1, n128, .inr ⟨fun i hi => ?_, rfl⟩⟩)), hk⟩
  rw [hk, row_eq _ _ hi]
  obtain ⟨e1, e2⟩ := hr _ (List.getElem_mem hi)
  exact rowFault_ok e1 h1 h8 e2

end Go.Proofs.Ytnhdngnolepkcaa
