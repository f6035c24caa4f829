/- What is known of a list of lists of ints that comes in as an argument. No conditions. -/
import Derived.Test.YtfggmgfobcgadaaArgInts
import Derived.Test.YtfggmgfobcgadaaLists
import Derived.Deep.Matrix
namespace Go.Proofs.Ytfggmgfobcgadaa
open Go.ChangeShapes Go.WideShapes Go.ChangeAt Go.RowKit

/-- A list of lists that came in. -/
structure ListsArg (w : World) (ao : Option Addr) (n cap : Nat) (xss : List (List Int)) : Prop where
  len : xss.length = n
  big : n ≤ maxLen
  reads : ReadsL w ao xss
  rng : ∀ xs ∈ xss, ∀ x ∈ xs, -9223372036854775808 ≤ x ∧ x ≤ 9223372036854775807

theorem open_listsArg {H : Type} {enc : TypeId × Value → H} {W : World} {base : Nat} {v : Value} {d : DataW H} {p : List MemPlace}
    (hv : Value.okWide Try.prog W .any base 27 v) (h : DataW.Trod enc Try.prog W 0 (fun _ => true) true 27 v d p) :
    ∃ ao n cap xss, v = .slice ao n cap ∧ ListsArg W ao n cap xss := by
  obtain ⟨a0, len0, cap0, rfl⟩ := okWide_slice Try.underlying27 hv
  obtain ⟨fuel, hf⟩ := h
  have hf' : DataW.trod enc Try.prog W 0 (fun _ => true) true fuel 27 [.slice a0 len0 cap0] = some (d, p) := by simpa [Value.cells] using hf
  rcases Go.Deep.open_int_rows Try.underlying27 Try.underlying40 Try.underlying3 (by kernel_rfl) (by kernel_rfl) hf' with ⟨hcs, _⟩ | ⟨a, len, cap, A, L, C, Z, hcs, _, hl, hm, _, hr⟩
  · obtain ⟨rfl, rfl, rfl⟩ : a0 = none ∧ len0 = 0 ∧ cap0 = 0 := by simpa using hcs
    exact ⟨none, 0, 0, [], rfl, rfl, by decide, ReadsL.nil _ _, by simp⟩
  · obtain ⟨rfl, rfl, rfl⟩ : a0 = some a ∧ len0 = len ∧ cap0 = cap := by simpa using hcs
    have hrow : ∀ r, r < len0 → row ((List.range len0).map fun r => (Z r).take (L r)) r = (Z r).take (L r) := fun r hr' => by
      rw [row_eq _ _ (by simpa using hr')]; simp
    refine ⟨some a, len0, cap0, (List.range len0).map fun r => (Z r).take (L r), rfl, by simp, by omega, ⟨(List.range len0).map fun r => .slice (A r) (L r) (C r), reads_of_add fun i u hu => ?_, by simp, fun j v hv => ?_⟩, fun xs hxs x hx => ?_⟩
    · have hi : i < len0 := by have := (List.getElem?_eq_some_iff.1 hu).1; simpa using this
      rw [(hr i (by omega)).1, ← hu]
      simp [hi]
    · have hj : j < len0 := by have := (List.getElem?_eq_some_iff.1 hv).1; simpa using this
      obtain ⟨h1, h2, h3, h4, h5, h6, h7⟩ := hr j (by omega)
      rw [hrow j hj]
      have hlen : ((Z j).take (L j)).length = L j := by simp; omega
      refine ⟨A j, C j, by rw [hlen]; simpa [hj] using hv.symm, ?_, by rw [hlen]; omega⟩
      rcases hA : A j with _ | a'
      · have := h6 hA
        have h0 : L j = 0 := by omega
        rw [h0]; exact .inl rfl
      · refine reads_of_add fun i u hu => ?_
        have hi : i < L j := by have := (List.getElem?_eq_some_iff.1 hu).1; simp [ints] at this; omega
        rw [(h7 a' hA).2 i (by omega), ← hu]
        simp [ints, hi, List.getElem?_eq_getElem (show i < (Z j).length by omega)]
    · obtain ⟨r, hr1, rfl⟩ := List.mem_map.1 hxs
      obtain ⟨h1, h2, h3, h4, h5, h6, h7⟩ := hr r (by have := List.mem_range.1 hr1; omega)
      exact rng_of_wf (h5 x (List.mem_of_mem_take hx))

end Go.Proofs.Ytfggmgfobcgadaa
