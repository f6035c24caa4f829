/- Slices that read as lists, and lists of lists. No conditions. -/
import Derived.Test.YtnfonobdfkpkeaaDoorBlk
namespace Go.Proofs.YtnfonobdfkpkeaaDoor
open Go.RowKit

/-- A slice that reads as a list of ints. -/
def Inner (w : World) (v : Value) (xs : List Int) : Prop := ∃ a c, v = .slice a xs.length c ∧ Reads w a (ints xs) ∧ xs.length ≤ maxLen
theorem Inner.ext {w w' : World} {v : Value} {xs : List Int} (h : Inner w v xs) (hx : Ext w w') : Inner w' v xs := by
  obtain ⟨a, c, rfl, hr, hl⟩ := h
  exact ⟨a, c, rfl, hx.reads hr, hl⟩
/-- The row of a number. -/
def row (xss : List (List Int)) (j : Nat) : List Int := xss.getD j []
theorem row_eq (xss : List (List Int)) (j : Nat) (h : j < xss.length) : row xss j = xss[j] := by simp [row, List.getElem?_eq_getElem h]
theorem row_ext (xs ys : List (List Int)) (hl : xs.length = ys.length) (h : ∀ j, j < xs.length → row xs j = row ys j) : xs = ys := by
  apply List.ext_getElem hl
  intro j h1 h2
  have := h j h1
  rwa [row_eq _ _ h1, row_eq _ _ h2] at this
/-- Slices that read as lists of ints. -/
def Rows2 (w : World) (vs : List Value) (xss : List (List Int)) : Prop := vs.length = xss.length ∧ ∀ j v, vs[j]? = some v → Inner w v (row xss j)
theorem Rows2.ext {w w' : World} {vs : List Value} {xss : List (List Int)} (h : Rows2 w vs xss) (hx : Ext w w') : Rows2 w' vs xss := ⟨h.1, fun j v hv => (h.2 j v hv).ext hx⟩
theorem Rows2.nil (w : World) : Rows2 w [] [] := ⟨rfl, fun j v hv => by simp at hv⟩
theorem Rows2.snoc {w : World} {vs : List Value} {xss : List (List Int)} (h : Rows2 w vs xss) {v : Value} {xs : List Int} (hv : Inner w v xs) : Rows2 w (vs ++ [v]) (xss ++ [xs]) := by
  refine ⟨by simp [h.1], fun j u hu => ?_⟩
  have hj : j < vs.length + 1 := by have := (List.getElem?_eq_some_iff.1 hu).1; simpa using this
  by_cases hlt : j < vs.length
  · rw [List.getElem?_append_left hlt] at hu
    have := h.2 j u hu
    rwa [show row (xss ++ [xs]) j = row xss j by unfold row; rw [List.getD_eq_getElem?_getD, List.getD_eq_getElem?_getD, List.getElem?_append_left (by rw [← h.1]; exact hlt)]]
  · obtain rfl : j = vs.length := by omega
    rw [List.getElem?_append_right (Nat.le_refl _), Nat.sub_self] at hu
    simp at hu
    subst hu
    rwa [show row (xss ++ [xs]) vs.length = xs by unfold row; rw [List.getD_eq_getElem?_getD, h.1, List.getElem?_append_right (Nat.le_refl _), Nat.sub_self]; rfl]
/-- A slice of slices that reads as a list of lists. -/
def ReadsL (w : World) (ao : Option Addr) (xss : List (List Int)) : Prop := ∃ vs, Reads w ao vs ∧ Rows2 w vs xss
theorem ReadsL.ext {w w' : World} {ao : Option Addr} {xss : List (List Int)} (h : ReadsL w ao xss) (hx : Ext w w') : ReadsL w' ao xss := by
  obtain ⟨vs, h1, h2⟩ := h
  exact ⟨vs, hx.reads h1, h2.ext hx⟩
theorem ReadsL.nil (w : World) (ao : Option Addr) : ReadsL w ao [] := ⟨[], .inl rfl, Rows2.nil w⟩
/-- A row that is read. -/
theorem ReadsL.row {w : World} {ao : Option Addr} {xss : List (List Int)} (h : ReadsL w ao xss) (hn : 0 < xss.length) :
    ∃ b off, ao = some ⟨b, off, none⟩ ∧ b < w.heap.size ∧ ∀ j, j < xss.length → ∃ a c, w.cell? ⟨b, off + j, none⟩ = some (.slice a (row xss j).length c) ∧ Reads w a (ints (row xss j)) ∧ (row xss j).length ≤ maxLen := by
  obtain ⟨vs, h1, h2⟩ := h
  rcases h1 with h1 | ⟨b, off, ha, hlt, hc⟩
  · have := h2.1; rw [h1] at this; simp at this; omega
  · refine ⟨b, off, ha, hlt, fun j hj => ?_⟩
    have hj' : j < vs.length := by rw [h2.1]; exact hj
    have hv := List.getElem?_eq_getElem hj'
    obtain ⟨a, c, e, hr, hl⟩ := h2.2 j _ hv
    exact ⟨a, c, by rw [hc j _ hv, e], hr, hl⟩

end Go.Proofs.YtnfonobdfkpkeaaDoor
