/- Lists of ints that a call makes. No conditions. -/
import Derived.Test.YtnfonobdfkpkeaaDoorBlk
namespace Go.Proofs.YtnfonobdfkpkeaaDoor
open Go.RowKit

/-- A list of ints that has been made since w0. -/
def OwnInts (w0 w : World) (v : Value) (xs : List Int) : Prop := ∃ ao n cap, v = .slice ao n cap ∧ RowOf 3 w w0.heap.size ao n cap (ints xs) ∧ Ext w0 w
theorem OwnInts.nil {w0 w : World} (h : Ext w0 w) : OwnInts w0 w (.slice none 0 0) [] := ⟨none, 0, 0, rfl, RowOf.nil _ _ _, h⟩
theorem OwnInts.ext {w0 w w' : World} {v : Value} {xs : List Int} (h : OwnInts w0 w v xs) (hx : Ext w w') : OwnInts w0 w' v xs := by
  obtain ⟨ao, n, cap, rfl, h1, h2⟩ := h; exact ⟨ao, n, cap, rfl, hx.row h1, h2.trans hx⟩
theorem OwnInts.back {w w1 w' : World} {v : Value} {xs : List Int} (hx : Ext w w1) (h : OwnInts w1 w' v xs) : OwnInts w w' v xs := by
  obtain ⟨ao, n, cap, rfl, h1, h2⟩ := h
  exact ⟨ao, n, cap, rfl, h1.mono hx.size, hx.trans h2⟩

end Go.Proofs.YtnfonobdfkpkeaaDoor
