/- A slice of slices that the call itself makes, row by row. No conditions. -/
import Derived.Test.YtnfonobdfkpkeaaDoorReadsL
import Derived.Test.YtnfonobdfkpkeaaDoorOwnInts
import Derived.Maps.AppendAt
namespace Go.Proofs.YtnfonobdfkpkeaaDoor
open Go.RowKit

/-- A slice that reads as a list of ints; where it is not empty, its block is one of P and not x. -/
def InnerX (w : World) (P : Nat → Prop) (x : Option Nat) (v : Value) (xs : List Int) : Prop := ∃ a c, v = .slice a xs.length c ∧ xs.length ≤ maxLen ∧
  (xs = [] ∨ ∃ b off, a = some ⟨b, off, none⟩ ∧ b < w.heap.size ∧ P b ∧ some b ≠ x ∧ ∀ j u, (ints xs)[j]? = some u → w.cell? ⟨b, off + j, none⟩ = some u)
theorem InnerX.inner {w : World} {P : Nat → Prop} {x : Option Nat} {v : Value} {xs : List Int} (h : InnerX w P x v xs) : Inner w v xs := by
  obtain ⟨a, c, e, hl, h⟩ := h
  refine ⟨a, c, e, ?_, hl⟩
  rcases h with h | ⟨b, off, h1, h2, _, _, h3⟩
  · subst h; exact .inl rfl
  · exact .inr ⟨b, off, h1, h2, h3⟩
theorem InnerX.grown {w w' : World} {P : Nat → Prop} {x x' : Option Nat} {v : Value} {xs : List Int} (h : InnerX w P x v xs) (hg : w.grownBy w' x) (hx : x' = x ∨ x' = some w.heap.size) : InnerX w' P x' v xs := by
  obtain ⟨a, c, e, hl, h⟩ := h
  refine ⟨a, c, e, hl, ?_⟩
  rcases h with h | ⟨b, off, h1, h2, hP, hne, h3⟩
  · exact .inl h
  · refine .inr ⟨b, off, h1, by have := hg.size; omega, hP, ?_, fun j u hu => ?_⟩
    · rcases hx with rfl | rfl
      · exact hne
      · intro e; simp at e; omega
    · rw [World.cell?_of_block (w := w) (hg.block b h2 hne)]; exact h3 j u hu
theorem grownBy_of_ext {w w' : World} (h : Ext w w') (x : Option Nat) : w.grownBy w' x := ⟨h.os, h.tape, h.output, h.size, fun i hi _ => h.block i hi⟩
theorem InnerX.ext {w w' : World} {P : Nat → Prop} {x : Option Nat} {v : Value} {xs : List Int} (h : InnerX w P x v xs) (hx : Ext w w') : InnerX w' P x v xs := h.grown (grownBy_of_ext hx x) (.inl rfl)
theorem InnerX.beside {w : World} {P : Nat → Prop} {x : Option Nat} {v : Value} {xs : List Int} (h : InnerX w P x v xs) (p : Addr) (hp : ¬ P p.block) (u : Value) : InnerX (w.setCell p u) P x v xs := by
  obtain ⟨a, c, e, hl, h⟩ := h
  refine ⟨a, c, e, hl, ?_⟩
  rcases h with h | ⟨b, off, h1, h2, hP, hne, h3⟩
  · exact .inl h
  · refine .inr ⟨b, off, h1, by simpa [World.setCell] using h2, hP, hne, fun j u' hu => ?_⟩
    rw [World.cell?_of_block (w := w) (Below.heap_setCell w p u b (by rintro rfl; exact hp hP))]; exact h3 j u' hu
/-- An own row reads so. -/
theorem RowOf.innerX {e : TypeId} {w : World} {B : Nat} {ao : Option Addr} {n cap : Nat} {xs : List Int} (h : RowOf e w B ao n cap (ints xs)) (P : Nat → Prop) (x : Option Nat) (hP : ∀ b, B ≤ b → P b) (hx : ∀ b, x = some b → b < B) (hn : n ≤ maxLen) : InnerX w P x (.slice ao n cap) xs := by
  have hl : xs.length = n := by have := h.length; rwa [ints_length] at this
  refine ⟨ao, cap, by rw [hl], by omega, ?_⟩
  by_cases h0 : 0 < n
  · obtain ⟨g, rfl, h1, h2, h3, _⟩ := h.opened h0
    exact .inr ⟨g, 0, rfl, h2, hP g h1, fun e => by have := hx g e.symm; omega, fun j u hu => by rw [Nat.zero_add]; exact h3 j u hu⟩
  · exact .inl (List.eq_nil_of_length_eq_zero (by omega))

/-- The rows. -/
def Rows2X (w : World) (P : Nat → Prop) (x : Option Nat) (vs : List Value) (xss : List (List Int)) : Prop := vs.length = xss.length ∧ ∀ j v, vs[j]? = some v → InnerX w P x v (row xss j)
theorem row_append_left (xss yss : List (List Int)) (j : Nat) (h : j < xss.length) : row (xss ++ yss) j = row xss j := by
  unfold row; rw [List.getD_eq_getElem?_getD, List.getD_eq_getElem?_getD, List.getElem?_append_left h]
theorem row_append_end (xss : List (List Int)) (xs : List Int) : row (xss ++ [xs]) xss.length = xs := by
  unfold row; rw [List.getD_eq_getElem?_getD, List.getElem?_append_right (Nat.le_refl _), Nat.sub_self]; rfl
theorem Rows2X.snoc {w : World} {P : Nat → Prop} {x : Option Nat} {vs : List Value} {xss : List (List Int)} (h : Rows2X w P x vs xss) {v : Value} {xs : List Int} (hv : InnerX w P x v xs) : Rows2X w P x (vs ++ [v]) (xss ++ [xs]) := by
  refine ⟨by simp [h.1], fun j u hu => ?_⟩
  have hj : j < vs.length + 1 := by have := (List.getElem?_eq_some_iff.1 hu).1; simpa using this
  by_cases hlt : j < vs.length
  · rw [List.getElem?_append_left hlt] at hu
    rw [row_append_left _ _ _ (by rw [← h.1]; exact hlt)]
    exact h.2 j u hu
  · obtain rfl : j = vs.length := by omega
    rw [List.getElem?_append_right (Nat.le_refl _), Nat.sub_self] at hu
    simp at hu
    subst hu
    rw [h.1, row_append_end]; exact hv

/-- A table of the call's own: its block is B or behind, the blocks of its rows are of P. -/
def Tbl (w : World) (P : Nat → Prop) (B : Nat) (ao : Option Addr) (n cap : Nat) (xss : List (List Int)) : Prop :=
  ∃ vs, RowOf 22 w B ao n cap vs ∧ Rows2X w P (Value.slice ao n cap).ownBlock vs xss
theorem Tbl.nil (w : World) (P : Nat → Prop) (B : Nat) : Tbl w P B none 0 0 [] := ⟨[], RowOf.nil _ _ _, rfl, fun j v hv => by simp at hv⟩
theorem Tbl.length {w : World} {P : Nat → Prop} {B : Nat} {ao : Option Addr} {n cap : Nat} {xss : List (List Int)} (h : Tbl w P B ao n cap xss) : xss.length = n := by
  obtain ⟨vs, h1, h2⟩ := h; rw [← h2.1]; exact h1.length
theorem Tbl.block {w : World} {P : Nat → Prop} {B : Nat} {ao : Option Addr} {n cap : Nat} {xss : List (List Int)} (h : Tbl w P B ao n cap xss) : ∀ k, (Value.slice ao n cap).ownBlock = some k → B ≤ k ∧ k < w.heap.size := by
  obtain ⟨vs, h1, h2⟩ := h; exact h1.block
theorem Tbl.ext {w w' : World} {P : Nat → Prop} {B : Nat} {ao : Option Addr} {n cap : Nat} {xss : List (List Int)} (h : Tbl w P B ao n cap xss) (hx : Ext w w') : Tbl w' P B ao n cap xss := by
  obtain ⟨vs, h1, h2⟩ := h
  exact ⟨vs, hx.row h1, h2.1, fun j v hv => (h2.2 j v hv).ext hx⟩
theorem Tbl.mono {w : World} {P : Nat → Prop} {B B' : Nat} {ao : Option Addr} {n cap : Nat} {xss : List (List Int)} (h : Tbl w P B ao n cap xss) (hB : B' ≤ B) : Tbl w P B' ao n cap xss := by
  obtain ⟨vs, h1, h2⟩ := h
  exact ⟨vs, h1.mono hB, h2⟩
theorem Tbl.readsL {w : World} {P : Nat → Prop} {B : Nat} {ao : Option Addr} {n cap : Nat} {xss : List (List Int)} (h : Tbl w P B ao n cap xss) : ReadsL w ao xss := by
  obtain ⟨vs, h1, h2⟩ := h
  exact ⟨vs, h1.reads, h2.1, fun j v hv => (h2.2 j v hv).inner⟩
theorem Tbl.beside {w : World} {P : Nat → Prop} {B : Nat} {ao : Option Addr} {n cap : Nat} {xss : List (List Int)} (h : Tbl w P B ao n cap xss) (p : Addr) (hB : p.block < B) (hp : ¬ P p.block) (u : Value) : Tbl (w.setCell p u) P B ao n cap xss := by
  obtain ⟨vs, h1, h2⟩ := h
  exact ⟨vs, h1.beside p hB u, h2.1, fun j v hv => (h2.2 j v hv).beside p hp u⟩

theorem eRow : Elt 27 22 (.slice none 0 0) 24 := ⟨Tryd.underlying27, by kernel_rfl, rfl, by decide⟩

theorem Blk.grown {w w' : World} {b : Nat} {cs : Array Value} {t : TypeId} {x : Option Nat} (h : Blk w b cs t) (hg : w.grownBy w' x) (hne : some b ≠ x) : Blk w' b cs t := (hg.block b h.lt hne).trans h

/-- A list of lists that has been made since w0. -/
def OwnTbl (w0 w : World) (v : Value) (xss : List (List Int)) : Prop := ∃ ao n cap, v = .slice ao n cap ∧ Tbl w (fun b => w0.heap.size ≤ b) w0.heap.size ao n cap xss ∧ Ext w0 w
theorem OwnTbl.nil {w0 w : World} (h : Ext w0 w) : OwnTbl w0 w (.slice none 0 0) [] := ⟨none, 0, 0, rfl, Tbl.nil _ _ _, h⟩
theorem OwnTbl.ext {w0 w w' : World} {v : Value} {xss : List (List Int)} (h : OwnTbl w0 w v xss) (hx : Ext w w') : OwnTbl w0 w' v xss := by
  obtain ⟨ao, n, cap, rfl, h1, h2⟩ := h; exact ⟨ao, n, cap, rfl, h1.ext hx, h2.trans hx⟩

theorem InnerX.weaken {w : World} {P P' : Nat → Prop} {x : Option Nat} {v : Value} {xs : List Int} (h : InnerX w P x v xs) (hp : ∀ b, P b → P' b) : InnerX w P' x v xs := by
  obtain ⟨a, c, e, hl, h⟩ := h
  refine ⟨a, c, e, hl, ?_⟩
  rcases h with h | ⟨b, off, h1, h2, hP, h3⟩
  · exact .inl h
  · exact .inr ⟨b, off, h1, h2, hp b hP, h3⟩
theorem OwnTbl.back {w w1 w' : World} {v : Value} {xss : List (List Int)} (hx : Ext w w1) (h : OwnTbl w1 w' v xss) : OwnTbl w w' v xss := by
  obtain ⟨ao, n, cap, rfl, ⟨vs, h1, h2, h3⟩, h4⟩ := h
  exact ⟨ao, n, cap, rfl, ⟨vs, h1.mono hx.size, h2, fun j v hv => (h3 j v hv).weaken fun b hb => Nat.le_trans hx.size hb⟩, hx.trans h4⟩
/-- 'out = append(out, row)', the row's box laid just ahead. -/
theorem wpList_appRow {w : World} {ops : Array Oper} {rest : List Oper} {o : Oper} {a : Act} {Q : Exit → Act → World → Prop}
    {y : Value} (hgd : o.guard = none) (s x : Operand) (ho : o.op = .call { callee := .builtin .append, args := #[s, x], argTypes := #[27, 27] })
    (P : Nat → Prop) (B : Nat) {ao : Option Addr} {n cap : Nat} {xss : List (List Int)} {xs : List Int} (hs : a.eval s = .slice ao n cap) (hown : Tbl w P B ao n cap xss)
    (hx : a.eval x = .slice (some ⟨w.heap.size, 0, none⟩) 1 1) (hy : InnerX w P (Value.slice ao n cap).ownBlock y xs) (hn : n ≤ 1099511627776) (hB : B ≤ w.heap.size)
    (h : ∀ ao' cap' w', Tbl w' P B ao' (n + 1) cap' (xss ++ [xs]) → w.grownBy w' (Value.slice ao n cap).ownBlock →
      (∀ B0 w0, Below B0 w0 w → B0 ≤ B → Below B0 w0 w') → wpList Tryd.prog ops Q rest (a.put o.dst (.slice ao' (n + 1) cap')) w') :
    wpList Tryd.prog ops Q (o :: rest) a (w.alloc (.cells #[y] 22)) := by
  obtain ⟨i, hi, hz, hsz, hby⟩ := info_parts eRow.inf
  obtain ⟨vs, h1, h2⟩ := hown
  have hone : y.oneCell' = true := by obtain ⟨_, _, rfl, _⟩ := hy; rfl
  refine wpList_append_own_at (w := w.alloc (.cells #[y] 22)) hgd s x 27 ho B 22 i (.slice none 0 0) 1 24 eRow.und hi hz hsz hby eRow.cel (by decide) _ n vs hs (World.ownsRow.alloc h1 _) ⟨w.heap.size, 0, none⟩ 1 1 [y] hx rfl ?_ ?_ ?_ ?_ (by simp; omega) ?_
  · intro j u hu
    match j, hu with
    | 0, hu => simp at hu; subst hu; simp [Addr.add]
  · intro u hu; simp at hu; subst hu; exact hone
  · unfold maxLen; omega
  · omega
  · intro v' w' hown' hgrow _ hat
    obtain ⟨ao', cap', rfl⟩ := RowOf.shape hown'
    have hx1 : Ext w (w.alloc (.cells #[y] 22)) := (Ext.refl w).alloc _
    have hg2 : w.grownBy w' (Value.slice ao n cap).ownBlock := ⟨hgrow.os.trans hx1.os, hgrow.tape.trans hx1.tape, hgrow.output.trans hx1.output, Nat.le_trans hx1.size hgrow.size, fun k hk hne => (hgrow.block k (Nat.lt_of_lt_of_le hk hx1.size) hne).trans (hx1.block k hk)⟩
    refine h ao' cap' w' ⟨vs ++ [y], hown', ?_⟩ hg2 fun B0 w0 hb hB0 => (hb.alloc (by omega) _).grown hgrow (by simp; omega) (fun k hk => by have := (h1.block k hk).1; omega)
    have h3 : Rows2X w P (Value.slice ao n cap).ownBlock (vs ++ [y]) (xss ++ [xs]) := h2.snoc hy
    exact ⟨h3.1, fun j v hv => ((h3.2 j v hv).ext hx1).grown hgrow hat⟩

end Go.Proofs.YtnfonobdfkpkeaaDoor
