/- Lists of ints that a call makes. No conditions. -/
import Derived.Test.YtnhdngnolepkcaaDoorJpoobehflpg
import Derived.Maps.AppendAt
namespace Go.Proofs.YtnhdngnolepkcaaDoor
open Go.RowKit

/-- A list of ints that has been made since w0. -/
def OwnInts (w0 w : World) (v : Value) (xs : List Int) : Prop := ∃ ao n cap, v = .slice ao n cap ∧ RowOf 3 w w0.heap.size ao n cap (ints xs) ∧ Ext w0 w
theorem OwnInts.nil {w0 w : World} (h : Ext w0 w) : OwnInts w0 w (.slice none 0 0) [] := ⟨none, 0, 0, rfl, RowOf.nil _ _ _, h⟩
theorem OwnInts.ext {w0 w w' : World} {v : Value} {xs : List Int} (h : OwnInts w0 w v xs) (hx : Ext w w') : OwnInts w0 w' v xs := by
  obtain ⟨ao, n, cap, rfl, h1, h2⟩ := h; exact ⟨ao, n, cap, rfl, hx.row h1, h2.trans hx⟩
theorem OwnInts.back {w w1 w' : World} {v : Value} {xs : List Int} (hx : Ext w w1) (h : OwnInts w1 w' v xs) : OwnInts w w' v xs := by
  obtain ⟨ao, n, cap, rfl, h1, h2⟩ := h
  exact ⟨ao, n, cap, rfl, h1.mono hx.size, hx.trans h2⟩

end Go.Proofs.YtnhdngnolepkcaaDoor

/- A slice of slices that the call itself makes, row by row. No conditions. -/
namespace Go.Proofs.YtnhdngnolepkcaaDoor
open Go.RowKit

/-- A slice that reads as a list of ints; where it is not empty, its block is one of P and not x. -/
def InnerX (w : World) (P : Nat → Prop) (x : Option Nat) (v : Value) (xs : List Int) : Prop := ∃ a c, v = .slice a xs.length c ∧ xs.length ≤ maxLen ∧
  (xs = [] ∨ ∃ b off, a = some ⟨b, off, none⟩ ∧ b < w.heap.size ∧ P b ∧ some b ≠ x ∧ ∀ j u, (ints xs)[j]? = some u → w.cell? ⟨b, off + j, none⟩ = some u)
theorem InnerX.inner {w : World} {P : Nat → Prop} {x : Option Nat} {v : Value} {xs : List Int} (h : InnerX w P x v xs) : Inner w v xs := by
  obtain ⟨a, c, e, hl, h⟩ := h
  refine ⟨a, c, e, ?_, hl⟩
  rcases h with h | ⟨b, off, h1, h2, _, _, h3⟩
  · subst h; exact .inl rfl
  · exact .inr ⟨b, off, h1, h2, h3⟩
theorem InnerX.grown {w w' : World} {P : Nat → Prop} {x x' : Option Nat} {v : Value} {xs : List Int} (h : InnerX w P x v xs) (hg : w.grownBy w' x) (hx : x' = x ∨ x' = some w.heap.size) : InnerX w' P x' v xs := by
  obtain ⟨a, c, e, hl, h⟩ := h
  refine ⟨a, c, e, hl, ?_⟩
  rcases h with h | ⟨b, off, h1, h2, hP, hne, h3⟩
  · exact .inl h
  · refine .inr ⟨b, off, h1, by have := hg.size; omega, hP, ?_, fun j u hu => ?_⟩
    · rcases hx with rfl | rfl
      · exact hne
      · intro e; simp at e; omega
    · rw [World.cell?_of_block (w := w) (hg.block b h2 hne)]; exact h3 j u hu
theorem grownBy_of_ext {w w' : World} (h : Ext w w') (x : Option Nat) : w.grownBy w' x := ⟨h.os, h.tape, h.output, h.size, fun i hi _ => h.block i hi⟩
theorem InnerX.ext {w w' : World} {P : Nat → Prop} {x : Option Nat} {v : Value} {xs : List Int} (h : InnerX w P x v xs) (hx : Ext w w') : InnerX w' P x v xs := h.grown (grownBy_of_ext hx x) (.inl rfl)
theorem InnerX.beside {w : World} {P : Nat → Prop} {x : Option Nat} {v : Value} {xs : List Int} (h : InnerX w P x v xs) (p : Addr) (hp : ¬ P p.block) (u : Value) : InnerX (w.setCell p u) P x v xs := by
  obtain ⟨a, c, e, hl, h⟩ := h
  refine ⟨a, c, e, hl, ?_⟩
  rcases h with h | ⟨b, off, h1, h2, hP, hne, h3⟩
  · exact .inl h
  · refine .inr ⟨b, off, h1, by simpa [World.setCell] using h2, hP, hne, fun j u' hu => ?_⟩
    rw [World.cell?_of_block (w := w) (Below.heap_setCell w p u b (by rintro rfl; exact hp hP))]; exact h3 j u' hu
/-- An own row reads so. -/
theorem RowOf.innerX {e : TypeId} {w : World} {B : Nat} {ao : Option Addr} {n cap : Nat} {xs : List Int} (h : RowOf e w B ao n cap (ints xs)) (P : Nat → Prop) (x : Option Nat) (hP : ∀ b, B ≤ b → P b) (hx : ∀ b, x = some b → b < B) (hn : n ≤ maxLen) : InnerX w P x (.slice ao n cap) xs := by
  have hl : xs.length = n := by have := h.length; rwa [ints_length] at this
  refine ⟨ao, cap, by rw [hl], by omega, ?_⟩
  by_cases h0 : 0 < n
  · obtain ⟨g, rfl, h1, h2, h3, _⟩ := h.opened h0
    exact .inr ⟨g, 0, rfl, h2, hP g h1, fun e => by have := hx g e.symm; omega, fun j u hu => by rw [Nat.zero_add]; exact h3 j u hu⟩
  · exact .inl (List.eq_nil_of_length_eq_zero (by omega))

/-- The rows. -/
def Rows2X (w : World) (P : Nat → Prop) (x : Option Nat) (vs : List Value) (xss : List (List Int)) : Prop := vs.length = xss.length ∧ ∀ j v, vs[j]? = some v → InnerX w P x v (row xss j)
theorem row_append_left (xss yss : List (List Int)) (j : Nat) (h : j < xss.length) : row (xss ++ yss) j = row xss j := by
  unfold row; rw [List.getD_eq_getElem?_getD, List.getD_eq_getElem?_getD, List.getElem?_append_left h]
theorem row_append_end (xss : List (List Int)) (xs : List Int) : row (xss ++ [xs]) xss.length = xs := by
  unfold row; rw [List.getD_eq_getElem?_getD, List.getElem?_append_right (Nat.le_refl _), Nat.sub_self]; rfl
theorem Rows2X.snoc {w : World} {P : Nat → Prop} {x : Option Nat} {vs : List Value} {xss : List (List Int)} (h : Rows2X w P x vs xss) {v : Value} {xs : List Int} (hv : InnerX w P x v xs) : Rows2X w P x (vs ++ [v]) (xss ++ [xs]) := by
  refine ⟨by simp [h.1], fun j u hu => ?_⟩
  have hj : j < vs.length + 1 := by have := (List.getElem?_eq_some_iff.1 hu).1; simpa using this
  by_cases hlt : j < vs.length
  · rw [List.getElem?_append_left hlt] at hu
    rw [row_append_left _ _ _ (by rw [← h.1]; exact hlt)]
    exact h.2 j u hu
  · obtain rfl : j = vs.length := by omega
    rw [List.getElem?_append_right (Nat.le_refl _), Nat.sub_self] at hu
    simp at hu
    subst hu
    rw [h.1, row_append_end]; exact hv

/-- A table of the call's own: its block is B or behind, the blocks of its rows are of P. -/
def Tbl (w : World) (P : Nat → Prop) (B : Nat) (ao : Option Addr) (n cap : Nat) (xss : List (List Int)) : Prop :=
  ∃ vs, RowOf 22 w B ao n cap vs ∧ Rows2X w P (Value.slice ao n cap).ownBlock vs xss
theorem Tbl.nil (w : World) (P : Nat → Prop) (B : Nat) : Tbl w P B none 0 0 [] := ⟨[], RowOf.nil _ _ _, rfl, fun j v hv => by simp at hv⟩
theorem Tbl.length {w : World} {P : Nat → Prop} {B : Nat} {ao : Option Addr} {n cap : Nat} {xss : List (List Int)} (h : Tbl w P B ao n cap xss) : xss.length = n := by
  obtain ⟨vs, h1, h2⟩ := h; rw [← h2.1]; exact h1.length
theorem Tbl.block {w : World} {P : Nat → Prop} {B : Nat} {ao : Option Addr} {n cap : Nat} {xss : List (List Int)} (h : Tbl w P B ao n cap xss) : ∀ k, (Value.slice ao n cap).ownBlock = some k → B ≤ k ∧ k < w.heap.size := by
  obtain ⟨vs, h1, h2⟩ := h; exact h1.block
theorem Tbl.ext {w w' : World} {P : Nat → Prop} {B : Nat} {ao : Option Addr} {n cap : Nat} {xss : List (List Int)} (h : Tbl w P B ao n cap xss) (hx : Ext w w') : Tbl w' P B ao n cap xss := by
  obtain ⟨vs, h1, h2⟩ := h
  exact ⟨vs, hx.row h1, h2.1, fun j v hv => (h2.2 j v hv).ext hx⟩
theorem Tbl.mono {w : World} {P : Nat → Prop} {B B' : Nat} {ao : Option Addr} {n cap : Nat} {xss : List (List Int)} (h : Tbl w P B ao n cap xss) (hB : B' ≤ B) : Tbl w P B' ao n cap xss := by
  obtain ⟨vs, h1, h2⟩ := h
  exact ⟨vs, h1.mono hB, h2⟩
theorem Tbl.readsL {w : World} {P : Nat → Prop} {B : Nat} {ao : Option Addr} {n cap : Nat} {xss : List (List Int)} (h : Tbl w P B ao n cap xss) : ReadsL w ao xss := by
  obtain ⟨vs, h1, h2⟩ := h
  exact ⟨vs, h1.reads, h2.1, fun j v hv => (h2.2 j v hv).inner⟩
theorem Tbl.beside {w : World} {P : Nat → Prop} {B : Nat} {ao : Option Addr} {n cap : Nat} {xss : List (List Int)} (h : Tbl w P B ao n cap xss) (p : Addr) (hB : p.block < B) (hp : ¬ P p.block) (u : Value) : Tbl (w.setCell p u) P B ao n cap xss := by
  obtain ⟨vs, h1, h2⟩ := h
  exact ⟨vs, h1.beside p hB u, h2.1, fun j v hv => (h2.2 j v hv).beside p hp u⟩

theorem eRow : Elt 25 22 (.slice none 0 0) 24 := ⟨Tryd.underlying25, by kernel_rfl, rfl, by decide⟩

theorem Blk.grown {w w' : World} {b : Nat} {cs : Array Value} {t : TypeId} {x : Option Nat} (h : Blk w b cs t) (hg : w.grownBy w' x) (hne : some b ≠ x) : Blk w' b cs t := (hg.block b h.lt hne).trans h

/-- A list of lists that has been made since w0. -/
def OwnTbl (w0 w : World) (v : Value) (xss : List (List Int)) : Prop := ∃ ao n cap, v = .slice ao n cap ∧ Tbl w (fun b => w0.heap.size ≤ b) w0.heap.size ao n cap xss ∧ Ext w0 w
theorem OwnTbl.nil {w0 w : World} (h : Ext w0 w) : OwnTbl w0 w (.slice none 0 0) [] := ⟨none, 0, 0, rfl, Tbl.nil _ _ _, h⟩
theorem OwnTbl.ext {w0 w w' : World} {v : Value} {xss : List (List Int)} (h : OwnTbl w0 w v xss) (hx : Ext w w') : OwnTbl w0 w' v xss := by
  obtain ⟨ao, n, cap, rfl, h1, h2⟩ := h; exact ⟨ao, n, cap, rfl, h1.ext hx, h2.trans hx⟩

theorem InnerX.weaken {w : World} {P P' : Nat → Prop} {x : Option Nat} {v : Value} {xs : List Int} (h : InnerX w P x v xs) (hp : ∀ b, P b → P' b) : InnerX w P' x v xs := by
  obtain ⟨a, c, e, hl, h⟩ := h
  refine ⟨a, c, e, hl, ?_⟩
  rcases h with h | ⟨b, off, h1, h2, hP, h3⟩
  · exact .inl h
  · exact .inr ⟨b, off, h1, h2, hp b hP, h3⟩
theorem OwnTbl.back {w w1 w' : World} {v : Value} {xss : List (List Int)} (hx : Ext w w1) (h : OwnTbl w1 w' v xss) : OwnTbl w w' v xss := by
  obtain ⟨ao, n, cap, rfl, ⟨vs, h1, h2, h3⟩, h4⟩ := h
  exact ⟨ao, n, cap, rfl, ⟨vs, h1.mono hx.size, h2, fun j v hv => (h3 j v hv).weaken fun b hb => Nat.le_trans hx.size hb⟩, hx.trans h4⟩
/-- 'out = append(out, row)', the row's box laid just ahead. -/
theorem wpList_appRow {w : World} {ops : Array Oper} {rest : List Oper} {o : Oper} {a : Act} {Q : Exit → Act → World → Prop}
    {y : Value} (hgd : o.guard = none) (s x : Operand) (ho : o.op = .call { callee := .builtin .append, args := #[s, x], argTypes := #[25, 25] })
    (P : Nat → Prop) (B : Nat) {ao : Option Addr} {n cap : Nat} {xss : List (List Int)} {xs : List Int} (hs : a.eval s = .slice ao n cap) (hown : Tbl w P B ao n cap xss)
    (hx : a.eval x = .slice (some ⟨w.heap.size, 0, none⟩) 1 1) (hy : InnerX w P (Value.slice ao n cap).ownBlock y xs) (hn : n ≤ 1099511627776) (hB : B ≤ w.heap.size)
    (h : ∀ ao' cap' w', Tbl w' P B ao' (n + 1) cap' (xss ++ [xs]) → w.grownBy w' (Value.slice ao n cap).ownBlock →
      (∀ B0 w0, Below B0 w0 w → B0 ≤ B → Below B0 w0 w') → wpList Tryd.prog ops Q rest (a.put o.dst (.slice ao' (n + 1) cap')) w') :
    wpList Tryd.prog ops Q (o :: rest) a (w.alloc (.cells #[y] 22)) := by
  obtain ⟨i, hi, hz, hsz, hby⟩ := info_parts eRow.inf
  obtain ⟨vs, h1, h2⟩ := hown
  have hone : y.oneCell' = true := by obtain ⟨_, _, rfl, _⟩ := hy; rfl
  refine wpList_append_own_at (w := w.alloc (.cells #[y] 22)) hgd s x 25 ho B 22 i (.slice none 0 0) 1 24 eRow.und hi hz hsz hby eRow.cel (by decide) _ n vs hs (World.ownsRow.alloc h1 _) ⟨w.heap.size, 0, none⟩ 1 1 [y] hx rfl ?_ ?_ ?_ ?_ (by simp; omega) ?_
  · intro j u hu
    match j, hu with
    | 0, hu => simp at hu; subst hu; simp [Addr.add]
  · intro u hu; simp at hu; subst hu; exact hone
  · unfold maxLen; omega
  · omega
  · intro v' w' hown' hgrow _ hat
    obtain ⟨ao', cap', rfl⟩ := RowOf.shape hown'
    have hx1 : Ext w (w.alloc (.cells #[y] 22)) := (Ext.refl w).alloc _
    have hg2 : w.grownBy w' (Value.slice ao n cap).ownBlock := ⟨hgrow.os.trans hx1.os, hgrow.tape.trans hx1.tape, hgrow.output.trans hx1.output, Nat.le_trans hx1.size hgrow.size, fun k hk hne => (hgrow.block k (Nat.lt_of_lt_of_le hk hx1.size) hne).trans (hx1.block k hk)⟩
    refine h ao' cap' w' ⟨vs ++ [y], hown', ?_⟩ hg2 fun B0 w0 hb hB0 => (hb.alloc (by omega) _).grown hgrow (by simp; omega) (fun k hk => by have := (h1.block k hk).1; omega)
    have h3 : Rows2X w P (Value.slice ao n cap).ownBlock (vs ++ [y]) (xss ++ [xs]) := h2.snoc hy
    exact ⟨h3.1, fun j v hv => ((h3.2 j v hv).ext hx1).grown hgrow hat⟩

end Go.Proofs.YtnhdngnolepkcaaDoor

/- append at several slices of the call's own: where the new slice lies. No conditions. -/
namespace Go.Proofs.YtnhdngnolepkcaaDoor
open Go.RowKit

/-- One element is appended: also where the new slice lies. -/
theorem run_one {t e : TypeId} {z : Value} {bytes : Nat} (E : Elt t e z bytes) (ty : TypeId) {w : World} (B : Nat) {ao : Option Addr} {n cap : Nat} {xs : List Value} (hown : RowOf e w B ao n cap xs)
    (ad : Addr) (c : Nat) (y : Value) (hc : w.cell? ad = some y) (h1 : y.oneCell' = true) (hn : n ≤ 1099511627776) (hB : B ≤ w.heap.size) :
    ∃ ao' cap' w', (Builtin.append_ #[t, t] ty #[.slice ao n cap, .slice (some ad) 1 c]).run Tryd.prog w = .ok (.slice ao' (n + 1) cap') w' ∧ RowOf e w' B ao' (n + 1) cap' (xs ++ [y]) ∧ w.grownBy w' (Value.slice ao n cap).ownBlock ∧
      ((Value.slice ao' (n + 1) cap').ownBlock = (Value.slice ao n cap).ownBlock ∨ (Value.slice ao' (n + 1) cap').ownBlock = some w.heap.size) := by
  obtain ⟨i, hi, hz, hsz, hby⟩ := info_parts E.inf
  obtain ⟨v', w', hr, h2, h3, _, h5⟩ := run_append_own_at (P := Tryd.prog) w B t ty e i z 1 bytes E.und hi hz hsz hby E.cel (by decide) _ n xs hown ad 1 c [y] rfl (fun j u hu => by
      match j, hu with
      | 0, hu => simp at hu; subst hu; simpa [Addr.add] using hc) (fun u hu => by simp at hu; subst hu; exact h1) (by unfold maxLen; omega) (by have := Nat.mul_le_mul (show n + 1 ≤ 1099511627777 by omega) E.sm; omega) hB
  obtain ⟨ao', cap', rfl⟩ := RowOf.shape h2
  exact ⟨ao', cap', w', hr, h2, h3, h5⟩

theorem wpList_one {t e : TypeId} {z : Value} {bytes : Nat} (E : Elt t e z bytes) {w : World} {ops : Array Oper} {rest : List Oper} {o : Oper} {a : Act} {Q : Exit → Act → World → Prop}
    (hgd : o.guard = none) (s x : Operand) (ho : o.op = .call { callee := .builtin .append, args := #[s, x], argTypes := #[t, t] })
    (B : Nat) {ao : Option Addr} {n cap : Nat} {xs : List Value} (hs : a.eval s = .slice ao n cap) (hown : RowOf e w B ao n cap xs)
    (ad : Addr) (y : Value) (hx : a.eval x = .slice (some ad) 1 1) (hc : w.cell? ad = some y) (h1 : y.oneCell' = true) (hn : n ≤ 1099511627776) (hB : B ≤ w.heap.size)
    (h : ∀ ao' cap' w', RowOf e w' B ao' (n + 1) cap' (xs ++ [y]) → w.grownBy w' (Value.slice ao n cap).ownBlock →
      ((Value.slice ao' (n + 1) cap').ownBlock = (Value.slice ao n cap).ownBlock ∨ (Value.slice ao' (n + 1) cap').ownBlock = some w.heap.size) → wpList Tryd.prog ops Q rest (a.put o.dst (.slice ao' (n + 1) cap')) w') :
    wpList Tryd.prog ops Q (o :: rest) a w := by
  refine wpList_plain hgd fun K hK => ?_
  obtain ⟨ao', cap', w', hr, h2, h3, h5⟩ := run_one E o.type B hown ad 1 y hc h1 hn hB
  unfold Oper.wp execOp
  simp only [ho, resolve, invoke, builtin, Sem.run_bind, Sem.run_pure, Result.andThen_ok, List.map_toArray, List.map_cons, List.map_nil, hs, hx, hr]
  exact hK _ _ (h ao' cap' w' h2 h3 h5)

theorem step_one {t e : TypeId} {z : Value} {bytes : Nat} (E : Elt t e z bytes) {w : World} {ops : Array Oper} {o : Oper} {a : Act} {K : Act → World → Prop} {Q : Exit → Act → World → Prop} {El : Prop}
    (hgd : o.guard = none) (s x : Operand) (ho : o.op = .call { callee := .builtin .append, args := #[s, x], argTypes := #[t, t] })
    (B : Nat) {ao : Option Addr} {n cap : Nat} {xs : List Value} (hs : a.eval s = .slice ao n cap) (hown : RowOf e w B ao n cap xs)
    (ad : Addr) (y : Value) (hx : a.eval x = .slice (some ad) 1 1) (hc : w.cell? ad = some y) (h1 : y.oneCell' = true) (hn : n ≤ 1099511627776) (hB : B ≤ w.heap.size)
    (h : ∀ ao' cap' w', RowOf e w' B ao' (n + 1) cap' (xs ++ [y]) → w.grownBy w' (Value.slice ao n cap).ownBlock →
      ((Value.slice ao' (n + 1) cap').ownBlock = (Value.slice ao n cap).ownBlock ∨ (Value.slice ao' (n + 1) cap').ownBlock = some w.heap.size) → K (a.put o.dst (.slice ao' (n + 1) cap')) w') :
    if Region.wanted o (yielded ops a.tmps) = true then Oper.wp Tryd.prog o a w K Q else El := by
  have hw : Region.wanted o (yielded ops a.tmps) = true := by simp [Region.wanted, hgd]
  rw [if_pos hw]
  obtain ⟨ao', cap', w', hr, h2, h3, h5⟩ := run_one E o.type B hown ad 1 y hc h1 hn hB
  unfold Oper.wp execOp
  simp only [ho, resolve, invoke, builtin, Sem.run_bind, Sem.run_pure, Result.andThen_ok, List.map_toArray, List.map_cons, List.map_nil, hs, hx, hr]
  exact h ao' cap' w' h2 h3 h5

/-- A call of a Go function, as a step of a region that draws. -/
theorem step_callD {w : World} {ops : Array Oper} {o : Oper} {a : Act} {K : Act → World → Prop} {Q : Exit → Act → World → Prop} {El : Prop} {f : FuncId} {args : Array Value} {R : World → Prop} (v : Value)
    (hgd : o.guard = none) (hc : Calls Tryd.prog f args w fun e w' => e = .returned v ∧ R w') (hrun : (execOp a.eval o).run Tryd.prog w = .ok (.enter f args) w)
    (h : ∀ w', R w' → K (a.put o.dst v) w') :
    if Region.wanted o (yielded ops a.tmps) = true then Oper.wp Tryd.prog o a w K Q else El := by
  have hw : Region.wanted o (yielded ops a.tmps) = true := by simp [Region.wanted, hgd]
  rw [if_pos hw]
  unfold Oper.wp
  rw [hrun, Oper.upon_enter]
  refine hc.mono ?_
  rintro e w' ⟨rfl, hr⟩
  exact h w' hr

/-- .. of a function by its name. -/
theorem step_callS {w : World} {ops : Array Oper} {o : Oper} {a : Act} {K : Act → World → Prop} {Q : Exit → Act → World → Prop} {El : Prop} {f : FuncId} {xs : Array Operand} {ats : Array TypeId} {args : Array Value} {R : World → Prop} (v : Value)
    (hgd : o.guard = none) (ho : o.op = .call { callee := .value (.func f), args := xs, argTypes := ats }) (hen : ∀ (args : Array Value) (w : World), (callFunc f args).run Tryd.prog w = .ok (.enter f args) w)
    (ha : xs.map a.eval = args) (hc : Calls Tryd.prog f args w fun e w' => e = .returned v ∧ R w') (h : ∀ w', R w' → K (a.put o.dst v) w') :
    if Region.wanted o (yielded ops a.tmps) = true then Oper.wp Tryd.prog o a w K Q else El := by
  refine step_callD v hgd hc ?_ h
  obtain ⟨dst, op, ty, pos, after, guard⟩ := o
  simp only at ho
  subst ho
  show (callFunc f (#[] ++ xs.map a.eval ++ #[])).run Tryd.prog w = _
  rw [ha, hen]
  simp

/-- Two slices that lie in no one block. -/
def Apart (v u : Value) : Prop := ∀ b, v.ownBlock = some b → u.ownBlock ≠ some b
theorem Apart.symm {v u : Value} (h : Apart v u) : Apart u v := fun b hb hv => h b hv hb

theorem RowOf.grown {e : TypeId} {w w' : World} {B : Nat} {ao : Option Addr} {n cap : Nat} {xs : List Value} (h : RowOf e w B ao n cap xs) {v : Value} (hg : w.grownBy w' v.ownBlock) (ha : Apart v (.slice ao n cap)) : RowOf e w' B ao n cap xs :=
  h.kept fun k hk => hg.block k (h.block k hk).2 fun e => ha k e.symm hk
/-- The new slice lies apart from what lay apart from the old one. -/
theorem Apart.next {w : World} {v v' u : Value} (h : Apart v u) (hat : v'.ownBlock = v.ownBlock ∨ v'.ownBlock = some w.heap.size) (hu : ∀ b, u.ownBlock = some b → b < w.heap.size) : Apart v' u := fun b hb hub => by
  rcases hat with e | e
  · exact h b (e ▸ hb) hub
  · rw [e] at hb
    have := hu b hub
    simp at hb
    omega

/-- Rows whose blocks are none of the growing ones. -/
theorem InnerX.next {w w' : World} {P P' : Nat → Prop} {x : Option Nat} {v : Value} {xs : List Int} (h : InnerX w P x v xs) {g : Option Nat} (hg : w.grownBy w' g) (hP : ∀ b, P b → b < w.heap.size → some b ≠ g ∧ P' b) : InnerX w' P' x v xs := by
  obtain ⟨a, c, e, hl, h⟩ := h
  refine ⟨a, c, e, hl, ?_⟩
  rcases h with h | ⟨b, off, h1, h2, h3, hne, h4⟩
  · exact .inl h
  · obtain ⟨h5, h6⟩ := hP b h3 h2
    refine .inr ⟨b, off, h1, by have := hg.size; omega, h6, hne, fun j u hu => ?_⟩
    rw [World.cell?_of_block (w := w) (hg.block b h2 h5)]; exact h4 j u hu

end Go.Proofs.YtnhdngnolepkcaaDoor
