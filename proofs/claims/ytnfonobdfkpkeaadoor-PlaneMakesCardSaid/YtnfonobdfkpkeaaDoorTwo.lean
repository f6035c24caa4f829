/- append at several slices of the call's own: where the new slice lies. No conditions. -/
import Derived.Test.YtnfonobdfkpkeaaDoorTbl
namespace Go.Proofs.YtnfonobdfkpkeaaDoor
open Go.RowKit

/-- One element is appended: also where the new slice lies. -/
theorem run_one {t e : TypeId} {z : Value} {bytes : Nat} (E : Elt t e z bytes) (ty : TypeId) {w : World} (B : Nat) {ao : Option Addr} {n cap : Nat} {xs : List Value} (hown : RowOf e w B ao n cap xs)
    (ad : Addr) (c : Nat) (y : Value) (hc : w.cell? ad = some y) (h1 : y.oneCell' = true) (hn : n ≤ 1099511627776) (hB : B ≤ w.heap.size) :
    ∃ ao' cap' w', (Builtin.append_ #[t, t] ty #[.slice ao n cap, .slice (some ad) 1 c]).run Tryd.prog w = .ok (.slice ao' (n + 1) cap') w' ∧ RowOf e w' B ao' (n + 1) cap' (xs ++ [y]) ∧ w.grownBy w' (Value.slice ao n cap).ownBlock ∧
      ((Value.slice ao' (n + 1) cap').ownBlock = (Value.slice ao n cap).ownBlock ∨ (Value.slice ao' (n + 1) cap').ownBlock = some w.heap.size) := by
  obtain ⟨i, hi, hz, hsz, hby⟩ := info_parts E.inf
  obtain ⟨v', w', hr, h2, h3, _, h5⟩ := run_append_own_at (P := Tryd.prog) w B t ty e i z 1 bytes E.und hi hz hsz hby E.cel (by decide) _ n xs hown ad 1 c [y] rfl (fun j u hu => by
      match j, hu with
      | 0, hu => simp at hu; subst hu; simpa [Addr.add] using hc) (fun u hu => by simp at hu; subst hu; exact h1) (by unfold maxLen; omega) (by have := Nat.mul_le_mul (show n + 1 ≤ 1099511627777 by omega) E.sm; omega) hB
  obtain ⟨ao', cap', rfl⟩ := RowOf.shape h2
  exact ⟨ao', cap', w', hr, h2, h3, h5⟩

theorem wpList_one {t e : TypeId} {z : Value} {bytes : Nat} (E : Elt t e z bytes) {w : World} {ops : Array Oper} {rest : List Oper} {o : Oper} {a : Act} {Q : Exit → Act → World → Prop}
    (hgd : o.guard = none) (s x : Operand) (ho : o.op = .call { callee := .builtin .append, args := #[s, x], argTypes := #[t, t] })
    (B : Nat) {ao : Option Addr} {n cap : Nat} {xs : List Value} (hs : a.eval s = .slice ao n cap) (hown : RowOf e w B ao n cap xs)
    (ad : Addr) (y : Value) (hx : a.eval x = .slice (some ad) 1 1) (hc : w.cell? ad = some y) (h1 : y.oneCell' = true) (hn : n ≤ 1099511627776) (hB : B ≤ w.heap.size)
    (h : ∀ ao' cap' w', RowOf e w' B ao' (n + 1) cap' (xs ++ [y]) → w.grownBy w' (Value.slice ao n cap).ownBlock →
      ((Value.slice ao' (n + 1) cap').ownBlock = (Value.slice ao n cap).ownBlock ∨ (Value.slice ao' (n + 1) cap').ownBlock = some w.heap.size) → wpList Tryd.prog ops Q rest (a.put o.dst (.slice ao' (n + 1) cap')) w') :
    wpList Tryd.prog ops Q (o :: rest) a w := by
  refine wpList_plain hgd fun K hK => ?_
  obtain ⟨ao', cap', w', hr, h2, h3, h5⟩ := run_one E o.type B hown ad 1 y hc h1 hn hB
  unfold Oper.wp execOp
  simp only [ho, resolve, invoke, builtin, Sem.run_bind, Sem.run_pure, Result.andThen_ok, List.map_toArray, List.map_cons, List.map_nil, hs, hx, hr]
  exact hK _ _ (h ao' cap' w' h2 h3 h5)

theorem step_one {t e : TypeId} {z : Value} {bytes : Nat} (E : Elt t e z bytes) {w : World} {ops : Array Oper} {o : Oper} {a : Act} {K : Act → World → Prop} {Q : Exit → Act → World → Prop} {El : Prop}
    (hgd : o.guard = none) (s x : Operand) (ho : o.op = .call { callee := .builtin .append, args := #[s, x], argTypes := #[t, t] })
    (B : Nat) {ao : Option Addr} {n cap : Nat} {xs : List Value} (hs : a.eval s = .slice ao n cap) (hown : RowOf e w B ao n cap xs)
    (ad : Addr) (y : Value) (hx : a.eval x = .slice (some ad) 1 1) (hc : w.cell? ad = some y) (h1 : y.oneCell' = true) (hn : n ≤ 1099511627776) (hB : B ≤ w.heap.size)
    (h : ∀ ao' cap' w', RowOf e w' B ao' (n + 1) cap' (xs ++ [y]) → w.grownBy w' (Value.slice ao n cap).ownBlock →
      ((Value.slice ao' (n + 1) cap').ownBlock = (Value.slice ao n cap).ownBlock ∨ (Value.slice ao' (n + 1) cap').ownBlock = some w.heap.size) → K (a.put o.dst (.slice ao' (n + 1) cap')) w') :
    if Region.wanted o (yielded ops a.tmps) = true then Oper.wp Tryd.prog o a w K Q else El := by
  have hw : Region.wanted o (yielded ops a.tmps) = true := by simp [Region.wanted, hgd]
  rw [if_pos hw]
  obtain ⟨ao', cap', w', hr, h2, h3, h5⟩ := run_one E o.type B hown ad 1 y hc h1 hn hB
  unfold Oper.wp execOp
  simp only [ho, resolve, invoke, builtin, Sem.run_bind, Sem.run_pure, Result.andThen_ok, List.map_toArray, List.map_cons, List.map_nil, hs, hx, hr]
  exact h ao' cap' w' h2 h3 h5

/-- A call of a Go function, as a step of a region that draws. -/
theorem step_callD {w : World} {ops : Array Oper} {o : Oper} {a : Act} {K : Act → World → Prop} {Q : Exit → Act → World → Prop} {El : Prop} {f : FuncId} {args : Array Value} {R : World → Prop} (v : Value)
    (hgd : o.guard = none) (hc : Calls Tryd.prog f args w fun e w' => e = .returned v ∧ R w') (hrun : (execOp a.eval o).run Tryd.prog w = .ok (.enter f args) w)
    (h : ∀ w', R w' → K (a.put o.dst v) w') :
    if Region.wanted o (yielded ops a.tmps) = true then Oper.wp Tryd.prog o a w K Q else El := by
  have hw : Region.wanted o (yielded ops a.tmps) = true := by simp [Region.wanted, hgd]
  rw [if_pos hw]
  unfold Oper.wp
  rw [hrun, Oper.upon_enter]
  refine hc.mono ?_
  rintro e w' ⟨rfl, hr⟩
  exact h w' hr

/-- .. of a function by its name. -/
theorem step_callS {w : World} {ops : Array Oper} {o : Oper} {a : Act} {K : Act → World → Prop} {Q : Exit → Act → World → Prop} {El : Prop} {f : FuncId} {xs : Array Operand} {ats : Array TypeId} {args : Array Value} {R : World → Prop} (v : Value)
    (hgd : o.guard = none) (ho : o.op = .call { callee := .value (.func f), args := xs, argTypes := ats }) (hen : ∀ (args : Array Value) (w : World), (callFunc f args).run Tryd.prog w = .ok (.enter f args) w)
    (ha : xs.map a.eval = args) (hc : Calls Tryd.prog f args w fun e w' => e = .returned v ∧ R w') (h : ∀ w', R w' → K (a.put o.dst v) w') :
    if Region.wanted o (yielded ops a.tmps) = true then Oper.wp Tryd.prog o a w K Q else El := by
  refine step_callD v hgd hc ?_ h
  obtain ⟨dst, op, ty, pos, after, guard⟩ := o
  simp only at ho
  subst ho
  show (callFunc f (#[] ++ xs.map a.eval ++ #[])).run Tryd.prog w = _
  rw [ha, hen]
  simp

/-- Two slices that lie in no one block. -/
def Apart (v u : Value) : Prop := ∀ b, v.ownBlock = some b → u.ownBlock ≠ some b
theorem Apart.symm {v u : Value} (h : Apart v u) : Apart u v := fun b hb hv => h b hv hb

theorem RowOf.grown {e : TypeId} {w w' : World} {B : Nat} {ao : Option Addr} {n cap : Nat} {xs : List Value} (h : RowOf e w B ao n cap xs) {v : Value} (hg : w.grownBy w' v.ownBlock) (ha : Apart v (.slice ao n cap)) : RowOf e w' B ao n cap xs :=
  h.kept fun k hk => hg.block k (h.block k hk).2 fun e => ha k e.symm hk
/-- The new slice lies apart from what lay apart from the old one. -/
theorem Apart.next {w : World} {v v' u : Value} (h : Apart v u) (hat : v'.ownBlock = v.ownBlock ∨ v'.ownBlock = some w.heap.size) (hu : ∀ b, u.ownBlock = some b → b < w.heap.size) : Apart v' u := fun b hb hub => by
  rcases hat with e | e
  · exact h b (e ▸ hb) hub
  · rw [e] at hb
    have := hu b hub
    simp at hb
    omega

/-- Rows whose blocks are none of the growing ones. -/
theorem InnerX.next {w w' : World} {P P' : Nat → Prop} {x : Option Nat} {v : Value} {xs : List Int} (h : InnerX w P x v xs) {g : Option Nat} (hg : w.grownBy w' g) (hP : ∀ b, P b → b < w.heap.size → some b ≠ g ∧ P' b) : InnerX w' P' x v xs := by
  obtain ⟨a, c, e, hl, h⟩ := h
  refine ⟨a, c, e, hl, ?_⟩
  rcases h with h | ⟨b, off, h1, h2, h3, hne, h4⟩
  · exact .inl h
  · obtain ⟨h5, h6⟩ := hP b h3 h2
    refine .inr ⟨b, off, h1, by have := hg.size; omega, h6, hne, fun j u hu => ?_⟩
    rw [World.cell?_of_block (w := w) (hg.block b h2 h5)]; exact h4 j u hu

end Go.Proofs.YtnfonobdfkpkeaaDoor
