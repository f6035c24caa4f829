/- Rows and their numbers (the first element the highest digit). Plain, no program. -/
import Derived.Test.YthkafhmciapipaaDoorJibjalifbim
import Derived.Test.YthkafhmciapipaaDoorJgcdkbgjmfo
namespace Go.Proofs.YthkafhmciapipaaDoor

/-- An element of the row of a number. -/
def opn (q n c i : Nat) : Nat := c / q ^ (n - 1 - i) % q
/-- The number of a row's first elements. -/
def shutTo (q : Nat) (f : Nat → Nat) : Nat → Nat
  | 0 => 0
  | i + 1 => shutTo q f i * q + f i
def shutN (q n : Nat) (f : Nat → Nat) : Nat := shutTo q f n
theorem opn_lt {q n c i : Nat} (hq : 0 < q) : opn q n c i < q := Nat.mod_lt _ hq
theorem shutTo_lt {q : Nat} {f : Nat → Nat} (hq : 0 < q) : ∀ n, (∀ j, j < n → f j < q) → shutTo q f n < q ^ n
  | 0, _ => by rw [shutTo, Nat.pow_zero]; omega
  | n + 1, h => by
    have h1 := shutTo_lt hq n fun j hj => h j (by omega)
    have h2 := h n (by omega)
    rw [shutTo, Nat.pow_succ]
    have : (shutTo q f n + 1) * q ≤ q ^ n * q := Nat.mul_le_mul_right q h1
    rw [Nat.succ_mul] at this
    omega
theorem shutTo_congr {q : Nat} {f g : Nat → Nat} : ∀ n, (∀ j, j < n → f j = g j) → shutTo q f n = shutTo q g n
  | 0, _ => rfl
  | n + 1, h => by rw [shutTo, shutTo, shutTo_congr n (fun j hj => h j (by omega)), h n (by omega)]
theorem digit_shut {q : Nat} {f : Nat → Nat} (hq : 0 < q) : ∀ n, (∀ j, j < n → f j < q) → ∀ i, i < n → shutTo q f n / q ^ (n - 1 - i) % q = f i
  | 0, _, i, hi => by omega
  | n + 1, h, i, hi => by
    have h2 := h n (by omega)
    by_cases e : i = n
    · subst e
      rw [show i + 1 - 1 - i = 0 by omega, Nat.pow_zero, Nat.div_one, shutTo, Nat.add_comm, Nat.add_mul_mod_self_right, Nat.mod_eq_of_lt h2]
    · have ih := digit_shut hq n (fun j hj => h j (by omega)) i (by omega)
      rw [show n + 1 - 1 - i = (n - 1 - i) + 1 by omega, Nat.pow_succ, Nat.mul_comm (q ^ (n - 1 - i)) q, ← Nat.div_div_eq_div_mul]
      have : shutTo q f (n + 1) / q = shutTo q f n := by
        rw [shutTo, Nat.add_comm, Nat.add_mul_div_right _ _ hq, Nat.div_eq_of_lt h2, Nat.zero_add]
      rw [this, ih]
theorem opn_shut {q n : Nat} {f : Nat → Nat} (hq : 0 < q) (h : ∀ j, j < n → f j < q) {i : Nat} (hi : i < n) : opn q n (shutN q n f) i = f i := digit_shut hq n h i hi
theorem shut_part {q n c : Nat} (hq : 0 < q) : ∀ m, m ≤ n → shutTo q (opn q n c) m = c / q ^ (n - m) % q ^ m
  | 0, _ => by rw [shutTo, Nat.pow_zero, Nat.mod_one]
  | m + 1, hm => by
    rw [shutTo, shut_part hq m (by omega)]
    obtain ⟨d, hd⟩ : ∃ d, c / q ^ (n - (m + 1)) = d := ⟨_, rfl⟩
    have e1 : c / q ^ (n - m) = d / q := by
      rw [← hd, Nat.div_div_eq_div_mul, ← Nat.pow_succ, show (n - (m + 1)).succ = n - m by omega]
    have e2 : opn q n c m = d % q := by
      unfold opn
      rw [show n - 1 - m = n - (m + 1) by omega, hd]
    rw [e1, e2, hd, Nat.pow_succ, Nat.mul_comm (q ^ m) q, Nat.mod_mul, Nat.add_comm, Nat.mul_comm]
theorem shut_opn {q n c : Nat} (hq : 0 < q) (hc : c < q ^ n) : shutN q n (opn q n c) = c := by
  unfold shutN
  rw [shut_part hq n (Nat.le_refl n), Nat.sub_self, Nat.pow_zero, Nat.div_one, Nat.mod_eq_of_lt hc]
theorem shutN_lt {q n : Nat} {f : Nat → Nat} (hq : 0 < q) (h : ∀ j, j < n → f j < q) : shutN q n f < q ^ n := shutTo_lt hq n h
theorem shutN_congr {q n : Nat} {f g : Nat → Nat} (h : ∀ j, j < n → f j = g j) : shutN q n f = shutN q n g := shutTo_congr n h
theorem opn_inj {q n c d : Nat} (hq : 0 < q) (hc : c < q ^ n) (hd : d < q ^ n) (h : ∀ i, i < n → opn q n c i = opn q n d i) : c = d := by
  rw [← shut_opn hq hc, ← shut_opn hq hd, shutN_congr h]
theorem shut_zero {q : Nat} : ∀ n, shutTo q (fun _ => 0) n = 0
  | 0 => rfl
  | n + 1 => by rw [shutTo, shut_zero n]; simp
theorem opn_zero {q n i : Nat} : opn q n 0 i = 0 := by unfold opn; rw [Nat.zero_div, Nat.zero_mod]

end Go.Proofs.YthkafhmciapipaaDoor

/- append at several slices of the call's own: where the new slice lies. No conditions. -/
namespace Go.Proofs.YthkafhmciapipaaDoor
open Go.RowKit

/-- One element is appended: also where the new slice lies. -/
theorem run_one {t e : TypeId} {z : Value} {bytes : Nat} (E : Elt t e z bytes) (ty : TypeId) {w : World} (B : Nat) {ao : Option Addr} {n cap : Nat} {xs : List Value} (hown : RowOf e w B ao n cap xs)
    (ad : Addr) (c : Nat) (y : Value) (hc : w.cell? ad = some y) (h1 : y.oneCell' = true) (hn : n ≤ 1099511627776) (hB : B ≤ w.heap.size) :
    ∃ ao' cap' w', (Builtin.append_ #[t, t] ty #[.slice ao n cap, .slice (some ad) 1 c]).run Tryd.prog w = .ok (.slice ao' (n + 1) cap') w' ∧ RowOf e w' B ao' (n + 1) cap' (xs ++ [y]) ∧ w.grownBy w' (Value.slice ao n cap).ownBlock ∧
      ((Value.slice ao' (n + 1) cap').ownBlock = (Value.slice ao n cap).ownBlock ∨ (Value.slice ao' (n + 1) cap').ownBlock = some w.heap.size) := by
  obtain ⟨i, hi, hz, hsz, hby⟩ := info_parts E.inf
  obtain ⟨v', w', hr, h2, h3, _, h5⟩ := run_append_own_at (P := Tryd.prog) w B t ty e i z 1 bytes E.und hi hz hsz hby E.cel (by decide) _ n xs hown ad 1 c [y] rfl (fun j u hu => by
      match j, hu with
      | 0, hu => simp at hu; subst hu; simpa [Addr.add] using hc) (fun u hu => by simp at hu; subst hu; exact h1) (by unfold maxLen; omega) (by have := Nat.mul_le_mul (show n + 1 ≤ 1099511627777 by omega) E.sm; omega) hB
  obtain ⟨ao', cap', rfl⟩ := RowOf.shape h2
  exact ⟨ao', cap', w', hr, h2, h3, h5⟩

theorem wpList_one {t e : TypeId} {z : Value} {bytes : Nat} (E : Elt t e z bytes) {w : World} {ops : Array Oper} {rest : List Oper} {o : Oper} {a : Act} {Q : Exit → Act → World → Prop}
    (hgd : o.guard = none) (s x : Operand) (ho : o.op = .call { callee := .builtin .append, args := #[s, x], argTypes := #[t, t] })
    (B : Nat) {ao : Option Addr} {n cap : Nat} {xs : List Value} (hs : a.eval s = .slice ao n cap) (hown : RowOf e w B ao n cap xs)
    (ad : Addr) (y : Value) (hx : a.eval x = .slice (some ad) 1 1) (hc : w.cell? ad = some y) (h1 : y.oneCell' = true) (hn : n ≤ 1099511627776) (hB : B ≤ w.heap.size)
    (h : ∀ ao' cap' w', RowOf e w' B ao' (n + 1) cap' (xs ++ [y]) → w.grownBy w' (Value.slice ao n cap).ownBlock →
      ((Value.slice ao' (n + 1) cap').ownBlock = (Value.slice ao n cap).ownBlock ∨ (Value.slice ao' (n + 1) cap').ownBlock = some w.heap.size) → wpList Tryd.prog ops Q rest (a.put o.dst (.slice ao' (n + 1) cap')) w') :
    wpList Tryd.prog ops Q (o :: rest) a w := by
  refine wpList_plain hgd fun K hK => ?_
  obtain ⟨ao', cap', w', hr, h2, h3, h5⟩ := run_one E o.type B hown ad 1 y hc h1 hn hB
  unfold Oper.wp execOp
  simp only [ho, resolve, invoke, builtin, Sem.run_bind, Sem.run_pure, Result.andThen_ok, List.map_toArray, List.map_cons, List.map_nil, hs, hx, hr]
  exact hK _ _ (h ao' cap' w' h2 h3 h5)

theorem step_one {t e : TypeId} {z : Value} {bytes : Nat} (E : Elt t e z bytes) {w : World} {ops : Array Oper} {o : Oper} {a : Act} {K : Act → World → Prop} {Q : Exit → Act → World → Prop} {El : Prop}
    (hgd : o.guard = none) (s x : Operand) (ho : o.op = .call { callee := .builtin .append, args := #[s, x], argTypes := #[t, t] })
    (B : Nat) {ao : Option Addr} {n cap : Nat} {xs : List Value} (hs : a.eval s = .slice ao n cap) (hown : RowOf e w B ao n cap xs)
    (ad : Addr) (y : Value) (hx : a.eval x = .slice (some ad) 1 1) (hc : w.cell? ad = some y) (h1 : y.oneCell' = true) (hn : n ≤ 1099511627776) (hB : B ≤ w.heap.size)
    (h : ∀ ao' cap' w', RowOf e w' B ao' (n + 1) cap' (xs ++ [y]) → w.grownBy w' (Value.slice ao n cap).ownBlock →
      ((Value.slice ao' (n + 1) cap').ownBlock = (Value.slice ao n cap).ownBlock ∨ (Value.slice ao' (n + 1) cap').ownBlock = some w.heap.size) → K (a.put o.dst (.slice ao' (n + 1) cap')) w') :
    if Region.wanted o (yielded ops a.tmps) = true then Oper.wp Tryd.prog o a w K Q else El := by
  have hw : Region.wanted o (yielded ops a.tmps) = true := by simp [Region.wanted, hgd]
  rw [if_pos hw]
  obtain ⟨ao', cap', w', hr, h2, h3, h5⟩ := run_one E o.type B hown ad 1 y hc h1 hn hB
  unfold Oper.wp execOp
  simp only [ho, resolve, invoke, builtin, Sem.run_bind, Sem.run_pure, Result.andThen_ok, List.map_toArray, List.map_cons, List.map_nil, hs, hx, hr]
  exact h ao' cap' w' h2 h3 h5

/-- A call of a Go function, as a step of a region that draws. -/
theorem step_callD {w : World} {ops : Array Oper} {o : Oper} {a : Act} {K : Act → World → Prop} {Q : Exit → Act → World → Prop} {El : Prop} {f : FuncId} {args : Array Value} {R : World → Prop} (v : Value)
    (hgd : o.guard = none) (hc : Calls Tryd.prog f args w fun e w' => e = .returned v ∧ R w') (hrun : (execOp a.eval o).run Tryd.prog w = .ok (.enter f args) w)
    (h : ∀ w', R w' → K (a.put o.dst v) w') :
    if Region.wanted o (yielded ops a.tmps) = true then Oper.wp Tryd.prog o a w K Q else El := by
  have hw : Region.wanted o (yielded ops a.tmps) = true := by simp [Region.wanted, hgd]
  rw [if_pos hw]
  unfold Oper.wp
  rw [hrun, Oper.upon_enter]
  refine hc.mono ?_
  rintro e w' ⟨rfl, hr⟩
  exact h w' hr

/-- .. of a function by its name. -/
theorem step_callS {w : World} {ops : Array Oper} {o : Oper} {a : Act} {K : Act → World → Prop} {Q : Exit → Act → World → Prop} {El : Prop} {f : FuncId} {xs : Array Operand} {ats : Array TypeId} {args : Array Value} {R : World → Prop} (v : Value)
    (hgd : o.guard = none) (ho : o.op = .call { callee := .value (.func f), args := xs, argTypes := ats }) (hen : ∀ (args : Array Value) (w : World), (callFunc f args).run Tryd.prog w = .ok (.enter f args) w)
    (ha : xs.map a.eval = args) (hc : Calls Tryd.prog f args w fun e w' => e = .returned v ∧ R w') (h : ∀ w', R w' → K (a.put o.dst v) w') :
    if Region.wanted o (yielded ops a.tmps) = true then Oper.wp Tryd.prog o a w K Q else El := by
  refine step_callD v hgd hc ?_ h
  obtain ⟨dst, op, ty, pos, after, guard⟩ := o
  simp only at ho
  subst ho
  show (callFunc f (#[] ++ xs.map a.eval ++ #[])).run Tryd.prog w = _
  rw [ha, hen]
  simp

/-- Two slices that lie in no one block. -/
def Apart (v u : Value) : Prop := ∀ b, v.ownBlock = some b → u.ownBlock ≠ some b
theorem Apart.symm {v u : Value} (h : Apart v u) : Apart u v := fun b hb hv => h b hv hb

theorem RowOf.grown {e : TypeId} {w w' : World} {B : Nat} {ao : Option Addr} {n cap : Nat} {xs : List Value} (h : RowOf e w B ao n cap xs) {v : Value} (hg : w.grownBy w' v.ownBlock) (ha : Apart v (.slice ao n cap)) : RowOf e w' B ao n cap xs :=
  h.kept fun k hk => hg.block k (h.block k hk).2 fun e => ha k e.symm hk
/-- The new slice lies apart from what lay apart from the old one. -/
theorem Apart.next {w : World} {v v' u : Value} (h : Apart v u) (hat : v'.ownBlock = v.ownBlock ∨ v'.ownBlock = some w.heap.size) (hu : ∀ b, u.ownBlock = some b → b < w.heap.size) : Apart v' u := fun b hb hub => by
  rcases hat with e | e
  · exact h b (e ▸ hb) hub
  · rw [e] at hb
    have := hu b hub
    simp at hb
    omega

/-- Rows whose blocks are none of the growing ones. -/
theorem InnerX.next {w w' : World} {P P' : Nat → Prop} {x : Option Nat} {v : Value} {xs : List Int} (h : InnerX w P x v xs) {g : Option Nat} (hg : w.grownBy w' g) (hP : ∀ b, P b → b < w.heap.size → some b ≠ g ∧ P' b) : InnerX w' P' x v xs := by
  obtain ⟨a, c, e, hl, h⟩ := h
  refine ⟨a, c, e, hl, ?_⟩
  rcases h with h | ⟨b, off, h1, h2, h3, hne, h4⟩
  · exact .inl h
  · obtain ⟨h5, h6⟩ := hP b h3 h2
    refine .inr ⟨b, off, h1, by have := hg.size; omega, h6, hne, fun j u hu => ?_⟩
    rw [World.cell?_of_block (w := w) (hg.block b h2 h5)]; exact h4 j u hu

end Go.Proofs.YthkafhmciapipaaDoor
