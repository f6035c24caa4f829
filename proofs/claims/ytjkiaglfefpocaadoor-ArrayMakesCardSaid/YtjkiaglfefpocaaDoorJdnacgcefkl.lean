/- append at several slices of the call's own: where the new slice lies. No conditions. -/
import Derived.Test.YtjkiaglfefpocaaDoorJalhlnaekkh
import Derived.Test.YtjkiaglfefpocaaDoorJkajnadamdh
namespace Go.Proofs.YtjkiaglfefpocaaDoor
open Go.RowKit

/-- One element is appended: also where the new slice lies. -/
theorem run_one {t e : TypeId} {z : Value} {bytes : Nat} (E : Elt t e z bytes) (ty : TypeId) {w : World} (B : Nat) {ao : Option Addr} {n cap : Nat} {xs : List Value} (hown : RowOf e w B ao n cap xs)
    (ad : Addr) (c : Nat) (y : Value) (hc : w.cell? ad = some y) (h1 : y.oneCell' = true) (hn : n ≤ 1099511627776) (hB : B ≤ w.heap.size) :
    ∃ ao' cap' w', (Builtin.append_ #[t, t] ty #[.slice ao n cap, .slice (some ad) 1 c]).run Tryd.prog w = .ok (.slice ao' (n + 1) cap') w' ∧ RowOf e w' B ao' (n + 1) cap' (xs ++ [y]) ∧ w.grownBy w' (Value.slice ao n cap).ownBlock ∧
      ((Value.slice ao' (n + 1) cap').ownBlock = (Value.slice ao n cap).ownBlock ∨ (Value.slice ao' (n + 1) cap').ownBlock = some w.heap.size) := by
  obtain ⟨i, hi, hz, hsz, hby⟩ := info_parts E.inf
  obtain ⟨v', w', hr, h2, h3, _, h5⟩ := run_append_own_at (P := Tryd.prog) w B t ty e i z 1 bytes E.und hi hz hsz hby E.cel (by decide) _ n xs hown ad 1 c [y] rfl (fun j u hu => by
      match j, hu with
      | 0, hu => simp at hu; subst hu; simpa [Addr.add] using hc) (fun u hu => by simp at hu; subst hu; exact h1) (by unfold maxLen; omega) (by have := Nat.mul_le_mul (show n + 1 ≤ 1099511627777 by omega) E.sm; omega) hB
  obtain ⟨ao', cap', rfl⟩ := RowOf.shape h2
  exact ⟨ao', cap', w', hr, h2, h3, h5⟩

theorem wpList_one {t e : TypeId} {z : Value} {bytes : Nat} (E : Elt t e z bytes) {w : World} {ops : Array Oper} {rest : List Oper} {o : Oper} {a : Act} {Q : Exit → Act → World → Prop}
    (hgd : o.guard = none) (s x : Operand) (ho : o.op = .call { callee := .builtin .append, args := #[s, x], argTypes := #[t, t] })
    (B : Nat) {ao : Option Addr} {n cap : Nat} {xs : List Value} (hs : a.eval s = .slice ao n cap) (hown : RowOf e w B ao n cap xs)
    (ad : Addr) (y : Value) (hx : a.eval x = .slice (some ad) 1 1) (hc : w.cell? ad = some y) (h1 : y.oneCell' = true) (hn : n ≤ 1099511627776) (hB : B ≤ w.heap.size)
    (h : ∀ ao' cap' w', RowOf e w' B ao' (n + 1) cap' (xs ++ [y]) → w.grownBy w' (Value.slice ao n cap).ownBlock →
      ((Value.slice ao' (n + 1) cap').ownBlock = (Value.slice ao n cap).ownBlock ∨ (Value.slice ao' (n + 1) cap').ownBlock = some w.heap.size) → wpList Tryd.prog ops Q rest (a.put o.dst (.slice ao' (n + 1) cap')) w') :
    wpList Tryd.prog ops Q (o :: rest) a w := by
  refine wpList_plain hgd fun K hK => ?_
  obtain ⟨ao', cap', w', hr, h2, h3, h5⟩ := run_one E o.type B hown ad 1 y hc h1 hn hB
  unfold Oper.wp execOp
  simp only [ho, resolve, invoke, builtin, Sem.run_bind, Sem.run_pure, Result.andThen_ok, List.map_toArray, List.map_cons, List.map_nil, hs, hx, hr]
  exact hK _ _ (h ao' cap' w' h2 h3 h5)

theorem step_one {t e : TypeId} {z : Value} {bytes : Nat} (E : Elt t e z bytes) {w : World} {ops : Array Oper} {o : Oper} {a : Act} {K : Act → World → Prop} {Q : Exit → Act → World → Prop} {El : Prop}
    (hgd : o.guard = none) (s x : Operand) (ho : o.op = .call { callee := .builtin .append, args := #[s, x], argTypes := #[t, t] })
    (B : Nat) {ao : Option Addr} {n cap : Nat} {xs : List Value} (hs : a.eval s = .slice ao n cap) (hown : RowOf e w B ao n cap xs)
    (ad : Addr) (y : Value) (hx : a.eval x = .slice (some ad) 1 1) (hc : w.cell? ad = some y) (h1 : y.oneCell' = true) (hn : n ≤ 1099511627776) (hB : B ≤ w.heap.size)
    (h : ∀ ao' cap' w', RowOf e w' B ao' (n + 1) cap' (xs ++ [y]) → w.grownBy w' (Value.slice ao n cap).ownBlock →
      ((Value.slice ao' (n + 1) cap').ownBlock = (Value.slice ao n cap).ownBlock ∨ (Value.slice ao' (n + 1) cap').ownBlock = some w.heap.size) → K (a.put o.dst (.slice ao' (n + 1) cap')) w') :
    if Region.wanted o (yielded ops a.tmps) = true then Oper.wp Tryd.prog o a w K Q else El := by
  have hw : Region.wanted o (yielded ops a.tmps) = true := by simp [Region.wanted, hgd]
  rw [if_pos hw]
  obtain ⟨ao', cap', w', hr, h2, h3, h5⟩ := run_one E o.type B hown ad 1 y hc h1 hn hB
  unfold Oper.wp execOp
  simp only [ho, resolve, invoke, builtin, Sem.run_bind, Sem.run_pure, Result.andThen_ok, List.map_toArray, List.map_cons, List.map_nil, hs, hx, hr]
  exact h ao' cap' w' h2 h3 h5

/-- A call of a Go function, as a step of a region that draws. -/
theorem step_callD {w : World} {ops : Array Oper} {o : Oper} {a : Act} {K : Act → World → Prop} {Q : Exit → Act → World → Prop} {El : Prop} {f : FuncId} {args : Array Value} {R : World → Prop} (v : Value)
    (hgd : o.guard = none) (hc : Calls Tryd.prog f args w fun e w' => e = .returned v ∧ R w') (hrun : (execOp a.eval o).run Tryd.prog w = .ok (.enter f args) w)
    (h : ∀ w', R w' → K (a.put o.dst v) w') :
    if Region.wanted o (yielded ops a.tmps) = true then Oper.wp Tryd.prog o a w K Q else El := by
  have hw : Region.wanted o (yielded ops a.tmps) = true := by simp [Region.wanted, hgd]
  rw [if_pos hw]
  unfold Oper.wp
  rw [hrun, Oper.upon_enter]
  refine hc.mono ?_
  rintro e w' ⟨rfl, hr⟩
  exact h w' hr

/-- .. of a function by its name. -/
theorem step_callS {w : World} {ops : Array Oper} {o : Oper} {a : Act} {K : Act → World → Prop} {Q : Exit → Act → World → Prop} {El : Prop} {f : FuncId} {xs : Array Operand} {ats : Array TypeId} {args : Array Value} {R : World → Prop} (v : Value)
    (hgd : o.guard = none) (ho : o.op = .call { callee := .value (.func f), args := xs, argTypes := ats }) (hen : ∀ (args : Array Value) (w : World), (callFunc f args).run Tryd.prog w = .ok (.enter f args) w)
    (ha : xs.map a.eval = args) (hc : Calls Tryd.prog f args w fun e w' => e = .returned v ∧ R w') (h : ∀ w', R w' → K (a.put o.dst v) w') :
    if Region.wanted o (yielded ops a.tmps) = true then Oper.wp Tryd.prog o a w K Q else El := by
  refine step_callD v hgd hc ?_ h
  obtain ⟨dst, op, ty, pos, after, guard⟩ := o
  simp only at ho
  subst ho
  show (callFunc f (#[] ++ xs.map a.eval ++ #[])).run Tryd.prog w = _
  rw [ha, hen]
  simp

/-- Two slices that lie in no one block. -/
def Apart (v u : Value) : Prop := ∀ b, v.ownBlock = some b → u.ownBlock ≠ some b
theorem Apart.symm {v u : Value} (h : Apart v u) : Apart u v := fun b hb hv => h b hv hb

theorem RowOf.grown {e : TypeId} {w w' : World} {B : Nat} {ao : Option Addr} {n cap : Nat} {xs : List Value} (h : RowOf e w B ao n cap xs) {v : Value} (hg : w.grownBy w' v.ownBlock) (ha : Apart v (.slice ao n cap)) : RowOf e w' B ao n cap xs :=
  h.kept fun k hk => hg.block k (h.block k hk).2 fun e => ha k e.symm hk
/-- The new slice lies apart from what lay apart from the old one. -/
theorem Apart.next {w : World} {v v' u : Value} (h : Apart v u) (hat : v'.ownBlock = v.ownBlock ∨ v'.ownBlock = some w.heap.size) (hu : ∀ b, u.ownBlock = some b → b < w.heap.size) : Apart v' u := fun b hb hub => by
  rcases hat with e | e
  · exact h b (e ▸ hb) hub
  · rw [e] at hb
    have := hu b hub
    simp at hb
    omega

/-- Rows whose blocks are none of the growing ones. -/
theorem InnerX.next {w w' : World} {P P' : Nat → Prop} {x : Option Nat} {v : Value} {xs : List Int} (h : InnerX w P x v xs) {g : Option Nat} (hg : w.grownBy w' g) (hP : ∀ b, P b → b < w.heap.size → some b ≠ g ∧ P' b) : InnerX w' P' x v xs := by
  obtain ⟨a, c, e, hl, h⟩ := h
  refine ⟨a, c, e, hl, ?_⟩
  rcases h with h | ⟨b, off, h1, h2, h3, hne, h4⟩
  · exact .inl h
  · obtain ⟨h5, h6⟩ := hP b h3 h2
    refine .inr ⟨b, off, h1, by have := hg.size; omega, h6, hne, fun j u hu => ?_⟩
    rw [World.cell?_of_block (w := w) (hg.block b h2 h5)]; exact h4 j u hu

end Go.Proofs.YtjkiaglfefpocaaDoor

/- Lists that a function tells, and what a store makes of them. No conditions. -/
namespace Go.Proofs.YtjkiaglfefpocaaDoor
open Go.RowKit

theorem tab_congr (f g : Nat → Int) : ∀ N, (∀ q, q < N → f q = g q) → tab f N = tab g N
  | 0, _ => rfl
  | N + 1, h => by rw [tab, tab, tab_congr f g N (fun q hq => h q (by omega)), h N (by omega)]
theorem tab_of (xs : List Int) : tab (nth xs) xs.length = xs :=
  nth_ext _ _ (tab_length _ _) fun j hj => nth_tab _ _ _ (by rwa [tab_length] at hj)
theorem tab_set (f g : Nat → Int) (N p : Nat) (v : Int) (hp : p < N) (h : ∀ q, q < N → g q = if q = p then v else f q) : (ints (tab f N)).set p (.int .i64 v) = ints (tab g N) := by
  rw [ints_set]
  congr 1
  apply nth_ext
  · rw [List.length_set, tab_length, tab_length]
  · intro j hj
    rw [List.length_set, tab_length] at hj
    rw [nth_tab g N j hj, h j hj]
    by_cases e : j = p
    · subst e; simp [nth, tab_length, hj]
    · rw [if_neg e]
      have := nth_tab f N j hj
      simp only [nth, List.getD_eq_getElem?_getD] at this ⊢
      rw [List.getElem?_set_ne (Ne.symm e), this]

theorem tab_zero : ∀ n, List.replicate n (0 : Int) = tab (fun _ => 0) n
  | 0 => rfl
  | n + 1 => by rw [tab, ← tab_zero n, List.replicate_succ']
/-- A function with one value anew. -/
def upd (f : Nat → Int) (p : Nat) (v : Int) (q : Nat) : Int := if q = p then v else f q
theorem tab_upd (f : Nat → Int) (N p : Nat) (v : Int) (hp : p < N) : (ints (tab f N)).set p (.int .i64 v) = ints (tab (upd f p v) N) := tab_set f (upd f p v) N p v hp fun _ _ => rfl

theorem div_at {n i j : Nat} (hj : j < n) : (i * n + j) / n = i := by rw [Nat.mul_comm, Nat.mul_add_div (by omega), Nat.div_eq_of_lt hj, Nat.add_zero]
theorem mod_at {n i j : Nat} (hj : j < n) : (i * n + j) % n = j := by rw [Nat.mul_comm, Nat.mul_add_mod, Nat.mod_eq_of_lt hj]

end Go.Proofs.YtjkiaglfefpocaaDoor

/- Sums and congruences of integers; plain. -/
namespace Go.Proofs.YtjkiaglfefpocaaDoor

/-- A sum. -/
def sm (f : Nat → Int) : Nat → Int
  | 0 => 0
  | n + 1 => sm f n + f n
theorem sm_congr {f g : Nat → Int} : ∀ n, (∀ i, i < n → f i = g i) → sm f n = sm g n
  | 0, _ => rfl
  | n + 1, h => by rw [sm, sm, sm_congr n (fun i hi => h i (by omega)), h n (by omega)]
theorem sm_add (f g : Nat → Int) : ∀ n, sm (fun i => f i + g i) n = sm f n + sm g n
  | 0 => rfl
  | n + 1 => by rw [sm, sm, sm, sm_add f g n]; omega
theorem sm_sub (f g : Nat → Int) : ∀ n, sm (fun i => f i - g i) n = sm f n - sm g n
  | 0 => rfl
  | n + 1 => by rw [sm, sm, sm, sm_sub f g n]; omega
theorem sm_mul (c : Int) (f : Nat → Int) : ∀ n, sm (fun i => c * f i) n = c * sm f n
  | 0 => by simp [sm]
  | n + 1 => by rw [sm, sm, sm_mul c f n, Int.mul_add]
theorem sm_mulr (f : Nat → Int) (c : Int) (n : Nat) : sm (fun i => f i * c) n = sm f n * c := by
  rw [Int.mul_comm, ← sm_mul]; exact sm_congr n fun i _ => Int.mul_comm _ _
theorem sm_zero : ∀ n, sm (fun _ => 0) n = 0
  | 0 => rfl
  | n + 1 => by rw [sm, sm_zero n]; rfl
theorem sm_nil {f : Nat → Int} (n : Nat) (h : ∀ i, i < n → f i = 0) : sm f n = 0 := by rw [sm_congr n h, sm_zero]
theorem sm_swap (f : Nat → Nat → Int) (m : Nat) : ∀ n, sm (fun i => sm (fun j => f i j) m) n = sm (fun j => sm (fun i => f i j) n) m
  | 0 => by simp only [sm]; rw [sm_zero]
  | n + 1 => by
    rw [sm, sm_swap f m n, ← sm_add]; rfl
theorem sm_one {f : Nat → Int} {k : Nat} : ∀ n, k < n → (∀ i, i < n → i ≠ k → f i = 0) → sm f n = f k
  | 0, h, _ => by omega
  | n + 1, hk, h => by
    rw [sm]
    by_cases e : k = n
    · subst e; rw [sm_nil k (fun i hi => h i (by omega) (by omega))]; omega
    · rw [sm_one n (by omega) (fun i hi => h i (by omega)), h n (by omega) (Ne.symm e)]; omega
theorem sm_front (f : Nat → Int) : ∀ n, sm f (n + 1) = f 0 + sm (fun i => f (i + 1)) n
  | 0 => by simp [sm]
  | n + 1 => by rw [sm, sm_front f n, sm]; omega
theorem sm_neg (f : Nat → Int) : ∀ n, sm (fun i => -(f i)) n = -(sm f n)
  | 0 => rfl
  | n + 1 => by rw [sm, sm, sm_neg f n]; omega
theorem sm_nonneg {f : Nat → Int} : ∀ n, (∀ i, i < n → 0 ≤ f i) → 0 ≤ sm f n
  | 0, _ => by simp [sm]
  | n + 1, h => by rw [sm]; have := sm_nonneg n (fun i hi => h i (by omega)); have := h n (by omega); omega

/-- Alike modulo p. -/
def Cg (p a b : Int) : Prop := ∃ t, a = b + p * t
theorem Cg.refl (p a : Int) : Cg p a a := ⟨0, by simp⟩
theorem Cg.of_eq {p a b : Int} (h : a = b) : Cg p a b := h ▸ Cg.refl p a
theorem Cg.symm {p a b : Int} (h : Cg p a b) : Cg p b a := by obtain ⟨t, rfl⟩ := h; exact ⟨-t, by rw [Int.mul_neg]; omega⟩
theorem Cg.trans {p a b c : Int} (h : Cg p a b) (k : Cg p b c) : Cg p a c := by obtain ⟨t, rfl⟩ := h; obtain ⟨u, rfl⟩ := k; exact ⟨u + t, by rw [Int.mul_add]; omega⟩
theorem Cg.add {p a b c d : Int} (h : Cg p a b) (k : Cg p c d) : Cg p (a + c) (b + d) := by obtain ⟨t, rfl⟩ := h; obtain ⟨u, rfl⟩ := k; exact ⟨t + u, by rw [Int.mul_add]; omega⟩
theorem Cg.neg {p a b : Int} (h : Cg p a b) : Cg p (-a) (-b) := by obtain ⟨t, rfl⟩ := h; exact ⟨-t, by rw [Int.mul_neg]; omega⟩
theorem Cg.sub {p a b c d : Int} (h : Cg p a b) (k : Cg p c d) : Cg p (a - c) (b - d) := by rw [Int.sub_eq_add_neg, Int.sub_eq_add_neg]; exact h.add k.neg
theorem Cg.mul_left {p a b : Int} (c : Int) (h : Cg p a b) : Cg p (c * a) (c * b) := by obtain ⟨t, rfl⟩ := h; exact ⟨c * t, by rw [Int.mul_add, Int.mul_left_comm]⟩
theorem Cg.mul_right {p a b : Int} (c : Int) (h : Cg p a b) : Cg p (a * c) (b * c) := by rw [Int.mul_comm a, Int.mul_comm b]; exact h.mul_left c
theorem Cg.mul {p a b c d : Int} (h : Cg p a b) (k : Cg p c d) : Cg p (a * c) (b * d) := (h.mul_right c).trans (k.mul_left b)
theorem Cg.mod (p a : Int) : Cg p (a % p) a := ⟨-(a / p), by have := Int.emod_add_mul_ediv a p; rw [Int.mul_neg]; omega⟩
theorem Cg.sm {p : Int} {f g : Nat → Int} : ∀ n, (∀ i, i < n → Cg p (f i) (g i)) → Cg p (sm f n) (sm g n)
  | 0, _ => Cg.refl _ _
  | n + 1, h => (Cg.sm n (fun i hi => h i (by omega))).add (h n (by omega))
theorem Cg.emod {p a b : Int} (h : Cg p a b) : a % p = b % p := by
  obtain ⟨t, rfl⟩ := h
  rw [Int.add_mul_emod_self_left]
theorem Cg.eq {p a b : Int} (h : Cg p a b) (ha : 0 ≤ a) (ha' : a < p) (hb : 0 ≤ b) (hb' : b < p) : a = b := by
  have := h.emod
  rwa [Int.emod_eq_of_lt ha ha', Int.emod_eq_of_lt hb hb'] at this
theorem Cg.self (p : Int) (a : Int) : Cg p (a + p) a := ⟨1, by omega⟩

end Go.Proofs.YtjkiaglfefpocaaDoor
