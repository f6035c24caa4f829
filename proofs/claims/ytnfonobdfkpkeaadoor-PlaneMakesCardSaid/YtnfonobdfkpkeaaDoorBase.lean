/- What a row of cells of the call's own is, what a list is that can be read, and the laws of append and make at such rows, over this seat's program. No conditions. -/
import Derived.Test.YtnfonobdfkpkeaaDoorRows
import Derived.WalkKit
import Derived.Lib.Hide
import Derived.WalkSpells
import Derived.WalkLawsBesides
import Derived.BigQuiet
import Derived.Laws.CopyOwn
import Derived.StillTailTactics
import Derived.Deep.RegionLaw
namespace Go.Proofs.YtnfonobdfkpkeaaDoor
open Go.RowKit

/-- Numbers as values. -/
def ints (xs : List Int) : List Value := xs.map (Value.int .i64)
theorem ints_length (xs : List Int) : (ints xs).length = xs.length := by simp [ints]
theorem ints_append (xs ys : List Int) : ints (xs ++ ys) = ints xs ++ ints ys := by simp [ints]
theorem ints_one (y : Int) : ints [y] = [.int .i64 y] := rfl
/-- The entry, behind a name (so that the walk's simp leaves it as it stands). -/
def nth (xs : List Int) (j : Nat) : Int := xs.getD j 0
theorem nth_eq (xs : List Int) (j : Nat) (h : j < xs.length) : nth xs j = xs[j] := by simp [nth, List.getElem?_eq_getElem h]
theorem ints_get (xs : List Int) (j : Nat) (h : j < xs.length) : (ints xs)[j]? = some (.int .i64 (nth xs j)) := by
  simp [ints, nth, List.getElem?_eq_getElem h]
theorem ints_set (xs : List Int) (j : Nat) (y : Int) : (ints xs).set j (.int .i64 y) = ints (xs.set j y) := by simp [ints, List.map_set]

theorem World.drewN_below (B : Nat) (w : World) (n : Nat) : Below B w (w.drewN n) := ⟨rfl, rfl, rfl, Nat.le_refl _, fun _ _ => rfl⟩

/-- The list of what a function gives at 0, 1, .. -/
def tab (g : Nat → Int) : Nat → List Int
  | 0 => []
  | k + 1 => tab g k ++ [g k]
theorem tab_length (g : Nat → Int) : ∀ k, (tab g k).length = k
  | 0 => rfl
  | k + 1 => by rw [tab, List.length_append, tab_length g k]; rfl
theorem nth_append_left (xs ys : List Int) (j : Nat) (h : j < xs.length) : nth (xs ++ ys) j = nth xs j := by
  rw [nth_eq _ _ (by simp; omega), nth_eq _ _ h, List.getElem_append_left h]
theorem nth_append_end (xs : List Int) (y : Int) : nth (xs ++ [y]) xs.length = y := by
  rw [nth_eq _ _ (by simp)]; simp
theorem nth_tab (g : Nat → Int) : ∀ k j, j < k → nth (tab g k) j = g j
  | k + 1, j, h => by
    rw [tab]
    by_cases hj : j < k
    · rw [nth_append_left _ _ _ (by rw [tab_length]; exact hj), nth_tab g k j hj]
    · obtain rfl : j = k := by omega
      have := nth_append_end (tab g j) (g j)
      rwa [tab_length] at this
theorem tab_snoc (g : Nat → Int) (k : Nat) (y : Int) (h : g k = y) : ints (tab g k) ++ [.int .i64 y] = ints (tab g (k + 1)) := by
  rw [tab, ints_append, h]; rfl
theorem nth_ext (xs ys : List Int) (hl : xs.length = ys.length) (h : ∀ j, j < xs.length → nth xs j = nth ys j) : xs = ys := by
  apply List.ext_getElem hl
  intro j h1 h2
  have := h j h1
  rwa [nth_eq _ _ h1, nth_eq _ _ h2] at this
theorem nth_mem (xs : List Int) (k : Nat) (h : k < xs.length) : nth xs k ∈ xs := by rw [nth_eq xs k h]; exact List.getElem_mem h
theorem mem_nth (xs : List Int) (x : Int) (h : x ∈ xs) : ∃ k, k < xs.length ∧ nth xs k = x := by
  obtain ⟨k, hk, rfl⟩ := List.mem_iff_getElem.1 h
  exact ⟨k, hk, nth_eq xs k hk⟩

/-- What is gathered in a loop. -/
def acc (f : Nat → Int → Int) (s : Int) : Nat → Int
  | 0 => s
  | k + 1 => f k (acc f s k)

/-- The world after some draws. -/
def Drawn (w w' : World) : Prop := ∃ n, w' = w.drewN n
theorem Drawn.refl (w : World) : Drawn w w := ⟨0, rfl⟩
theorem Drawn.drewN (w : World) (n : Nat) : Drawn w (w.drewN n) := ⟨n, rfl⟩
theorem Drawn.trans {a b c : World} (h : Drawn a b) (h' : Drawn b c) : Drawn a c := by
  obtain ⟨n, rfl⟩ := h
  obtain ⟨m, rfl⟩ := h'
  exact ⟨n + m, by rw [World.drewN_drewN]⟩
theorem Drawn.below {w w' : World} (h : Drawn w w') (B : Nat) : Below B w w' := by
  obtain ⟨n, rfl⟩ := h; exact World.drewN_below _ _ _
theorem Drawn.cell {w w' : World} (h : Drawn w w') (a : Addr) : w'.cell? a = w.cell? a := by
  obtain ⟨n, rfl⟩ := h; rfl
theorem Drawn.size {w w' : World} (h : Drawn w w') : w'.heap.size = w.heap.size := by
  obtain ⟨n, rfl⟩ := h; rfl

/-- A list that can be read: the cells lie at the slice's address. -/
def Reads (w : World) (ao : Option Addr) (xs : List Value) : Prop :=
  xs = [] ∨ ∃ b off, ao = some ⟨b, off, none⟩ ∧ b < w.heap.size ∧ ∀ j u, xs[j]? = some u → w.cell? ⟨b, off + j, none⟩ = some u

/-- A row of the call's own. -/
def RowOf (e : TypeId) (w : World) (B : Nat) (ao : Option Addr) (n cap : Nat) (xs : List Value) : Prop := w.ownsRow B e 1 (.slice ao n cap) n xs

theorem RowOf.length {e : TypeId} {w : World} {B : Nat} {ao : Option Addr} {n cap : Nat} {xs : List Value} (h : RowOf e w B ao n cap xs) : xs.length = n := by
  have := h.1; omega

theorem RowOf.reads {e : TypeId} {w : World} {B : Nat} {ao : Option Addr} {n cap : Nat} {xs : List Value} (h : RowOf e w B ao n cap xs) : Reads w ao xs := by
  rcases h.2 with ⟨h1, h2⟩ | ⟨g, c, cur, h1, hB, hg, hn, hc, hs, ht⟩
  · exact .inl (List.eq_nil_of_length_eq_zero (by have := h.1; omega))
  · simp only [Value.slice.injEq] at h1
    obtain ⟨rfl, _, rfl⟩ := h1
    refine .inr ⟨g, 0, rfl, (Array.getElem?_eq_some_iff.1 hg).1, fun j u hu => ?_⟩
    have hj : j < n := by have := (List.getElem?_eq_some_iff.1 hu).1; have := h.1; omega
    have := h.cellAt j (by omega)
    rw [Nat.zero_add, this, hu]

/-- What is known of an own row that is not empty. -/
theorem RowOf.opened {e : TypeId} {w : World} {B : Nat} {ao : Option Addr} {n cap : Nat} {xs : List Value} (h : RowOf e w B ao n cap xs) (hn : 0 < n) :
    ∃ g, ao = some ⟨g, 0, none⟩ ∧ B ≤ g ∧ g < w.heap.size ∧ (∀ j u, xs[j]? = some u → w.cell? ⟨g, j, none⟩ = some u) ∧ ∀ j, w.frozen? ⟨g, j, none⟩ = false := by
  rcases h.2 with ⟨h1, h2⟩ | ⟨g, c, cur, h1, hB, hg, hn', hc, hs, ht⟩
  · omega
  · simp only [Value.slice.injEq] at h1
    obtain ⟨rfl, _, rfl⟩ := h1
    refine ⟨g, rfl, hB, (Array.getElem?_eq_some_iff.1 hg).1, fun j u hu => ?_, fun j => h.frozenAt j⟩
    have hj : j < n := by have := (List.getElem?_eq_some_iff.1 hu).1; have := h.1; omega
    rw [h.cellAt j (by omega), hu]

theorem RowOf.known {e : TypeId} {w : World} {B g n cap : Nat} {xs : List Value} (h : RowOf e w B (some ⟨g, 0, none⟩) n cap xs) :
    B ≤ g ∧ g < w.heap.size ∧ (∀ j u, xs[j]? = some u → w.cell? ⟨g, j, none⟩ = some u) ∧ ∀ j, w.frozen? ⟨g, j, none⟩ = false := by
  have hb := World.ownsRow.lt h g rfl
  refine ⟨hb.1, hb.2, fun j u hu => ?_, fun j => h.frozenAt j⟩
  have hj : j < n := by have := (List.getElem?_eq_some_iff.1 hu).1; have := h.1; omega
  rw [h.cellAt j (by omega), hu]

/-- The block of an own row. -/
theorem RowOf.block {e : TypeId} {w : World} {B : Nat} {ao : Option Addr} {n cap : Nat} {xs : List Value} (h : RowOf e w B ao n cap xs) :
    ∀ k, (Value.slice ao n cap).ownBlock = some k → B ≤ k ∧ k < w.heap.size := h.lt

theorem RowOf.stored {e : TypeId} {w : World} {B g n cap : Nat} {xs : List Value} (h : RowOf e w B (some ⟨g, 0, none⟩) n cap xs) (j : Nat) (u : Value) :
    RowOf e (w.setCell ⟨g, j, none⟩ u) B (some ⟨g, 0, none⟩) n cap (xs.set j u) := (World.ownsRow.stored h j u).1

theorem RowOf.mono {e : TypeId} {w : World} {B B' : Nat} {ao : Option Addr} {n cap : Nat} {xs : List Value} (h : RowOf e w B ao n cap xs) (hB : B' ≤ B) : RowOf e w B' ao n cap xs := by
  refine ⟨h.1, ?_⟩
  rcases h.2 with h1 | ⟨g, c, cur, h1, hg, r⟩
  · exact .inl h1
  · exact .inr ⟨g, c, cur, h1, by omega, r⟩

/-- An own row stays, where its block stays. -/
theorem RowOf.kept {e : TypeId} {w w' : World} {B : Nat} {ao : Option Addr} {n cap : Nat} {xs : List Value} (h : RowOf e w B ao n cap xs)
    (hb : ∀ k, (Value.slice ao n cap).ownBlock = some k → w'.heap[k]? = w.heap[k]?) : RowOf e w' B ao n cap xs := by
  refine ⟨h.1, ?_⟩
  rcases h.2 with h1 | ⟨g, c, cur, h1, hg, hh, r⟩
  · exact .inl h1
  · refine .inr ⟨g, c, cur, h1, hg, ?_, r⟩
    rw [hb g (by rw [h1]; rfl)]; exact hh

theorem RowOf.below {e : TypeId} {w w' : World} {B B' : Nat} {ao : Option Addr} {n cap : Nat} {xs : List Value} (h : RowOf e w B ao n cap xs)
    (hb : Below B' w w') (hB : w.heap.size ≤ B') : RowOf e w' B ao n cap xs :=
  h.kept fun k hk => hb.block k (by have := (h.block k hk).2; omega)

theorem Reads.below {w w' : World} {ao : Option Addr} {xs : List Value} {B : Nat} (h : Reads w ao xs) (hb : Below B w w') (hB : w.heap.size ≤ B) : Reads w' ao xs := by
  rcases h with h | ⟨b, off, ha, hlt, hc⟩
  · exact .inl h
  · exact .inr ⟨b, off, ha, by have := hb.size; omega, fun j u hu => by rw [hb.cell (p := ⟨b, off + j, none⟩) (by simp; omega)]; exact hc j u hu⟩

/-- An int that is read. -/
theorem Reads.int {w : World} {ao : Option Addr} {xs : List Int} (h : Reads w ao (ints xs)) (hn : 0 < xs.length) :
    ∃ b off, ao = some ⟨b, off, none⟩ ∧ b < w.heap.size ∧ ∀ j, j < xs.length → w.cell? ⟨b, off + j, none⟩ = some (.int .i64 (nth xs j)) := by
  rcases h with h | ⟨b, off, ha, hlt, hc⟩
  · have := congrArg List.length h; simp [ints] at this; subst this; simp at hn
  · exact ⟨b, off, ha, hlt, fun j hj => hc j _ (ints_get xs j hj)⟩

/-- An element type of one cell. -/
structure Elt (t e : TypeId) (z : Value) (bytes : Nat) : Prop where
  und : Tryd.prog.underlying t = some (.slice e)
  inf : (Tryd.prog.info? e).map (fun i => (i.zero, i.size, i.bytes)) = some (some z, 1, bytes)
  cel : z.cells.size = 1
  sm : bytes ≤ 24

theorem eInt : Elt 22 3 (.int .i64 0) 8 := ⟨Tryd.underlying22, by kernel_rfl, rfl, by decide⟩

/-- A new literal row. -/
theorem RowOf.lit (e : TypeId) (w : World) (cs : Array Value) (hm : cs.size ≤ maxLen) : RowOf e (w.alloc (.cells cs e)) w.heap.size (some ⟨w.heap.size, 0, none⟩) cs.size cs.size cs.toList :=
  World.ownsRow_lit w cs cs.size (Nat.le_refl _) hm (by omega)

theorem RowOf.nil (e : TypeId) (w : World) (B : Nat) : RowOf e w B none 0 0 [] := World.ownsRow_nil w B e 1

theorem RowOf.shape {e : TypeId} {w : World} {B : Nat} {v : Value} {n : Nat} {xs : List Value} (h : w.ownsRow B e 1 v n xs) : ∃ ao cap, v = .slice ao n cap := by
  rcases h.2 with ⟨rfl, rfl⟩ | ⟨g, cap, cur, rfl, _⟩
  · exact ⟨none, 0, rfl⟩
  · exact ⟨_, cap, rfl⟩

/-- 'out = append(out, y)': one element, that lies in a box of its own. -/
theorem wpList_app {t e : TypeId} {z : Value} {bytes : Nat} (E : Elt t e z bytes) {w : World} {ops : Array Oper} {rest : List Oper} {o : Oper} {a : Act} {Q : Exit → Act → World → Prop}
    (hgd : o.guard = none) (s x : Operand) (ho : o.op = .call { callee := .builtin .append, args := #[s, x], argTypes := #[t, t] })
    (B : Nat) (ao : Option Addr) (n cap : Nat) (xs : List Value) (hs : a.eval s = .slice ao n cap) (hown : RowOf e w B ao n cap xs)
    (ad : Addr) (y : Value) (hx : a.eval x = .slice (some ad) 1 1) (hc : w.cell? ad = some y) (h1 : y.oneCell' = true) (hn : n ≤ 1099511627776) (hB : B ≤ w.heap.size)
    (h : ∀ ao' cap' w', RowOf e w' B ao' (n + 1) cap' (xs ++ [y]) → w.grownBy w' (Value.slice ao n cap).ownBlock →
      (∀ B0 w0, Below B0 w0 w → B0 ≤ B → Below B0 w0 w') → wpList Tryd.prog ops Q rest (a.put o.dst (.slice ao' (n + 1) cap')) w') :
    wpList Tryd.prog ops Q (o :: rest) a w := by
  obtain ⟨i, hi, hz, hsz, hby⟩ := info_parts E.inf
  refine wpList_append_own w hgd s x t ho B e i z 1 bytes E.und hi hz hsz hby E.cel (by decide) _ n xs hs hown ad 1 1 [y] hx rfl ?_ ?_ ?_ ?_ hB ?_
  · intro j u hu
    match j, hu with
    | 0, hu => simp at hu; subst hu; simpa [Addr.add] using hc
  · intro u hu; simp at hu; subst hu; exact h1
  · unfold maxLen; omega
  · have := Nat.mul_le_mul (show n + 1 ≤ 1099511627777 by omega) E.sm; omega
  · intro v' w' hown' hgrow _
    obtain ⟨ao', cap', rfl⟩ := RowOf.shape hown'
    refine h ao' cap' w' hown' hgrow fun B0 w0 hb hB0 => hb.grown hgrow (by omega) (fun k hk => by have := (hown.block k hk).1; omega)

/-- 'out = append(out, y)', the box of y laid just ahead. -/
theorem wpList_app1 {t e : TypeId} {z : Value} {bytes : Nat} (E : Elt t e z bytes) {w : World} {ops : Array Oper} {rest : List Oper} {o : Oper} {a : Act} {Q : Exit → Act → World → Prop}
    {y : Value} (hgd : o.guard = none) (s x : Operand) (ho : o.op = .call { callee := .builtin .append, args := #[s, x], argTypes := #[t, t] })
    (B : Nat) {ao : Option Addr} {n cap : Nat} {xs : List Value} (hs : a.eval s = .slice ao n cap) (hown : RowOf e w B ao n cap xs)
    (hx : a.eval x = .slice (some ⟨w.heap.size, 0, none⟩) 1 1) (h1 : y.oneCell' = true) (hn : n ≤ 1099511627776) (hB : B ≤ w.heap.size)
    (h : ∀ ao' cap' w', RowOf e w' B ao' (n + 1) cap' (xs ++ [y]) → w.grownBy w' (Value.slice ao n cap).ownBlock →
      (∀ B0 w0, Below B0 w0 w → B0 ≤ B → Below B0 w0 w') → wpList Tryd.prog ops Q rest (a.put o.dst (.slice ao' (n + 1) cap')) w') :
    wpList Tryd.prog ops Q (o :: rest) a (w.alloc (.cells #[y] e)) := by
  refine wpList_app E hgd s x ho B ao n cap xs hs (World.ownsRow.alloc hown _) ⟨w.heap.size, 0, none⟩ y hx ?_ h1 hn (by simp; omega) ?_
  · rw [World.cell?_alloc_at _ _ _ _ rfl]; rfl
  · intro ao' cap' w' hr hg hb
    refine h ao' cap' w' hr ⟨hg.os, hg.tape, hg.output, by have := hg.size; simp at this; omega, fun k hk hne => ?_⟩ fun B0 w0 hb0 hB0 => hb B0 w0 (hb0.alloc (by omega) _) hB0
    rw [hg.block k (by simp; omega) hne]
    exact Below.heap_alloc w _ k hk

/-- .. of a number. -/
theorem wpList_appInt {t e : TypeId} {z : Value} {bytes : Nat} (E : Elt t e z bytes) {w : World} {ops : Array Oper} {rest : List Oper} {o : Oper} {a : Act} {Q : Exit → Act → World → Prop}
    {k : IntKind} {y : Int} (hgd : o.guard = none) (s x : Operand) (ho : o.op = .call { callee := .builtin .append, args := #[s, x], argTypes := #[t, t] })
    (B : Nat) {ao : Option Addr} {n cap : Nat} {xs : List Value} (hs : a.eval s = .slice ao n cap) (hown : RowOf e w B ao n cap xs)
    (hx : a.eval x = .slice (some ⟨w.heap.size, 0, none⟩) 1 1) (hn : n ≤ 1099511627776) (hB : B ≤ w.heap.size)
    (h : ∀ ao' cap' w', RowOf e w' B ao' (n + 1) cap' (xs ++ [.int k y]) → w.grownBy w' (Value.slice ao n cap).ownBlock →
      (∀ B0 w0, Below B0 w0 w → B0 ≤ B → Below B0 w0 w') → wpList Tryd.prog ops Q rest (a.put o.dst (.slice ao' (n + 1) cap')) w') :
    wpList Tryd.prog ops Q (o :: rest) a (w.alloc (.cells #[.int k y] e)) :=
  wpList_app1 E hgd s x ho B hs hown hx rfl hn hB h

/-- 'out = append(out, xs...)', xs not empty. -/
theorem wpList_appList {t e : TypeId} {z : Value} {bytes : Nat} (E : Elt t e z bytes) {w : World} {ops : Array Oper} {rest : List Oper} {o : Oper} {a : Act} {Q : Exit → Act → World → Prop}
    (hgd : o.guard = none) (s x : Operand) (ho : o.op = .call { callee := .builtin .append, args := #[s, x], argTypes := #[t, t] })
    (B : Nat) {ao : Option Addr} {n cap : Nat} {xs : List Value} (hs : a.eval s = .slice ao n cap) (hown : RowOf e w B ao n cap xs)
    {b off m c : Nat} {ys : List Value} (hx : a.eval x = .slice (some ⟨b, off, none⟩) m c) (hm : ys.length = m) (hc : ∀ j u, ys[j]? = some u → w.cell? ⟨b, off + j, none⟩ = some u)
    (h1 : ∀ y ∈ ys, y.oneCell' = true) (hn : n + m ≤ 1099511627776) (hB : B ≤ w.heap.size)
    (h : ∀ ao' cap' w', RowOf e w' B ao' (n + m) cap' (xs ++ ys) → w.grownBy w' (Value.slice ao n cap).ownBlock →
      (∀ B0 w0, Below B0 w0 w → B0 ≤ B → Below B0 w0 w') → wpList Tryd.prog ops Q rest (a.put o.dst (.slice ao' (n + m) cap')) w') :
    wpList Tryd.prog ops Q (o :: rest) a w := by
  obtain ⟨i, hi, hz, hsz, hby⟩ := info_parts E.inf
  refine wpList_append_own w hgd s x t ho B e i z 1 bytes E.und hi hz hsz hby E.cel (by decide) _ n xs hs hown ⟨b, off, none⟩ m c ys hx (by omega) ?_ h1 ?_ ?_ hB ?_
  · intro j u hu
    rw [show (⟨b, off, none⟩ : Addr).add j = ⟨b, off + j, none⟩ by unfold Addr.add; split <;> rename_i hj; (rw [hj]; rfl); rfl]
    exact hc j u hu
  · unfold maxLen; omega
  · have := Nat.mul_le_mul hn E.sm; omega
  · intro v' w' hown' hgrow _
    obtain ⟨ao', cap', rfl⟩ := RowOf.shape hown'
    exact h ao' cap' w' hown' hgrow fun B0 w0 hb hB0 => hb.grown hgrow (by omega) (fun k hk => by have := (hown.block k hk).1; omega)

theorem ints_oneCell' (xs : List Int) : ∀ y ∈ ints xs, y.oneCell' = true := by
  intro y hy; unfold ints at hy; rw [List.mem_map] at hy; obtain ⟨x, _, rfl⟩ := hy; rfl

/-- A walk of operations that only read, in one world: the cheap step of the quiet walk serves a region with a tail, too. -/
theorem wpStill_of_quiet {P : Program} {ops : Array Oper} {W : World} {Q : Act → Prop} : ∀ (l : List Oper) (a : Act), wpQuiet P ops (fun w' => w' = W) Q l a → wpStill P ops W Q l a
  | [], _, h => h
  | o :: rest, a, h => by
    unfold wpQuiet at h
    unfold wpStill
    split
    · rename_i hw
      rw [if_pos hw] at h
      obtain ⟨v, h1, h2⟩ := h
      have h1 := h1 W rfl
      unfold Oper.quietAt at h1
      unfold Oper.still
      generalize (execOp a.eval o).run P W = r at *
      cases r with
      | halt x w' => simp only [Oper.quietUpon] at h1
      | ok n w' =>
        cases n <;> simp only [Oper.quietUpon] at h1 <;> simp only [Oper.stillUpon]
        case value u =>
          obtain ⟨e1, rfl⟩ := h1
          exact ⟨e1, wpStill_of_quiet rest _ h2⟩
        case skip =>
          obtain ⟨e1, rfl⟩ := h1
          exact ⟨e1, wpStill_of_quiet rest _ h2⟩
        case enter f args =>
          obtain ⟨e1, hc⟩ := h1
          exact ⟨e1, v, hc, wpStill_of_quiet rest _ h2⟩
    · rename_i hw
      rw [if_neg hw] at h
      exact wpStill_of_quiet rest _ h

/-- append of one element, as one step of a region that draws its order. -/
theorem step_app {t e : TypeId} {z : Value} {bytes : Nat} (E : Elt t e z bytes) {w : World} {ops : Array Oper} {o : Oper} {a : Act} {K : Act → World → Prop} {Q : Exit → Act → World → Prop} {El : Prop}
    (hgd : o.guard = none) (s x : Operand) (ho : o.op = .call { callee := .builtin .append, args := #[s, x], argTypes := #[t, t] })
    (B : Nat) {ao : Option Addr} {n cap : Nat} {xs : List Value} (hs : a.eval s = .slice ao n cap) (hown : RowOf e w B ao n cap xs)
    (ad : Addr) (y : Value) (hx : a.eval x = .slice (some ad) 1 1) (hc : w.cell? ad = some y) (h1 : y.oneCell' = true) (hn : n ≤ 1099511627776) (hB : B ≤ w.heap.size)
    (h : ∀ ao' cap' w', RowOf e w' B ao' (n + 1) cap' (xs ++ [y]) → w.grownBy w' (Value.slice ao n cap).ownBlock →
      (∀ B0 w0, Below B0 w0 w → B0 ≤ B → Below B0 w0 w') → K (a.put o.dst (.slice ao' (n + 1) cap')) w') :
    if Region.wanted o (yielded ops a.tmps) = true then Oper.wp Tryd.prog o a w K Q else El := by
  obtain ⟨i, hi, hz, hsz, hby⟩ := info_parts E.inf
  have hw : Region.wanted o (yielded ops a.tmps) = true := by simp [Region.wanted, hgd]
  rw [if_pos hw]
  refine wp_append_own w s x t ho B e i z 1 bytes E.und hi hz hsz hby E.cel (by decide) _ n xs hs hown ad 1 1 [y] hx rfl ?_ ?_ ?_ ?_ hB ?_
  · intro j u hu
    match j, hu with
    | 0, hu => simp at hu; subst hu; simpa [Addr.add] using hc
  · intro u hu; simp at hu; subst hu; exact h1
  · unfold maxLen; omega
  · have := Nat.mul_le_mul (show n + 1 ≤ 1099511627777 by omega) E.sm; omega
  · intro v' w' hown' hgrow _
    obtain ⟨ao', cap', rfl⟩ := RowOf.shape hown'
    refine h ao' cap' w' hown' hgrow fun B0 w0 hb hB0 => hb.grown hgrow (by omega) (fun k hk => by have := (hown.block k hk).1; omega)

end Go.Proofs.YtnfonobdfkpkeaaDoor
