/- A slice of slices that the call itself makes, row by row. No conditions. -/
import Derived.Test.YtjkiaglfefpocaaDoorJijcanombbh
import Derived.Maps.AppendAt
namespace Go.Proofs.YtjkiaglfefpocaaDoor
open Go.RowKit

/-- A slice that reads as a list of ints; where it is not empty, its block is one of P and not x. -/
def InnerX (w : World) (P : Nat → Prop) (x : Option Nat) (v : Value) (xs : List Int) : Prop := ∃ a c, v = .slice a xs.length c ∧ xs.length ≤ maxLen ∧
  (xs = [] ∨ ∃ b off, a = some ⟨b, off, none⟩ ∧ b < w.heap.size ∧ P b ∧ some b ≠ x ∧ ∀ j u, (ints xs)[j]? = some u → w.cell? ⟨b, off + j, none⟩ = some u)
theorem InnerX.inner {w : World} {P : Nat → Prop} {x : Option Nat} {v : Value} {xs : List Int} (h : InnerX w P x v xs) : Inner w v xs := by
  obtain ⟨a, c, e, hl, h⟩ := h
  refine ⟨a, c, e, ?_, hl⟩
  rcases h with h | ⟨b, off, h1, h2, _, _, h3⟩
  · subst h; exact .inl rfl
  · exact .inr ⟨b, off, h1, h2, h3⟩
theorem InnerX.grown {w w' : World} {P : Nat → Prop} {x x' : Option Nat} {v : Value} {xs : List Int} (h : InnerX w P x v xs) (hg : w.grownBy w' x) (hx : x' = x ∨ x' = some w.heap.size) : InnerX w' P x' v xs := by
  obtain ⟨a, c, e, hl, h⟩ := h
  refine ⟨a, c, e, hl, ?_⟩
  rcases h with h | ⟨b, off, h1, h2, hP, hne, h3⟩
  · exact .inl h
  · refine .inr ⟨b, off, h1, by have := hg.size; omega, hP, ?_, fun j u hu => ?_⟩
    · rcases hx with rfl | rfl
      · exact hne
      · intro e; simp at e; omega
    · rw [World.cell?_of_block (w := w) (hg.block b h2 hne)]; exact h3 j u hu
theorem grownBy_of_ext {w w' : World} (h : Ext w w') (x : Option Nat) : w.grownBy w' x := ⟨h.os, h.tape, h.output, h.size, fun i hi _ => h.block i hi⟩
theorem InnerX.ext {w w' : World} {P : Nat → Prop} {x : Option Nat} {v : Value} {xs : List Int} (h : InnerX w P x v xs) (hx : Ext w w') : InnerX w' P x v xs := h.grown (grownBy_of_ext hx x) (.inl rfl)
theorem InnerX.beside {w : World} {P : Nat → Prop} {x : Option Nat} {v : Value} {xs : List Int} (h : InnerX w P x v xs) (p : Addr) (hp : ¬ P p.block) (u : Value) : InnerX (w.setCell p u) P x v xs := by
  obtain ⟨a, c, e, hl, h⟩ := h
  refine ⟨a, c, e, hl, ?_⟩
  rcases h with h | ⟨b, off, h1, h2, hP, hne, h3⟩
  · exact .inl h
  · refine .inr ⟨b, off, h1, by simpa [World.setCell] using h2, hP, hne, fun j u' hu => ?_⟩
    rw [World.cell?_of_block (w := w) (Below.heap_setCell w p u b (by rintro rfl; exact hp hP))]; exact h3 j u' hu
/-- An own row reads so. -/
theorem RowOf.innerX {e : TypeId} {w : World} {B : Nat} {ao : Option Addr} {n cap : Nat} {xs : List Int} (h : RowOf e w B ao n cap (ints xs)) (P : Nat → Prop) (x : Option Nat) (hP : ∀ b, B ≤ b → P b) (hx : ∀ b, x = some b → b < B) (hn : n ≤ maxLen) : InnerX w P x (.slice ao n cap) xs := by
  have hl : xs.length = n := by have := h.length; rwa [ints_length] at this
  refine ⟨ao, cap, by rw [hl], by omega, ?_⟩
  by_cases h0 : 0 < n
  · obtain ⟨g, rfl, h1, h2, h3, _⟩ := h.opened h0
    exact .inr ⟨g, 0, rfl, h2, hP g h1, fun e => by have := hx g e.symm; omega, fun j u hu => by rw [Nat.zero_add]; exact h3 j u hu⟩
  · exact .inl (List.eq_nil_of_length_eq_zero (by omega))

/-- The rows. -/
def Rows2X (w : World) (P : Nat → Prop) (x : Option Nat) (vs : List Value) (xss : List (List Int)) : Prop := vs.length = xss.length ∧ ∀ j v, vs[j]? = some v → InnerX w P x v (row xss j)
theorem row_append_left (xss yss : List (List Int)) (j : Nat) (h : j < xss.length) : row (xss ++ yss) j = row xss j := by
  unfold row; rw [List.getD_eq_getElem?_getD, List.getD_eq_getElem?_getD, List.getElem?_append_left h]
theorem row_append_end (xss : List (List Int)) (xs : List Int) : row (xss ++ [xs]) xss.length = xs := by
  unfold row; rw [List.getD_eq_getElem?_getD, List.getElem?_append_right (Nat.le_refl _), Nat.sub_self]; rfl
theorem Rows2X.snoc {w : World} {P : Nat → Prop} {x : Option Nat} {vs : List Value} {xss : List (List Int)} (h : Rows2X w P x vs xss) {v : Value} {xs : List Int} (hv : InnerX w P x v xs) : Rows2X w P x (vs ++ [v]) (xss ++ [xs]) := by
  refine ⟨by simp [h.1], fun j u hu => ?_⟩
  have hj : j < vs.length + 1 := by have := (List.getElem?_eq_some_iff.1 hu).1; simpa using this
  by_cases hlt : j < vs.length
  · rw [List.getElem?_append_left hlt] at hu
    rw [row_append_left _ _ _ (by rw [← h.1]; exact hlt)]
    exact h.2 j u hu
  · obtain rfl : j = vs.length := by omega
    rw [List.getElem?_append_right (Nat.le_refl _), Nat.sub_self] at hu
    simp at hu
    subst hu
    rw [h.1, row_append_end]; exact hv

/-- A table of the call's own: its block is B or behind, the blocks of its rows are of P. -/
def Tbl (w : World) (P : Nat → Prop) (B : Nat) (ao : Option Addr) (n cap : Nat) (xss : List (List Int)) : Prop :=
  ∃ vs, RowOf 22 w B ao n cap vs ∧ Rows2X w P (Value.slice ao n cap).ownBlock vs xss
theorem Tbl.nil (w : World) (P : Nat → Prop) (B : Nat) : Tbl w P B none 0 0 [] := ⟨[], RowOf.nil _ _ _, rfl, fun j v hv => by simp at hv⟩
theorem Tbl.length {w : World} {P : Nat → Prop} {B : Nat} {ao : Option Addr} {n cap : Nat} {xss : List (List Int)} (h : Tbl w P B ao n cap xss) : xss.length = n := by
  obtain ⟨vs, h1, h2⟩ := h; rw [← h2.1]; exact h1.length
theorem Tbl.block {w : World} {P : Nat → Prop} {B : Nat} {ao : Option Addr} {n cap : Nat} {xss : List (List Int)} (h : Tbl w P B ao n cap xss) : ∀ k, (Value.slice ao n cap).ownBlock = some k → B ≤ k ∧ k < w.heap.size := by
  obtain ⟨vs, h1, h2⟩ := h; exact h1.block
theorem Tbl.ext {w w' : World} {P : Nat → Prop} {B : Nat} {ao : Option Addr} {n cap : Nat} {xss : List (List Int)} (h : Tbl w P B ao n cap xss) (hx : Ext w w') : Tbl w' P B ao n cap xss := by
  obtain ⟨vs, h1, h2⟩ := h
  exact ⟨vs, hx.row h1, h2.1, fun j v hv => (h2.2 j v hv).ext hx⟩
theorem Tbl.mono {w : World} {P : Nat → Prop} {B B' : Nat} {ao : Option Addr} {n cap : Nat} {xss : List (List Int)} (h : Tbl w P B ao n cap xss) (hB : B' ≤ B) : Tbl w P B' ao n cap xss := by
  obtain ⟨vs, h1, h2⟩ := h
  exact ⟨vs, h1.mono hB, h2⟩
theorem Tbl.readsL {w : World} {P : Nat → Prop} {B : Nat} {ao : Option Addr} {n cap : Nat} {xss : List (List Int)} (h : Tbl w P B ao n cap xss) : ReadsL w ao xss := by
  obtain ⟨vs, h1, h2⟩ := h
  exact ⟨vs, h1.reads, h2.1, fun j v hv => (h2.2 j v hv).inner⟩
theorem Tbl.beside {w : World} {P : Nat → Prop} {B : Nat} {ao : Option Addr} {n cap : Nat} {xss : List (List Int)} (h : Tbl w P B ao n cap xss) (p : Addr) (hB : p.block < B) (hp : ¬ P p.block) (u : Value) : Tbl (w.setCell p u) P B ao n cap xss := by
  obtain ⟨vs, h1, h2⟩ := h
  exact ⟨vs, h1.beside p hB u, h2.1, fun j v hv => (h2.2 j v hv).beside p hp u⟩

theorem eRow : Elt 25 22 (.slice none 0 0) 24 := ⟨Tryd.underlying25, by kernel_rfl, rfl, by decide⟩

theorem Blk.grown {w w' : World} {b : Nat} {cs : Array Value} {t : TypeId} {x : Option Nat} (h : Blk w b cs t) (hg : w.grownBy w' x) (hne : some b ≠ x) : Blk w' b cs t := (hg.block b h.lt hne).trans h

/-- A list of lists that has been made since w0. -/
def OwnTbl (w0 w : World) (v : Value) (xss : List (List Int)) : Prop := ∃ ao n cap, v = .slice ao n cap ∧ Tbl w (fun b => w0.heap.size ≤ b) w0.heap.size ao n cap xss ∧ Ext w0 w
theorem OwnTbl.nil {w0 w : World} (h : Ext w0 w) : OwnTbl w0 w (.slice none 0 0) [] := ⟨none, 0, 0, rfl, Tbl.nil _ _ _, h⟩
theorem OwnTbl.ext {w0 w w' : World} {v : Value} {xss : List (List Int)} (h : OwnTbl w0 w v xss) (hx : Ext w w') : OwnTbl w0 w' v xss := by
  obtain ⟨ao, n, cap, rfl, h1, h2⟩ := h; exact ⟨ao, n, cap, rfl, h1.ext hx, h2.trans hx⟩

theorem InnerX.weaken {w : World} {P P' : Nat → Prop} {x : Option Nat} {v : Value} {xs : List Int} (h : InnerX w P x v xs) (hp : ∀ b, P b → P' b) : InnerX w P' x v xs := by
  obtain ⟨a, c, e, hl, h⟩ := h
  refine ⟨a, c, e, hl, ?_⟩
  rcases h with h | ⟨b, off, h1, h2, hP, h3⟩
  · exact .inl h
  · exact .inr ⟨b, off, h1, h2, hp b hP, h3⟩
theorem OwnTbl.back {w w1 w' : World} {v : Value} {xss : List (List Int)} (hx : Ext w w1) (h : OwnTbl w1 w' v xss) : OwnTbl w w' v xss := by
  obtain ⟨ao, n, cap, rfl, ⟨vs, h1, h2, h3⟩, h4⟩ := h
  exact ⟨ao, n, cap, rfl, ⟨vs, h1.mono hx.size, h2, fun j v hv => (h3 j v hv).weaken fun b hb => Nat.le_trans hx.size hb⟩, hx.trans h4⟩
/-- 'out = append(out, row)', the row's box laid just ahead. -/
theorem wpList_appRow {w : World} {ops : Array Oper} {rest : List Oper} {o : Oper} {a : Act} {Q : Exit → Act → World → Prop}
    {y : Value} (hgd : o.guard = none) (s x : Operand) (ho : o.op = .call { callee := .builtin .append, args := #[s, x], argTypes := #[25, 25] })
    (P : Nat → Prop) (B : Nat) {ao : Option Addr} {n cap : Nat} {xss : List (List Int)} {xs : List Int} (hs : a.eval s = .slice ao n cap) (hown : Tbl w P B ao n cap xss)
    (hx : a.eval x = .slice (some ⟨w.heap.size, 0, none⟩) 1 1) (hy : InnerX w P (Value.slice ao n cap).ownBlock y xs) (hn : n ≤ 1099511627776) (hB : B ≤ w.heap.size)
    (h : ∀ ao' cap' w', Tbl w' P B ao' (n + 1) cap' (xss ++ [xs]) → w.grownBy w' (Value.slice ao n cap).ownBlock →
      (∀ B0 w0, Below B0 w0 w → B0 ≤ B → Below B0 w0 w') → wpList Tryd.prog ops Q rest (a.put o.dst (.slice ao' (n + 1) cap')) w') :
    wpList Tryd.prog ops Q (o :: rest) a (w.alloc (.cells #[y] 22)) := by
  obtain ⟨i, hi, hz, hsz, hby⟩ := info_parts eRow.inf
  obtain ⟨vs, h1, h2⟩ := hown
  have hone : y.oneCell' = true := by obtain ⟨_, _, rfl, _⟩ := hy; rfl
  refine wpList_append_own_at (w := w.alloc (.cells #[y] 22)) hgd s x 25 ho B 22 i (.slice none 0 0) 1 24 eRow.und hi hz hsz hby eRow.cel (by decide) _ n vs hs (World.ownsRow.alloc h1 _) ⟨w.heap.size, 0, none⟩ 1 1 [y] hx rfl ?_ ?_ ?_ ?_ (by simp; omega) ?_
  · intro j u hu
    match j, hu with
    | 0, hu => simp at hu; subst hu; simp [Addr.add]
  · intro u hu; simp at hu; subst hu; exact hone
  · unfold maxLen; omega
  · omega
  · intro v' w' hown' hgrow _ hat
    obtain ⟨ao', cap', rfl⟩ := RowOf.shape hown'
    have hx1 : Ext w (w.alloc (.cells #[y] 22)) := (Ext.refl w).alloc _
    have hg2 : w.grownBy w' (Value.slice ao n cap).ownBlock := ⟨hgrow.os.trans hx1.os, hgrow.tape.trans hx1.tape, hgrow.output.trans hx1.output, Nat.le_trans hx1.size hgrow.size, fun k hk hne => (hgrow.block k (Nat.lt_of_lt_of_le hk hx1.size) hne).trans (hx1.block k hk)⟩
    refine h ao' cap' w' ⟨vs ++ [y], hown', ?_⟩ hg2 fun B0 w0 hb hB0 => (hb.alloc (by omega) _).grown hgrow (by simp; omega) (fun k hk => by have := (h1.block k hk).1; omega)
    have h3 : Rows2X w P (Value.slice ao n cap).ownBlock (vs ++ [y]) (xss ++ [xs]) := h2.snoc hy
    exact ⟨h3.1, fun j v hv => ((h3.2 j v hv).ext hx1).grown hgrow hat⟩

end Go.Proofs.YtjkiaglfefpocaaDoor

/- Lists of squares that can be read; slices.ContainsFunc at such a list, where sides are asked. -/
namespace Go.Proofs.YtjkiaglfefpocaaDoor
open Go.RowKit

/-- The square of a number. -/
def sqAt (sqs : List (Int × List Int)) (j : Nat) : Int × List Int := sqs.getD j (0, [])
theorem sqAt_eq (sqs : List (Int × List Int)) (j : Nat) (h : j < sqs.length) : sqAt sqs j = sqs[j] := by simp [sqAt, List.getElem?_eq_getElem h]
/-- A slice of squares that reads as a list. -/
def ReadsSq (w : World) (ao : Option Addr) (sqs : List (Int × List Int)) : Prop :=
  sqs = [] ∨ ∃ b off, ao = some ⟨b, off, none⟩ ∧ b < w.heap.size ∧ ∀ j, j < sqs.length → ∃ a c, w.cell? ⟨b, off + j * 2, none⟩ = some (.int .i64 (sqAt sqs j).1) ∧ w.cell? ⟨b, off + j * 2 + 1, none⟩ = some (.slice a (sqAt sqs j).2.length c) ∧
    Reads w a (ints (sqAt sqs j).2) ∧ (sqAt sqs j).2.length ≤ maxLen
theorem ReadsSq.ext {w w' : World} {ao : Option Addr} {sqs : List (Int × List Int)} (h : ReadsSq w ao sqs) (hx : Ext w w') : ReadsSq w' ao sqs := by
  rcases h with h | ⟨b, off, h1, h2, h3⟩
  · exact .inl h
  · refine .inr ⟨b, off, h1, Nat.lt_of_lt_of_le h2 hx.size, fun j hj => ?_⟩
    obtain ⟨a, c, k1, k2, k3, k4⟩ := h3 j hj
    exact ⟨a, c, (hx.cell h2).trans k1, (hx.cell h2).trans k2, hx.reads k3, k4⟩

theorem side_ne {m : Int} {ao : Option Addr} {n cap r : Nat} {s : Int} {w : World} (hb : Blk w r #[.int .i64 s] 3) :
    Calls Tryd.prog 29 #[.agg #[.int .i64 m, .slice ao n cap], .pointer (some ⟨r, 0, none⟩)] w fun e w' => e = .returned (.bool (m != s)) ∧ Ext w w' := by
  have hlt := hb.lt
  have k1 : ∀ o, (w.alloc o).cell? ⟨r, 0, none⟩ = some (.int .i64 s) := fun o => (hb.alloc o).one
  clear hb
  go_enter Tryd.func29, Tryd.ntmps29
  go_wp2
  go_ret
  exact ⟨rfl, (Ext.refl w).alloc _⟩

/-- The first square of another side. -/
def sideIdx (s : Int) : List (Int × List Int) → Nat → Int
  | [], _ => -1
  | x :: xs, k => if x.1 != s then k else sideIdx s xs (k + 1)
theorem sideIdx_hit (s : Int) : ∀ (xs : List (Int × List Int)) (k j : Nat), j < xs.length → ((sqAt xs j).1 != s) = true → (∀ i, i < j → ((sqAt xs i).1 != s) = false) → sideIdx s xs k = k + j
  | [], _, _, h, _, _ => by simp at h
  | x :: xs, k, 0, _, h, _ => by have : (x.1 != s) = true := h; simp only [sideIdx, this, if_true]; simp
  | x :: xs, k, j + 1, h, hp, hn => by
    have h0 : (x.1 != s) = false := hn 0 (by omega)
    rw [sideIdx, h0, if_neg (by simp), sideIdx_hit s xs (k + 1) j (by simpa using h) hp (fun i hi => hn (i + 1) (by omega))]
    omega
theorem sideIdx_miss (s : Int) : ∀ (xs : List (Int × List Int)) (k : Nat), (∀ i, i < xs.length → ((sqAt xs i).1 != s) = false) → sideIdx s xs k = -1
  | [], _, _ => rfl
  | x :: xs, k, hn => by
    have h0 : (x.1 != s) = false := hn 0 (by simp)
    rw [sideIdx, h0, if_neg (by simp), sideIdx_miss s xs (k + 1) (fun i hi => hn (i + 1) (by simpa using hi))]
theorem sideIdx_any (s : Int) : ∀ (xs : List (Int × List Int)) (k : Nat), decide (0 ≤ sideIdx s xs k) = xs.any (fun x => x.1 != s)
  | [], _ => rfl
  | x :: xs, k => by
    rw [sideIdx, List.any_cons]
    by_cases h : (x.1 != s) = true
    · rw [h, if_pos rfl]; simp
    · rw [show (x.1 != s) = false by simpa using h, if_neg (by simp), sideIdx_any s xs (k + 1)]
      simp

set_option maxHeartbeats 1000000 in
theorem sideIdx_walk (s : Int) (r : Nat) (ao : Option Addr) (n cap : Nat) (sqs : List (Int × List Int)) (w : World) (hn : sqs.length = n) (hbig : n ≤ maxLen) (hr : ReadsSq w ao sqs) (hb : Blk w r #[.int .i64 s] 3) :
    Calls Tryd.prog 51 #[.slice ao n cap, .func (.func 29) #[] #[.pointer (some ⟨r, 0, none⟩)]] w fun e w' => e = .returned (.int .i64 (sideIdx s sqs 0)) ∧ Ext w w' := by
  unfold maxLen at hbig
  have HN := Lib.hid hn
  have HR := Lib.hid hr
  have HB := Lib.hid hb
  clear hn hr hb
  go_enter Tryd.func51, Tryd.ntmps51
  go_wp2
  go_loopw [8] (fun i wr => ∃ k : Nat, k ≤ n ∧ i = .int .i64 k ∧ Ext w wr ∧ ∀ i, i < k → ((sqAt sqs i).1 != s) = false) (fun i _ => n - (intOf i).toNat)
  case atStart => exact ⟨0, by omega, rfl, Ext.refl _, fun i hi => by omega⟩
  case round =>
    obtain ⟨k, hk, rfl, hd, hall⟩ := hrel
    have HA := Lib.hid hall
    have HD := Lib.hid hd
    clear hall hd
    by_cases hlt : k < n
    · rcases HR.out with h0 | ⟨b, off, rfl, hlb, hc⟩
      · have := HN.out; rw [h0] at this; simp at this; omega
      · obtain ⟨a, c, k1, k2, _, hl⟩ := hc k (by rw [HN.out]; exact hlt)
        rw [← HD.out.cell hlb] at k1 k2
        unfold maxLen at hl
        have hcall := Lib.hid (side_ne (m := (sqAt sqs k).1) (ao := a) (n := (sqAt sqs k).2.length) (cap := c) (HB.out.ext HD.out))
        obtain ⟨x, hx⟩ : ∃ x, ((sqAt sqs k).1 != s) = x := ⟨_, rfl⟩
        have HX := Lib.hid hx
        rw [hx] at hcall
        obtain ⟨q, hq⟩ : ∃ q, sqAt sqs k = q := ⟨_, rfl⟩
        rw [hq] at k1 k2 hcall hl
        obtain ⟨l, hql⟩ : ∃ l, q.2.length = l := ⟨_, rfl⟩
        obtain ⟨m, hqm⟩ : ∃ m, q.1 = m := ⟨_, rfl⟩
        rw [hqm] at k1 hcall
        rw [hql] at k2 hcall hl
        clear hc hx hq hql hqm
        cases x with
        | true =>
          go_wp2_with ((with_reducible refine Calls.mono hcall.out ?_); rintro e w' ⟨rfl, hdd⟩)
          go_ret
          exact ⟨by rw [sideIdx_hit s sqs 0 k (by rw [HN.out]; omega) HX.out HA.out]; simp, HD.out.trans hdd⟩
        | false =>
          go_wp2_with ((with_reducible refine Calls.mono hcall.out ?_); rintro e w' ⟨rfl, hdd⟩)
          go_roundw
          case rel => exact ⟨k + 1, by omega, by go_num, HD.out.trans hdd, fun i hi => by
            rcases Nat.lt_succ_iff_lt_or_eq.1 hi with h | rfl
            · exact HA.out i h
            · exact HX.out⟩
          case measure => simp [intOf]; omega
    · go_wp2
      go_ret
      exact ⟨by rw [sideIdx_miss s sqs 0 (fun i hi => HA.out i (by rw [HN.out] at hi; omega))]; simp, HD.out⟩

set_option maxHeartbeats 400000 in
theorem sideAny_walk (s : Int) (r : Nat) (ao : Option Addr) (n cap : Nat) (sqs : List (Int × List Int)) (w : World) (hn : sqs.length = n) (hbig : n ≤ maxLen) (hr : ReadsSq w ao sqs) (hb : Blk w r #[.int .i64 s] 3) :
    Calls Tryd.prog 28 #[.slice ao n cap, .func (.func 29) #[] #[.pointer (some ⟨r, 0, none⟩)]] w fun e w' => e = .returned (.bool (sqs.any fun x => x.1 != s)) ∧ Ext w w' := by
  have H := Lib.hid (sideIdx_walk s r ao n cap sqs w hn hbig hr hb)
  have HA := Lib.hid (sideIdx_any s sqs 0)
  clear hn hbig hr hb
  generalize sideIdx s sqs 0 = r at *
  go_enter Tryd.func28, Tryd.ntmps28
  go_wp2_with (go_at_call 51; refine H.out.mono ?_; rintro e w' ⟨rfl, hdd⟩)
  go_ret
  exact ⟨by rw [← HA.out]; rfl, hdd⟩

end Go.Proofs.YtjkiaglfefpocaaDoor

/- What array.Squares answers at any list of squares. -/
namespace Go.Proofs.YtjkiaglfefpocaaDoor
open Go.RowKit

/-- What is wrong with a square of a list. -/
noncomputable def sqFault (sqs : List (Int × List Int)) (j : Nat) : Int := latinFaultOf (sqAt sqs j).1 (sqAt sqs j).2
/-- What is wrong with a list of squares. -/
def SqIs (sqs : List (Int × List Int)) (c : Int) : Prop :=
  ((sqs.length = 0 ∨ 6 < sqs.length) ∧ c = 3) ∨
  (1 ≤ sqs.length ∧ sqs.length ≤ 6 ∧ ∃ j, j < sqs.length ∧ (∀ i, i < j → sqFault sqs i = 0) ∧ sqFault sqs j = c ∧ c ≠ 0) ∨
  (1 ≤ sqs.length ∧ sqs.length ≤ 6 ∧ (∀ i, i < sqs.length → sqFault sqs i = 0) ∧ (sqs.any fun x => x.1 != (sqAt sqs 0).1) = true ∧ c = 2) ∨
  (1 ≤ sqs.length ∧ sqs.length ≤ 6 ∧ (∀ i, i < sqs.length → sqFault sqs i = 0) ∧ (sqs.any fun x => x.1 != (sqAt sqs 0).1) = false ∧ c = 0)
theorem SqIs.one {sqs : List (Int × List Int)} {c d : Int} (h : SqIs sqs c) (k : SqIs sqs d) : c = d := by
  rcases h with ⟨h1, h2⟩ | ⟨h1, h2, j, h3, h4, h5, h6⟩ | ⟨h1, h2, h3, h4, h5⟩ | ⟨h1, h2, h3, h4, h5⟩ <;> rcases k with ⟨k1, k2⟩ | ⟨k1, k2, i, k3, k4, k5, k6⟩ | ⟨k1, k2, k3, k4, k5⟩ | ⟨k1, k2, k3, k4, k5⟩
  case inr.inl.inr.inl =>
    rcases Nat.lt_trichotomy i j with h | h | h
    · have := h4 i h; omega
    · subst h; omega
    · have := k4 j h; omega
  case inr.inl.inr.inr.inl => have := k3 j h3; omega
  case inr.inl.inr.inr.inr => have := k3 j h3; omega
  case inr.inr.inl.inr.inl => have := h3 i k3; omega
  case inr.inr.inr.inr.inl => have := h3 i k3; omega
  case inr.inr.inl.inr.inr.inr => rw [h4] at k4; simp at k4
  case inr.inr.inr.inr.inr.inl => rw [h4] at k4; simp at k4
  all_goals omega
/-- Squares that go together. -/
structure AreSq (n : Nat) (sqs : List (Int × List Int)) : Prop where
  one : 1 ≤ sqs.length
  six : sqs.length ≤ 6
  side : ∀ j, j < sqs.length → (sqAt sqs j).1 = n
  latin : ∀ j, j < sqs.length → IsLatin n (sqAt sqs j).2
theorem SqIs.zero {sqs : List (Int × List Int)} (h : SqIs sqs 0) : ∃ n, AreSq n sqs := by
  rcases h with ⟨_, h⟩ | ⟨_, _, j, _, _, _, h⟩ | ⟨_, _, _, _, h⟩ | ⟨h1, h2, h3, h4, _⟩
  · omega
  · exact absurd rfl h
  · omega
  · obtain ⟨n, e, hl⟩ := latinFaultOf_zero (h3 0 (by omega))
    have hs : ∀ j, j < sqs.length → (sqAt sqs j).1 = n := fun j hj => by
      have := List.any_eq_false.1 h4 sqs[j] (List.getElem_mem hj)
      rw [← sqAt_eq sqs j hj] at this
      rw [← e]
      simpa using this
    refine ⟨n, h1, h2, hs, fun j hj => ?_⟩
    obtain ⟨n', e', hl'⟩ := latinFaultOf_zero (h3 j hj)
    have : n' = n := by have := hs j hj; omega
    exact this ▸ hl'

/-- A run, as far as some squares. -/
def runUp (n : Nat) (sqs : List (Int × List Int)) (t j : Nat) : List Int := ((t / n : Nat) : Int) :: ((t % n : Nat) : Int) :: (sqs.take j).map fun s => nth s.2 t
theorem runUp_succ {n : Nat} {sqs : List (Int × List Int)} {t j : Nat} (hj : j < sqs.length) : runUp n sqs t (j + 1) = runUp n sqs t j ++ [nth (sqAt sqs j).2 t] := by
  unfold runUp
  rw [List.take_add_one, List.getElem?_eq_getElem hj, List.map_append, sqAt_eq _ _ hj]; rfl
theorem runUp_len (n : Nat) (sqs : List (Int × List Int)) (t j : Nat) (hj : j ≤ sqs.length) : (runUp n sqs t j).length = j + 2 := by
  simp [runUp]; omega
theorem runUp_all (n : Nat) (sqs : List (Int × List Int)) (t : Nat) : runUp n sqs t sqs.length = runAt n (sqs.map (·.2)) t := by
  unfold runUp runAt
  rw [List.take_length, List.map_map]; rfl
/-- The runs so far. -/
def runsUp (n : Nat) (sqs : List (Int × List Int)) (t : Nat) : List (List Int) := (List.range t).map fun i => runUp n sqs i sqs.length
theorem runsUp_succ (n : Nat) (sqs : List (Int × List Int)) (t : Nat) : runsUp n sqs (t + 1) = runsUp n sqs t ++ [runUp n sqs t sqs.length] := by
  unfold runsUp; rw [List.range_succ, List.map_append]; rfl
theorem runsUp_all (n : Nat) (sqs : List (Int × List Int)) : runsUp n sqs (n * n) = runsOf n (sqs.map (·.2)) := by
  unfold runsUp runsOf
  exact List.map_congr_left fun t _ => runUp_all n sqs t

/-- What is answered. -/
def SqPost (sqs : List (Int × List Int)) (w w' : World) (e : Ending) : Prop :=
  ∃ v c, e = .returned (.tuple #[v, .int .i64 c]) ∧ SqIs sqs c ∧ (c ≠ 0 → v = .slice none 0 0) ∧ (∀ n, c = 0 → AreSq n sqs → OwnTbl w w' v (runsOf n (sqs.map (·.2))))

set_option maxHeartbeats 1000000 in
theorem arraySquares_many (ao : Option Addr) (n cap : Nat) (sqs : List (Int × List Int)) (w : World) (hl : sqs.length = n) (hbig : n ≤ maxLen) (hn : n = 0 ∨ 6 < n) :
    Calls Tryd.prog 11 #[.slice ao n cap] w fun e w' => SqPost sqs w w' e ∧ Ext w w' := by
  unfold maxLen at hbig
  have HP : Hid (SqIs sqs 3) := .inl ⟨by omega, rfl⟩
  clear hl
  rcases hn with rfl | hn
  · go_enter Tryd.func11, Tryd.ntmps11
    go_wp2
    exact bodyPost_ret (v := .tuple #[.slice none 0 0, .int .i64 3]) (by simp [results, Tryd.results11, go_sem]) rfl ⟨⟨_, 3, rfl, HP.out, fun _ => rfl, fun _ h => by cases h⟩, Ext.refl _⟩
  · have b0 : ((n : Int) == 0) = false := by rw [beq_eq_false_iff_ne]; omega
    have b1 : decide (6 < (n : Int)) = true := decide_eq_true (by omega)
    go_enter Tryd.func11, Tryd.ntmps11
    go_wp2
    exact bodyPost_ret (v := .tuple #[.slice none 0 0, .int .i64 3]) (by simp [results, Tryd.results11, go_sem]) rfl ⟨⟨_, 3, rfl, HP.out, fun _ => rfl, fun _ h => by cases h⟩, Ext.refl _⟩

set_option maxHeartbeats 4000000 in
set_option maxRecDepth 100000 in
theorem arraySquares_some (ao : Option Addr) (n cap : Nat) (sqs : List (Int × List Int)) (w : World) (hl : sqs.length = n) (h1 : 1 ≤ n) (h6 : n ≤ 6) (hr : ReadsSq w ao sqs) :
    Calls Tryd.prog 11 #[.slice ao n cap] w fun e w' => SqPost sqs w w' e ∧ Ext w w' := by
  rcases hr with h0 | ⟨b, off, rfl, hb, hc⟩
  · rw [h0] at hl; simp at hl; omega
  have HL := Lib.hid hl
  have HC := Lib.hid hc
  have b0 : ((n : Int) == 0) = false := by rw [beq_eq_false_iff_ne]; omega
  have b1 : decide (6 < (n : Int)) = false := decide_eq_false (by omega)
  obtain ⟨z, hz⟩ : ∃ z, (sqAt sqs 0).1 = z := ⟨_, rfl⟩
  have HZ := Lib.hid hz
  clear hl hc hz
  go_enter Tryd.func11, Tryd.ntmps11
  go_wp2
  go_loopw [23] (fun a wr => ∃ k : Nat, k ≤ n ∧ a = .int .i64 k ∧ Ext w wr ∧ ∀ i, i < k → sqFault sqs i = 0) (fun a _ => n - (intOf a).toNat)
  case atStart => exact ⟨0, by omega, rfl, Ext.refl _, fun i h => by omega⟩
  case round =>
    obtain ⟨k, hk, rfl, hx, hall⟩ := hrel
    have HX := Lib.hid hx
    have HA := Lib.hid hall
    clear hx hall
    by_cases hlt : k < n
    · obtain ⟨a, c, k1, k2, r1, l1⟩ := HC.out k (by rw [HL.out]; exact hlt)
      rw [← HX.out.cell hb] at k1 k2
      have HLC : Hid (∀ w', Ext w w' → _) := fun w' hx => latinCheck_any (sqAt sqs k).1 a _ c (sqAt sqs k).2 w' rfl (hx.reads r1)
      obtain ⟨f, hf⟩ : ∃ f, latinFaultOf (sqAt sqs k).1 (sqAt sqs k).2 = f := ⟨_, rfl⟩
      have HF : Hid (sqFault sqs k = f) := hf
      rw [hf] at HLC
      obtain ⟨m, hm⟩ : ∃ m, (sqAt sqs k).1 = m := ⟨_, rfl⟩
      obtain ⟨l, hll⟩ : ∃ l, (sqAt sqs k).2.length = l := ⟨_, rfl⟩
      rw [hm] at k1 HLC
      rw [hll] at k2 HLC
      clear r1 l1 hf hm hll
      have HX1 : Hid (Ext w (wr.alloc (.cells #[.int .i64 m, .slice a l c] 54))) := HX.out.alloc _
      by_cases hf0 : f = 0
      · subst hf0
        go_wp2_with (go_at_call 27; refine Calls.mono (HLC.out _ HX1.out) ?_; rintro e w1 ⟨rfl, hx⟩; have HX2 := Lib.hid (HX1.out.trans hx); clear hx)
        go_roundw
        case rel => exact ⟨k + 1, by omega, by go_num, HX2.out, fun i hi => by
          rcases Nat.lt_succ_iff_lt_or_eq.1 hi with h | rfl
          · exact HA.out i h
          · exact HF.out⟩
        case measure => simp [intOf]; omega
      · have b2 : (f != 0) = true := by rw [bne_iff_ne]; exact hf0
        have HF0 := Lib.hid hf0
        clear hf0
        go_wp2_with (go_at_call 27; refine Calls.mono (HLC.out _ HX1.out) ?_; rintro e w1 ⟨rfl, hx⟩; have HX2 := Lib.hid (HX1.out.trans hx); clear hx)
        exact bodyPost_ret (v := .tuple #[.slice none 0 0, .int .i64 f]) (by simp [results, Tryd.results11, go_sem]) rfl ⟨⟨_, f, rfl, .inr (.inl ⟨by rw [HL.out]; exact h1, by rw [HL.out]; exact h6, k, by rw [HL.out]; exact hlt, HA.out, HF.out, HF0.out⟩), fun _ => rfl, fun _ h => absurd h HF0.out⟩, HX2.out⟩
    · obtain rfl : n = k := by omega
      obtain ⟨a, c, k1, _, _, _⟩ := HC.out 0 (by rw [HL.out]; omega)
      rw [← HX.out.cell hb, HZ.out, Nat.zero_mul, Nat.add_zero] at k1
      have HSA : Hid (∀ w' r, Ext w w' → Blk w' r #[.int .i64 z] 3 → _) := fun w' r hx hbl => sideAny_walk z r (some ⟨b, off, none⟩) n cap sqs w' HL.out (by unfold maxLen; omega) (.inr ⟨b, off, rfl, Nat.lt_of_lt_of_le hb hx.size, fun j hj => by
        obtain ⟨a, c, k1, k2, k3, k4⟩ := HC.out j hj
        exact ⟨a, c, (hx.cell hb).trans k1, (hx.cell hb).trans k2, hx.reads k3, k4⟩⟩) hbl
      obtain ⟨v, hv⟩ : ∃ v, (sqs.any fun x => x.1 != z) = v := ⟨_, rfl⟩
      have HV := Lib.hid hv
      rw [hv] at HSA
      clear hv
      have HX1 : Hid (Ext w (wr.alloc (.cells #[.int .i64 z] 3))) := HX.out.alloc _
      have HB1 : Hid (Blk (wr.alloc (.cells #[.int .i64 z] 3)) wr.heap.size #[.int .i64 z] 3) := Blk.new _ _ _
      go_wp2_with fail
      refine Calls.mono (HSA.out _ _ HX1.out HB1.out) ?_
      rintro e w1 ⟨rfl, hx⟩
      have HX2 := Lib.hid (HX1.out.trans hx)
      have HB2 := Lib.hid (HB1.out.ext hx)
      clear hx k1
      cases v with
      | true =>
        have HP : Hid (SqIs sqs 2) := .inr (.inr (.inl ⟨by rw [HL.out]; exact h1, by rw [HL.out]; exact h6, fun i hi => HA.out i (by rw [HL.out] at hi; exact hi), by rw [HZ.out]; exact HV.out, rfl⟩))
        go_wp2
        exact bodyPost_ret (v := .tuple #[.slice none 0 0, .int .i64 2]) (by simp [results, Tryd.results11, go_sem]) rfl ⟨⟨_, 2, rfl, HP.out, fun _ => rfl, fun _ h => by cases h⟩, HX2.out⟩
      | false =>
        have HP : Hid (SqIs sqs 0) := .inr (.inr (.inr ⟨by rw [HL.out]; exact h1, by rw [HL.out]; exact h6, fun i hi => HA.out i (by rw [HL.out] at hi; exact hi), by rw [HZ.out]; exact HV.out, rfl⟩))
        obtain ⟨N, hS⟩ := HP.out.zero
        have HS := Lib.hid hS
        obtain rfl : z = (N : Int) := by rw [← HZ.out]; exact hS.side 0 (by rw [HL.out]; exact h1)
        have hL0 := hS.latin 0 (by rw [HL.out]; exact h1)
        have hN1 := hL0.one
        have hN8 := hL0.big
        clear hS hL0
        obtain ⟨nb, hnb⟩ : ∃ nb, nb = wr.heap.size := ⟨_, rfl⟩
        rw [← hnb] at HB2 ⊢
        have hk0 := HB2.out.one
        obtain ⟨M, hM⟩ : ∃ M, M = N * N := ⟨_, rfl⟩
        have hM' : (N : Int) * (N : Int) = M := by rw [hM, Int.natCast_mul]
        have hM64 : M ≤ 64 := by rw [hM]; exact Nat.mul_le_mul hN8 hN8
        have HM := Lib.hid hM
        have HSZ := HX2.out.size
        clear hnb hM HB1 HX1 HSA
        go_wp2
        have H0 : Hid (OwnTbl w1 w1 (.slice none 0 0) (runsUp N sqs 0)) := OwnTbl.nil (Ext.refl w1)
        go_loopw [8, 43] (fun y a wr => ∃ t : Nat, t ≤ M ∧ a = .int .i64 t ∧ OwnTbl w1 wr y (runsUp N sqs t)) (fun _ a _ => M - (intOf a).toNat)
        case atStart => exact ⟨0, by omega, rfl, H0.out⟩
        case round =>
          obtain ⟨t, ht, rfl, hT⟩ := hrel
          clear H0 hk0
          obtain ⟨ao2, n2, cap2, rfl, htb, hx⟩ := hT
          have hn2 : n2 ≤ t := by rw [← htb.length]; simp [runsUp]
          have HTB := Lib.hid htb
          have HXT := Lib.hid hx
          clear htb hx
          have hk1 := (HB2.out.ext HXT.out).one
          by_cases htM : t < M
          · have hdn : t / N < N := Nat.div_lt_of_lt_mul (by have := HM.out; omega)
            have hmn : t % N < N := Nat.mod_lt t hN1
            obtain ⟨d, hd⟩ : ∃ d, t / N = d := ⟨_, rfl⟩
            obtain ⟨m, hm⟩ : ∃ m, t % N = m := ⟨_, rfl⟩
            have hd' : (t : Int) / N = d := by rw [← hd]; simp
            have hm' : (t : Int) % N = m := by rw [← hm]; simp
            have HRU : Hid (runUp N sqs t 0 = [(d : Int), (m : Int)]) := by show _ = _; unfold runUp; rw [hd, hm]; rfl
            clear hd hm
            go_wp2_with fail
            go_region
            have HI0 : Hid (OwnInts wr (wr.alloc (.cells #[.int .i64 d, .int .i64 m] 3)).drew (.slice (some ⟨wr.heap.size, 0, none⟩) 2 2) (runUp N sqs t 0)) := by
              rw [HRU.out]
              exact ⟨_, _, _, rfl, World.ownsRow.drew (RowOf.lit _ wr #[.int .i64 d, .int .i64 m] (by simp [maxLen])), ((Ext.refl wr).alloc _).drew⟩
            obtain ⟨wo, rfl⟩ : ∃ wo : World, wo = wr := ⟨_, rfl⟩
            clear hd' hm'
            go_wp2
            go_loopw [10, 55] (fun y a wr => ∃ j : Nat, j ≤ n ∧ a = .int .i64 j ∧ OwnInts wo wr y (runUp N sqs t j)) (fun _ a _ => n - (intOf a).toNat)
            case atStart => exact ⟨0, by omega, rfl, HI0.out⟩
            case round =>
              obtain ⟨j, hj, rfl, hI⟩ := hrel
              clear HI0
              obtain ⟨ao3, n3, cap3, rfl, hrow, hx⟩ := hI
              have hn3 : n3 ≤ j + 2 := by have := hrow.length; rw [ints_length, runUp_len N sqs t j (by rw [HL.out]; exact hj)] at this; omega
              have HROW := Lib.hid hrow
              have HXI := Lib.hid hx
              have hsz1 := HXT.out.size
              have hsz2 := hx.size
              clear hrow hx
              by_cases hjn : j < n
              · obtain ⟨a, c, k1, k2, r1, l1⟩ := HC.out j (by rw [HL.out]; exact hjn)
                have HXX := Lib.hid ((HX2.out.trans HXT.out).trans HXI.out)
                have hlen := (HS.out.latin j (by rw [HL.out]; exact hjn)).len
                rw [← HM.out] at hlen
                obtain ⟨b3, o3, rfl, hb3, hc3⟩ := Reads.int r1 (by rw [hlen]; omega)
                have k3 := (HXX.out.cell hb3).trans (hc3 t (by rw [hlen]; exact htM))
                rw [← HXX.out.cell hb] at k1 k2
                rw [HS.out.side j (by rw [HL.out]; exact hjn)] at k1
                have HRS : Hid (runUp N sqs t (j + 1) = runUp N sqs t j ++ [nth (sqAt sqs j).2 t]) := runUp_succ (by rw [HL.out]; exact hjn)
                obtain ⟨x, hx⟩ : ∃ x, nth (sqAt sqs j).2 t = x := ⟨_, rfl⟩
                rw [hx] at k3 HRS
                rw [hlen] at k2
                have hlb : b3 < wr.heap.size := Nat.lt_of_lt_of_le hb3 HXX.out.size
                clear hx hc3 r1 l1 hlen
                have HXA : Hid (Ext wo ((wr.alloc (.cells #[.int .i64 N, .slice (some ⟨b3, o3, none⟩) M c] 54)).alloc (.cells #[.int .i64 x] 3))) := (HXI.out.alloc _).alloc _
                go_wp2_with (at_builtin; refine wpList_app eInt rfl (.tmp 59) (.tmp 65) rfl wo.heap.size _ _ _ _ (by rfl) ((((Ext.refl wr).alloc _).alloc _).row HROW.out) ⟨wr.heap.size + 1, 0, none⟩ (.int .i64 x) (by rfl) (by rw [World.cell?_alloc_at _ _ _ _ (by simp)]; rfl) rfl (by omega) (by simp; omega) ?_; intro ao4 cap4 w4 hr4 hg4 hb4; have HR4 := Lib.hid hr4; have HB4 := Lib.hid (hb4 _ _ HXA.out (Nat.le_refl _)); clear hr4 hg4 hb4)
                go_roundw
                case rel => exact ⟨j + 1, by omega, by go_num, by rw [HRS.out]; exact ⟨_, _, _, rfl, by rw [ints_append]; exact HR4.out, HB4.out⟩⟩
                case measure => simp [intOf]; omega
              · obtain rfl : n = j := by omega
                have HRW : Hid (InnerX wr (fun b => w1.heap.size ≤ b) (Value.slice ao2 n2 cap2).ownBlock (.slice ao3 n3 cap3) (runUp N sqs t n)) := HROW.out.innerX _ _ (fun b hb => by omega) (fun b hb => (HTB.out.block b hb).2) (by unfold maxLen; omega)
                have HRS := Lib.hid (runsUp_succ N sqs t)
                rw [HL.out] at HRS
                go_wp2_with (at_builtin; (refine wpList_appRow (w := wr) rfl (.tmp 68) (.tmp 70) rfl (fun b => w1.heap.size ≤ b) w1.heap.size (by rfl) (HTB.out.ext HXI.out) (by rfl) HRW.out (by omega) (by omega) ?_; intro ao4 cap4 w4 hr4 hg4 hb4; have HR4 := Lib.hid hr4; have HB4 := Lib.hid (hb4 _ _ (HXT.out.trans HXI.out) (Nat.le_refl _)); clear hr4 hg4 hb4))
                go_roundw
                case rel => exact ⟨t + 1, by omega, by go_num, by rw [HRS.out]; exact ⟨_, _, _, rfl, HR4.out, HB4.out⟩⟩
                case measure => simp [intOf]; omega
          · obtain rfl : M = t := by omega
            go_wp2
            exact bodyPost_ret (v := .tuple #[.slice ao2 n2 cap2, .int .i64 0]) (by simp [results, Tryd.results11, go_sem]) rfl ⟨⟨_, 0, rfl, HP.out, fun h => absurd rfl h, fun N' _ hS' => by
              obtain rfl : N' = N := by have h3 := hS'.side 0 (by rw [HL.out]; exact h1); have h2 := HS.out.side 0 (by rw [HL.out]; exact h1); omega
              rw [← runsUp_all, ← HM.out]
              exact OwnTbl.back HX2.out ⟨_, _, _, rfl, HTB.out, HXT.out⟩⟩, HX2.out.trans HXT.out⟩

end Go.Proofs.YtjkiaglfefpocaaDoor
