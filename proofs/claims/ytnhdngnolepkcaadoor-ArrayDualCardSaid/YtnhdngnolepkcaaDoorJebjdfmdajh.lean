/- What slices.Clone answers at ints. Conditions: the list is not empty and can be read. -/
import Derived.Test.YtnhdngnolepkcaaDoorJpoobehflpg
import Derived.Lib.SliceRun
import Derived.Test.YtnhdngnolepkcaaDoorJdapojcpmko
import Derived.Test.YtnhdngnolepkcaaDoorJdjapdnilio
import Derived.Test.YtnhdngnolepkcaaDoorJdkilobdlmh
import Derived.Test.YtnhdngnolepkcaaDoorJmanplccnef
import Derived.Deep.LoopGhost
import Derived.Test.YtnhdngnolepkcaaDoorJmnckmbkdli
import Derived.Laws.EntriesVeiled
namespace Go.Proofs.YtnhdngnolepkcaaDoor
open Go.RowKit

set_option maxHeartbeats 400000 in
theorem clone_any (b off n cap : Nat) (xs : List Int) (w : World) (hn : xs.length = n) (_h0 : 0 < n) (hbig : n ≤ 1099511627776) (hlt : b < w.heap.size) (hc : ∀ j u, (ints xs)[j]? = some u → w.cell? ⟨b, off + j, none⟩ = some u) :
    Calls Tryd.prog 25 #[.slice (some ⟨b, off, none⟩) n cap] w fun e w' =>
      ∃ ao' cap', e = .returned (.slice ao' n cap') ∧ RowOf 3 w' w.heap.size ao' n cap' (ints xs) ∧ Below w.heap.size w w' := by
  have HN := Lib.hid hn
  have HC : Hid (∀ j u, (ints xs)[j]? = some u → (w.alloc (.cells #[] 3)).cell? ⟨b, off + j, none⟩ = some u) := fun j u hu => by
    rw [World.cell?_alloc_past _ _ _ hlt]; exact hc j u hu
  have hq := Lib.run_eql_slice_nil (P := Tryd.prog) w 22 3 (some ⟨b, off, none⟩) n cap 0 0 Tryd.underlying22
  clear hn hc
  go_enter Tryd.func25, Tryd.ntmps25
  go_wp2_with (at_builtin; refine wpList_appList eInt rfl (.tmp 5) (.tmp 6) rfl w.heap.size rfl (RowOf.lit 3 w #[] (by decide)) rfl (by rw [ints_length]; exact HN.out) HC.out (ints_oneCell' xs) (by simp; omega) (by simp) ?_; intro ao' cap' w1 hr1 hg1 hb1)
  go_ret
  exact ⟨ao', cap', by simp, by simpa using hr1, hb1 _ _ ((Below.refl _ _).alloc (Nat.le_refl _) _) (Nat.le_refl _)⟩

end Go.Proofs.YtnhdngnolepkcaaDoor

/- array.Linear's inner function: all lists behind a beginning, one by one. No conditions but what the theorem says. -/
namespace Go.Proofs.YtnhdngnolepkcaaDoor
open Go.RowKit
set_option linter.unusedVariables false

/-- What stays as it is: the field's box lies at s, the length's behind it; the other boxes from S on (the order, what comes out, the list's cells and its box, the function). -/
structure LinK where
  s : Nat
  S : Nat
  p : Nat
  k : Nat
  n : Nat
  q : Nat
  ao : Option Addr
  cap : Nat
  bo : Option Addr
  bl : Nat
  bc : Nat

def LinK.caps (K : LinK) : Array Value := #[.pointer (some ⟨K.s + 1, 0, none⟩), .pointer (some ⟨K.s, 0, none⟩), .pointer (some ⟨K.S, 0, none⟩), .pointer (some ⟨K.S + 4, 0, none⟩), .pointer (some ⟨K.S + 2, 0, none⟩), .pointer (some ⟨K.S + 1, 0, none⟩), .pointer (some ⟨K.S + 5, 0, none⟩)]
def LinK.fn (K : LinK) : Value := .func (.func 23) #[] #[.pointer (some ⟨K.s + 1, 0, none⟩), .pointer (some ⟨K.s, 0, none⟩), .pointer (some ⟨K.S, 0, none⟩), .pointer (some ⟨K.S + 4, 0, none⟩), .pointer (some ⟨K.S + 2, 0, none⟩), .pointer (some ⟨K.S + 1, 0, none⟩), .pointer (some ⟨K.S + 5, 0, none⟩)]

/-- The world of the filling. -/
structure LinSt (K : LinK) (w1 wr : World) (f : Nat → Nat) (oo : Option Addr) (on oc : Nat) (xss : List (List Int)) : Prop where
  ext : Ext w1 wr
  s0 : w1.heap.size = K.S
  lt : K.s + 2 ≤ K.S
  big : K.S + 6 ≤ wr.heap.size
  bf : Blk wr K.s #[.int .i64 K.p, .int .i64 K.k, .slice K.ao K.k K.cap] 24
  bn : Blk wr (K.s + 1) #[.int .i64 K.n] 3
  bb : Blk wr K.S #[.slice K.bo K.bl K.bc] 25
  bq : Blk wr (K.S + 1) #[.int .i64 K.q] 3
  bo : Blk wr (K.S + 2) #[.slice oo on oc] 25
  lst : RowOf 3 wr K.S (some ⟨K.S + 3, 0, none⟩) K.n K.n (ints (tab (fun j => ((f j : Nat) : Int)) K.n))
  bl : Blk wr (K.S + 4) #[.slice (some ⟨K.S + 3, 0, none⟩) K.n K.n] 22
  bF : Blk wr (K.S + 5) #[K.fn] 48
  tbl : Tbl wr (fun b => K.S + 6 ≤ b) (K.S + 6) oo on oc xss
namespace LinSt
variable {K : LinK} {w1 wr w' : World} {f : Nat → Nat} {oo : Option Addr} {on oc : Nat} {xss : List (List Int)}
theorem carry (h : LinSt K w1 wr f oo on oc xss) (hx : Ext wr w') : LinSt K w1 w' f oo on oc xss :=
  ⟨h.ext.trans hx, h.s0, h.lt, Nat.le_trans h.big hx.size, h.bf.ext hx, h.bn.ext hx, h.bb.ext hx, h.bq.ext hx, h.bo.ext hx, hx.row h.lst, h.bl.ext hx, h.bF.ext hx, h.tbl.ext hx⟩
/-- A cell of the list is set. -/
theorem put (h : LinSt K w1 wr f oo on oc xss) {j : Nat} (hj : j < K.n) (v : Nat) : LinSt K w1 (wr.setCell ⟨K.S + 3, j, none⟩ (.int .i64 (v : Int))) (fun i => if i = j then v else f i) oo on oc xss := by
  have h0 := h.s0
  have h1 := h.lt
  refine ⟨h.ext.set (by simp; omega) _, h.s0, h.lt, by simpa [World.setCell] using h.big, h.bf.beside _ (by simp; omega) _, h.bn.beside _ (by simp; omega) _, h.bb.beside _ (by simp) _, h.bq.beside _ (by simp) _, h.bo.beside _ (by simp) _, ?_, h.bl.beside _ (by simp) _, h.bF.beside _ (by simp) _, h.tbl.beside _ (by simp) (by simp) _⟩
  have h2 := h.lst.stored j (.int .i64 (v : Int))
  rw [show (ints (tab (fun j => ((f j : Nat) : Int)) K.n)).set j (.int .i64 (v : Int)) = ints (tab (fun i => (((if i = j then v else f i) : Nat) : Int)) K.n) from by
    rw [tab_upd (fun j => ((f j : Nat) : Int)) K.n j v hj]
    congr 1
    exact tab_congr _ _ _ fun i _ => by unfold upd; split <;> rfl] at h2
  exact h2
/-- What comes out is stored. -/
theorem out (h : LinSt K w1 wr f oo on oc xss) {oo' : Option Addr} {on' oc' : Nat} {yss : List (List Int)} (ht : Tbl wr (fun b => K.S + 6 ≤ b) (K.S + 6) oo' on' oc' yss) : LinSt K w1 (wr.setCell ⟨K.S + 2, 0, none⟩ (.slice oo' on' oc')) f oo' on' oc' yss := by
  have h0 := h.s0
  have h1 := h.lt
  exact ⟨h.ext.set (by simp; omega) _, h.s0, h.lt, by simpa [World.setCell] using h.big, h.bf.beside _ (by simp; omega) _, h.bn.beside _ (by simp; omega) _, h.bb.beside _ (by simp) _, h.bq.beside _ (by simp) _, h.bo.set 0 _,
    h.lst.kept fun b hb => Below.heap_setCell _ _ _ _ (by cases hb; simp), h.bl.beside _ (by simp) _, h.bF.beside _ (by simp) _, ht.beside _ (by simp) (by simp) _⟩
/-- .. when only what comes out has changed. -/
theorem out2 (h : LinSt K w1 wr f oo on oc xss) (hx : Below (K.S + 6) wr w') {oo' : Option Addr} {on' oc' : Nat} {yss : List (List Int)} (ht : Tbl w' (fun b => K.S + 6 ≤ b) (K.S + 6) oo' on' oc' yss) : LinSt K w1 (w'.setCell ⟨K.S + 2, 0, none⟩ (.slice oo' on' oc')) f oo' on' oc' yss := by
  have h0 := h.s0
  have h1 := h.lt
  have hk : ∀ {b : Nat} {cs : Array Value} {t : TypeId}, b < K.S + 6 → Blk wr b cs t → Blk w' b cs t := fun hb h => (hx.block _ hb).trans h
  exact ⟨Below.setCell (Below.trans h.ext (hx.mono (by omega))) (by simp; omega) _, h.s0, h.lt, by have := hx.size; have := h.big; simpa [World.setCell] using (by omega), (hk (by omega) h.bf).beside _ (by simp; omega) _, (hk (by omega) h.bn).beside _ (by simp; omega) _, (hk (by omega) h.bb).beside _ (by simp) _, (hk (by omega) h.bq).beside _ (by simp) _, (hk (by omega) h.bo).set 0 _,
    (h.lst.kept fun b hb => by cases hb; exact hx.block _ (by show K.S + 3 < K.S + 6; omega)).kept fun b hb => Below.heap_setCell _ _ _ _ (by cases hb; simp), (hk (by omega) h.bl).beside _ (by simp) _, (hk (by omega) h.bF).beside _ (by simp) _, ht.beside _ (by simp) (by simp) _⟩
end LinSt

/-- A call whose value is told by its post, as a step of a region that draws. -/
theorem step_callV {w : World} {ops : Array Oper} {o : Oper} {a : Act} {K : Act → World → Prop} {Q : Exit → Act → World → Prop} {El : Prop} {f : FuncId} {xs : Array Operand} {ats : Array TypeId} {args : Array Value} {R : Value → World → Prop}
    (hgd : o.guard = none) (ho : o.op = .call { callee := .value (.func f), args := xs, argTypes := ats }) (hen : ∀ (args : Array Value) (w : World), (callFunc f args).run Tryd.prog w = .ok (.enter f args) w)
    (ha : xs.map a.eval = args) (hc : Calls Tryd.prog f args w fun e w' => ∃ v, e = .returned v ∧ R v w') (h : ∀ v w', R v w' → K (a.put o.dst v) w') :
    if Region.wanted o (yielded ops a.tmps) = true then Oper.wp Tryd.prog o a w K Q else El := by
  have hrun : (execOp a.eval o).run Tryd.prog w = .ok (.enter f args) w := by
    obtain ⟨dst, op, ty, pos, after, guard⟩ := o
    simp only at ho
    subst ho
    show (callFunc f (#[] ++ xs.map a.eval ++ #[])).run Tryd.prog w = _
    rw [ha, hen]
    simp
  have hw : Region.wanted o (yielded ops a.tmps) = true := by simp [Region.wanted, hgd]
  rw [if_pos hw]
  unfold Oper.wp
  rw [hrun, Oper.upon_enter]
  refine hc.mono ?_
  rintro e w' ⟨v, rfl, hr⟩
  exact h v w' hr

/-- .. a row is appended to a table, as a step of a region that draws. -/
theorem step_appRow {w : World} {ops : Array Oper} {o : Oper} {a : Act} {K : Act → World → Prop} {Q : Exit → Act → World → Prop} {El : Prop}
    (hgd : o.guard = none) (s x : Operand) (ho : o.op = .call { callee := .builtin .append, args := #[s, x], argTypes := #[25, 25] })
    (P : Nat → Prop) (B : Nat) {oo : Option Addr} {n cap : Nat} {xss : List (List Int)} {y : Value} {xs : List Int} (hs : a.eval s = .slice oo n cap) (hown : Tbl w P B oo n cap xss)
    (hy : InnerX w P (Value.slice oo n cap).ownBlock y xs) (ad : Addr) (hx : a.eval x = .slice (some ad) 1 1) (hc : w.cell? ad = some y) (hn : n ≤ 1099511627776) (hB : B ≤ w.heap.size)
    (h : ∀ ao' cap' w', Tbl w' P B ao' (n + 1) cap' (xss ++ [xs]) → (∀ B0 w0, Below B0 w0 w → B0 ≤ B → Below B0 w0 w') → K (a.put o.dst (.slice ao' (n + 1) cap')) w') :
    if Region.wanted o (yielded ops a.tmps) = true then Oper.wp Tryd.prog o a w K Q else El := by
  obtain ⟨vs, h1, h2⟩ := hown
  have hone : y.oneCell' = true := by obtain ⟨_, _, rfl, _⟩ := hy; rfl
  refine step_one eRow hgd s x ho B hs h1 ad y hx hc hone hn hB fun ao' cap' w' hr hg hat => ?_
  refine h ao' cap' w' ⟨vs ++ [y], hr, ?_⟩ fun B0 w0 hb hB0 => Below.grown hb hg (Nat.le_trans hB0 hB) fun k hk => by have := (h1.block k hk).1; omega
  have h3 : Rows2X w P (Value.slice oo n cap).ownBlock (vs ++ [y]) (xss ++ [xs]) := h2.snoc hy
  exact ⟨h3.1, fun j v hv => (h3.2 j v hv).grown hg hat⟩

/-- What the filling does: behind a beginning, all that is marked comes out in order. -/
def FillIs (K : LinK) (w1 : World) (T : Nat → Bool) (r : Nat) : Prop :=
  ∀ (at' : Nat) (f : Nat → Nat) (wr : World) (oo : Option Addr) (on oc : Nat) (xss : List (List Int)), at' + r = K.n → (∀ j, j < K.n → f j < K.q) → LinSt K w1 wr f oo on oc xss → xss.length ≤ shutTo K.q f at' * K.q ^ r →
    Calls Tryd.prog 23 #[.int .i64 at', .pointer (some ⟨K.s + 1, 0, none⟩), .pointer (some ⟨K.s, 0, none⟩), .pointer (some ⟨K.S, 0, none⟩), .pointer (some ⟨K.S + 4, 0, none⟩), .pointer (some ⟨K.S + 2, 0, none⟩), .pointer (some ⟨K.S + 1, 0, none⟩), .pointer (some ⟨K.S + 5, 0, none⟩)] wr fun e w' =>
      e = .returned (.tuple #[]) ∧ ∃ (g : Nat → Nat) (oo' : Option Addr) (on' oc' : Nat), (∀ j, j < at' → g j = f j) ∧ (∀ j, j < K.n → g j < K.q) ∧ LinSt K w1 w' g oo' on' oc' (xss ++ ((codesR T (shutTo K.q f at' * K.q ^ r) (K.q ^ r)).map fun c => nrow (opn K.q K.n c) K.n))

set_option maxHeartbeats 4000000 in
theorem fill_leaf (K : LinK) (w1 : World) (T : Nat → Bool) (hq : 0 < K.q) (hn6 : K.n ≤ 6) (hn1 : 1 ≤ K.n) (hb : K.q ^ K.n ≤ 4096)
    (hh : ∀ (f : Nat → Nat) (W : World), Ext w1 W → (∀ j, j < K.n → f j < K.q) → Reads W (some ⟨K.S + 3, 0, none⟩) (ints (tab (fun j => ((f j : Nat) : Int)) K.n)) → Calls Tryd.prog 24 #[.agg #[.int .i64 K.p, .int .i64 K.k, .slice K.ao K.k K.cap], .int .i64 K.n, .slice K.bo K.bl K.bc, .slice (some ⟨K.S + 3, 0, none⟩) K.n K.n] W fun e w' => e = .returned (.tuple #[.bool (T (shutN K.q K.n f)), .int .i64 0]) ∧ Ext W w') :
    FillIs K w1 T 0 := by
  intro at' f wr oo on oc xss han hf hst hle
  obtain rfl : at' = K.n := by omega
  have HH := Lib.hid (hh f wr hst.ext hf hst.lst.reads)
  have HST := Lib.hid hst
  have HF := Lib.hid hf
  have k1 := hst.bn.one
  have k2 := hst.bf.three
  have k3 := hst.bb.one
  have k4 := hst.bl.one
  have hcl : shutTo K.q f K.n < K.q ^ K.n := shutTo_lt hq K.n hf
  have hxl : xss.length ≤ 4096 := by rw [Nat.pow_zero, Nat.mul_one] at hle; omega
  have hon : xss.length = on := hst.tbl.length
  have HC : Hid (codesR T (shutTo K.q f K.n * K.q ^ 0) (K.q ^ 0) = if T (shutN K.q K.n f) = true then [shutN K.q K.n f] else []) := by
    show _ = _; rw [Nat.pow_zero, Nat.mul_one, codesR_one]; rfl
  have HRW : Hid (nrow (opn K.q K.n (shutN K.q K.n f)) K.n = tab (fun j => ((f j : Nat) : Int)) K.n) := by
    exact tab_congr (fun j => ((opn K.q K.n (shutN K.q K.n f) j : Nat) : Int)) (fun j => ((f j : Nat) : Int)) K.n fun j hj => by rw [opn_shut hq hf hj]
  rw [HC.out]
  obtain ⟨c, hc⟩ : ∃ c, shutN K.q K.n f = c := ⟨_, rfl⟩
  rw [hc] at HH HRW ⊢
  obtain ⟨tc, htc⟩ : ∃ tc, T c = tc := ⟨_, rfl⟩
  rw [htc] at HH ⊢
  clear hh hf hst hle HC hc htc hcl
  go_enter Tryd.func23, Tryd.ntmps23
  go_wp2_with fail
  refine Calls.mono HH.out ?_
  rintro e w2 ⟨rfl, hx⟩
  have HST2 := Lib.hid (HST.out.carry hx)
  clear hx k1 k2 k3 k4
  cases tc with
  | false =>
    go_wp2
    exact bodyPost_ret (v := .tuple #[]) (by simp [results, Tryd.results23, go_sem]) rfl ⟨rfl, f, fun _ _ => rfl, HF.out, oo, on, oc, by first | exact HST2.out | (rw [List.append_nil]; exact HST2.out) | (rw [if_neg (by simp), List.map_nil, List.append_nil]; exact HST2.out)⟩
  | true =>
    have k5 := HST2.out.bo.one
    have k6 := HST2.out.bl.one
    have hS0 := HST2.out.s0
    have hbg := HST2.out.big
    have hxon : on ≤ 4096 := by omega
    have HCL := Lib.hid (clone_any (K.S + 3) 0 K.n K.n (tab (fun j => ((f j : Nat) : Int)) K.n) w2.drew (by simp [tab_length]) (by omega) (by omega) (by simp; omega) (fun j u hu => by
      have h := HST2.out.lst.reads
      rcases h with h | ⟨b, off, ha, hlt, hc⟩
      · rw [h] at hu; cases hu
      · cases ha; exact hc j u hu))
    have HEN : Hid (∀ (args : Array Value) (w : World), (callFunc 25 args).run Tryd.prog w = .ok (.enter 25 args) w) := fun _ _ => rfl
    have HCC : Hid (Calls Tryd.prog 25 #[.slice (some ⟨K.S + 3, 0, none⟩) K.n K.n] w2.drew fun e w' => ∃ v, e = .returned v ∧ ∃ ao' cap', v = .slice ao' K.n cap' ∧ RowOf 3 w' w2.heap.size ao' K.n cap' (ints (tab (fun j => ((f j : Nat) : Int)) K.n)) ∧ Ext w2.drew w') := HCL.out.mono fun _ _ ⟨ao', cap', h1, h2, h3⟩ => ⟨_, h1, ao', cap', rfl, h2, h3⟩
    clear hS0
    go_upto_region 3 with fail
    go_region_law (first
      | (refine step_callV (f := 25) (xs := #[.tmp 25]) (ats := #[22]) (args := #[.slice (some ⟨K.S + 3, 0, none⟩) K.n K.n]) (R := fun v w' => ∃ ao' cap', v = .slice ao' K.n cap' ∧ RowOf 3 w' w2.heap.size ao' K.n cap' (ints (tab (fun j => ((f j : Nat) : Int)) K.n)) ∧ Ext w2.drew w') ?_ ?_ HEN.out ?_ HCC.out ?_; (next => rfl); (next => rfl); (next => simp [Act.eval]; done); rintro v w3 ⟨ao3, cap3, rfl, hr3, hx3⟩; have HST3 := Lib.hid (HST2.out.carry ((Ext.refl w2).drew.trans hx3)); have HR3 := Lib.hid hr3; have hsz3 : w2.heap.size ≤ w3.heap.size := hx3.size; have k7 := HST3.out.bo.one; have k8 := (HST3.out.bo.alloc (.cells #[.slice ao3 K.n cap3] 22)).one; clear hr3 hx3)
      | (refine step_appRow rfl (.tmp 24) (.tmp 27) rfl (fun b => K.S + 6 ≤ b) (K.S + 6) (by simp [Act.eval]; try exact ⟨rfl, rfl, rfl⟩) (HST3.out.tbl.ext ((Ext.refl w3).alloc (.cells #[.slice ao3 K.n cap3] 22))) (y := .slice ao3 K.n cap3) ((((Ext.refl w3).alloc (.cells #[.slice ao3 K.n cap3] 22)).row HR3.out).innerX _ _ (fun b hb => by omega) (fun b hb => by have := (HST2.out.tbl.block b hb).2; omega) (by unfold maxLen; omega)) ⟨w3.heap.size, 0, none⟩ (by simp [Act.eval]) (by simp [World.cell?_alloc_at]) (by omega) (by simp; omega) ?_; intro ao4 cap4 w4 ht4 hb4; have HST3a := Lib.hid (HST3.out.carry ((Ext.refl w3).alloc (.cells #[.slice ao3 K.n cap3] 22))); have HB4 := Lib.hid (hb4 (K.S + 6) _ (Below.refl _ _) (Nat.le_refl _)); have HBO4 : Hid (Blk w4 (K.S + 2) _ _) := (HB4.out.block _ (by omega)).trans HST3a.out.bo; have k9 := HBO4.out.one; have k10 := HBO4.out.f 0; have HT4 := Lib.hid ht4; clear ht4 hb4))
    all_goals
      have HO := Lib.hid (HST3a.out.out2 HB4.out HT4.out)
      go_wp2
      exact bodyPost_ret (v := .tuple #[]) (by simp [results, Tryd.results23, go_sem]) rfl ⟨rfl, f, fun _ _ => rfl, HF.out, ao4, on + 1, cap4, by rw [HRW.out]; exact HO.out⟩

theorem mul_pow_s (q r : Nat) : q * q ^ r = q ^ (r + 1) := by rw [Nat.pow_succ, Nat.mul_comm]

set_option maxHeartbeats 4000000 in
theorem fill_step (K : LinK) (w1 : World) (T : Nat → Bool) (hq : 0 < K.q) (hn6 : K.n ≤ 6) (hn1 : 1 ≤ K.n) (hb : K.q ^ K.n ≤ 4096) (r : Nat) (hr : FillIs K w1 T r) : FillIs K w1 T (r + 1) := by
  intro at' f wr oo on oc xss han hf hst hle
  have HR := Lib.hid hr
  have HST := Lib.hid hst
  have HF := Lib.hid hf
  have k1 := hst.bn.one
  have hne : ((at' : Int) == (K.n : Int)) = false := by rw [beq_eq_false_iff_ne]; omega
  have kq := hst.bq.one
  clear hf hst
  obtain ⟨P, hP⟩ : ∃ P, shutTo K.q f at' = P := ⟨_, rfl⟩
  have HP := Lib.hid hP
  have HLE := Lib.hid hle
  have HAN := Lib.hid han
  have hatn : at' < K.n := by omega
  have hatn' : (at' : Int) < (K.n : Int) := by omega
  have hq64 : K.q ≤ 4096 := Nat.le_trans (by have := Nat.pow_le_pow_right hq hn1; rwa [Nat.pow_one] at this) hb
  clear hle han hP hr hb
  go_enter Tryd.func23, Tryd.ntmps23
  go_upto_region 5 with fail
  go_loopg [30] K.q (fun rr x wx => ∃ d : Nat, d + rr = K.q ∧ x = .int .i64 d ∧ Hid (∃ g oo' on' oc', (∀ j, j < at' → g j = f j) ∧ (∀ j, j < K.n → g j < K.q) ∧ LinSt K w1 wx g oo' on' oc' (xss ++ ((codesR T (P * K.q ^ (r + 1)) (d * K.q ^ r)).map fun c => nrow (opn K.q K.n c) K.n))))
  case atStart => exact ⟨0, by omega, rfl, f, oo, on, oc, fun _ _ => rfl, HF.out, by rw [Nat.zero_mul, codesR_zero, List.map_nil, List.append_nil]; exact HST.out⟩
  case round =>
    obtain ⟨d, hdr, rfl, hd⟩ := hrel
    obtain ⟨g, oo2, on2, oc2, hgf, hgq, hst⟩ := hd.out
    cases gk with
    | succ r1 =>
      have hdl : (d : Int) < (K.q : Int) := by omega
      have hdq : d < K.q := by omega
      have HDP : Hid (d + 1 + r1 = K.q) := by show _ = _; omega
      have k2 := hst.bl.one
      have k3 := hst.lst.known.2.2.2 at'
      have k5 : wr.cell? ⟨K.S + 3, at', none⟩ = some (.int .i64 (g at' : Int)) := by
        have := hst.lst.known.2.2.1 at' _ (ints_get (tab (fun j => ((g j : Nat) : Int)) K.n) at' (by rw [tab_length]; exact hatn))
        rwa [nth_tab (fun j => ((g j : Nat) : Int)) K.n at' hatn] at this
      have hp := Lib.hid (hst.put hatn d)
      obtain ⟨g2, hg2⟩ : ∃ g2 : Nat → Nat, (fun i => if i = at' then d else g i) = g2 := ⟨_, rfl⟩
      rw [hg2] at hp
      have k4 : (wr.setCell ⟨K.S + 3, at', none⟩ (.int .i64 (d : Int))).cell? ⟨K.S + 5, 0, none⟩ = some (.func (.func 23) #[] #[.pointer (some ⟨K.s + 1, 0, none⟩), .pointer (some ⟨K.s, 0, none⟩), .pointer (some ⟨K.S, 0, none⟩), .pointer (some ⟨K.S + 4, 0, none⟩), .pointer (some ⟨K.S + 2, 0, none⟩), .pointer (some ⟨K.S + 1, 0, none⟩), .pointer (some ⟨K.S + 5, 0, none⟩)]) := hp.out.bF.one
      have HGF : Hid (∀ j, j < at' → g2 j = f j) := fun j hj => by rw [← hg2]; show (if j = at' then d else g j) = _; rw [if_neg (by omega)]; exact hgf j hj
      have HGQ : Hid (∀ j, j < K.n → g2 j < K.q) := fun j hj => by
        rw [← hg2]; show (if j = at' then d else g j) < _
        by_cases h : j = at'
        · rw [if_pos h]; exact hdq
        · rw [if_neg h]; exact hgq j hj
      have HS2 : Hid (shutTo K.q g2 (at' + 1) = P * K.q + d) := by
        show _ = _
        rw [shutTo, shutTo_congr at' HGF.out, HP.out, ← hg2]; simp
      have HLN : (xss ++ ((codesR T (P * K.q ^ (r + 1)) (d * K.q ^ r)).map fun c => nrow (opn K.q K.n c) K.n)).length ≤ shutTo K.q g2 (at' + 1) * K.q ^ r := by
        have h1 := codesR_len T (P * K.q ^ (r + 1)) (d * K.q ^ r)
        have h2 := HLE.out
        rw [List.length_append, List.length_map, HS2.out, Nat.add_mul, Nat.mul_assoc, mul_pow_s]
        rw [HP.out] at h2
        omega
      have HC := Lib.hid (HR.out (at' + 1) g2 _ oo2 on2 oc2 _ (by have := HAN.out; omega) HGQ.out hp.out HLN)
      rw [show ((at' + 1 : Nat) : Int) = (at' : Int) + 1 from by omega] at HC
      have HNX : Hid ((xss ++ ((codesR T (P * K.q ^ (r + 1)) (d * K.q ^ r)).map fun c => nrow (opn K.q K.n c) K.n)) ++ ((codesR T (shutTo K.q g2 (at' + 1) * K.q ^ r) (K.q ^ r)).map fun c => nrow (opn K.q K.n c) K.n) = xss ++ ((codesR T (P * K.q ^ (r + 1)) ((d + 1) * K.q ^ r)).map fun c => nrow (opn K.q K.n c) K.n)) := by
        show _ = _
        rw [List.append_assoc, ← List.map_append, HS2.out, Nat.add_mul (P * K.q), Nat.mul_assoc, mul_pow_s, Nat.add_mul d, Nat.one_mul, codesR_append]
      clear hd hst hg2 hgf hgq HLN hdr
      go_wp2_with fail
      refine Calls.mono HC.out ?_
      rintro e w2 ⟨rfl, g3, oo3, on3, oc3, hg3, hq3, hst3⟩
      have HG3 := Lib.hid hg3
      have HQ3 := Lib.hid hq3
      have HST3 := Lib.hid hst3
      rw [HNX.out] at HST3
      clear hg3 hq3 hst3 k2 k3 k4 k5
      go_wp2
      go_roundg r1
      case measure => omega
      case rel => exact ⟨d + 1, HDP.out, by go_num, g3, oo3, on3, oc3, fun j hj => (HG3.out j (by omega)).trans (HGF.out j hj), HQ3.out, HST3.out⟩
    | zero =>
      obtain rfl : d = K.q := by omega
      have HG := Lib.hid hgf
      have HGQ := Lib.hid hgq
      have HS := Lib.hid hst
      rw [mul_pow_s] at HS
      clear hd hst hgf hgq
      go_wp2
      rw [← HP.out] at HS
      exact bodyPost_end (v := .tuple #[]) (by simp [results, Tryd.results23, go_sem]) rfl ⟨rfl, g, oo2, on2, oc2, HG.out, HGQ.out, HS.out⟩

theorem fill_any (K : LinK) (w1 : World) (T : Nat → Bool) (hq : 0 < K.q) (hn6 : K.n ≤ 6) (hn1 : 1 ≤ K.n) (hb : K.q ^ K.n ≤ 4096)
    (hh : ∀ (f : Nat → Nat) (W : World), Ext w1 W → (∀ j, j < K.n → f j < K.q) → Reads W (some ⟨K.S + 3, 0, none⟩) (ints (tab (fun j => ((f j : Nat) : Int)) K.n)) → Calls Tryd.prog 24 #[.agg #[.int .i64 K.p, .int .i64 K.k, .slice K.ao K.k K.cap], .int .i64 K.n, .slice K.bo K.bl K.bc, .slice (some ⟨K.S + 3, 0, none⟩) K.n K.n] W fun e w' => e = .returned (.tuple #[.bool (T (shutN K.q K.n f)), .int .i64 0]) ∧ Ext W w') :
    ∀ r, FillIs K w1 T r
  | 0 => fill_leaf K w1 T hq hn6 hn1 hb hh
  | r + 1 => fill_step K w1 T hq hn6 hn1 hb r (fill_any K w1 T hq hn6 hn1 hb hh r)

end Go.Proofs.YtnhdngnolepkcaaDoor

/- What array.Linear answers. Conditions: primes; what is read. -/
namespace Go.Proofs.YtnhdngnolepkcaaDoor
open Go.RowKit
set_option linter.unusedVariables false
set_option linter.unusedSectionVars false

/-- The world while the order is reckoned. -/
structure LqSt (w1 wr : World) (S : Nat) (bv : Value) (u : Nat) : Prop where
  ext : Ext w1 wr
  size : wr.heap.size = S + 1 + 1
  s0 : w1.heap.size = S
  bb : Blk wr S #[bv] 25
  bq : Blk wr (S + 1) #[.int .i64 u] 3
theorem LqSt.put {w1 wr : World} {S : Nat} {bv : Value} {u : Nat} (h : LqSt w1 wr S bv u) (v : Nat) : LqSt w1 (wr.setCell ⟨S + 1, 0, none⟩ (.int .i64 (v : Int))) S bv v :=
  ⟨h.ext.set (by have := h.s0; simp; omega) _, by simpa [World.setCell] using h.size, h.s0, h.bb.beside _ (by simp) _, h.bq.set 0 _⟩

/-- How the filling begins. -/
theorem lin_start (K : LinK) (w1 wa wx : World) (h : LqSt w1 wa K.S (.slice K.bo K.bl K.bc) K.q) (hs : K.s + 2 ≤ K.S) (hf : Blk w1 K.s #[.int .i64 K.p, .int .i64 K.k, .slice K.ao K.k K.cap] 24) (hn : Blk w1 (K.s + 1) #[.int .i64 K.n] 3) (hn6 : K.n ≤ 6)
    (hwx : wx = (((wa.alloc (.cells #[.slice none 0 0] 25)).alloc (.cells (madeCells #[.int .i64 0] K.n) 3)).alloc (.cells #[.slice (some ⟨K.S + 3, 0, none⟩) K.n K.n] 22))) :
    LinSt K w1 (wx.alloc (.cells #[K.fn] 48)) (fun _ => 0) none 0 0 [] := by
  have e1 : wa.heap.size = K.S + 2 := h.size
  have e2 : wx.heap.size = K.S + 5 := by rw [hwx]; simp [e1]
  have hx1 : Ext wa wx := by rw [hwx]; exact (((Ext.refl wa).alloc _).alloc _).alloc _
  have hx : Ext wa (wx.alloc (.cells #[K.fn] 48)) := hx1.alloc _
  have hx0 := h.ext.trans hx
  have ho : Blk wx (K.S + 2) #[.slice none 0 0] 25 := by rw [hwx]; exact ((Blk.new' wa _ _ e1.symm).alloc _).alloc _
  have hl : Blk wx (K.S + 4) #[.slice (some ⟨K.S + 3, 0, none⟩) K.n K.n] 22 := by rw [hwx]; exact Blk.new' _ _ _ (by simp [e1])
  have hr : RowOf 3 wx K.S (some ⟨K.S + 3, 0, none⟩) K.n K.n (ints (tab (fun j => (((fun _ => 0 : Nat → Nat) j : Nat) : Int)) K.n)) := by
    rw [hwx]
    have h1 : RowOf 3 ((wa.alloc (.cells #[.slice none 0 0] 25)).alloc (.cells (madeCells #[.int .i64 0] K.n) 3)) (K.S + 3) (some ⟨K.S + 3, 0, none⟩) K.n K.n (ints (List.replicate K.n 0)) := RowOf.made (wa.alloc (.cells #[.slice none 0 0] 25)) K.n (by omega) (b := K.S + 3) (by simp [e1])
    rw [tab_zero] at h1
    exact ((Ext.refl _).alloc _).row (h1.mono (by omega))
  exact ⟨hx0, h.s0, hs, by simp [e2], hf.ext hx0, hn.ext hx0, h.bb.ext hx, h.bq.ext hx, ho.alloc _, ((Ext.refl wx).alloc _).row hr, hl.alloc _, Blk.new' wx _ _ e2.symm, Tbl.nil _ _ _⟩

section
variable {p k : Nat} {low : List Int} [hI : FldP p k low]

theorem rowFault_one {q n : Nat} {v : List Int} (h : rowsFault q n [v] = 0) : rowFault q n v = 0 := by
  refine Classical.byContradiction fun hn => hn ?_
  unfold rowsFault at h
  rw [if_neg (by simp)] at h
  unfold rowsFault1 at h
  rwa [if_pos hn] at h

/-- The row of a list of digits. -/
theorem lin_row {n : Nat} {f : Nat → Nat} (hf : ∀ j, j < n → f j < p ^ k) : rowFault (p ^ k) n (tab (fun j => ((f j : Nat) : Int)) n) = 0 ∧ vec1 (tab (fun j => ((f j : Nat) : Int)) n) = vOf (p := p) (k := k) (low := low) n (shutN (p ^ k) n f) := by
  obtain ⟨V, hV⟩ : ∃ V, vOf (p := p) (k := k) (low := low) n (shutN (p ^ k) n f) = V := ⟨_, rfl⟩
  have hz : Zero n [V] := fun r hr j hj => by
    obtain rfl : r = V := by simpa using hr
    rw [← hV]; exact vOf_sup hj
  have e : tab (fun j => ((f j : Nat) : Int)) n = nrow (toN V) n := tab_congr (fun j => ((f j : Nat) : Int)) (fun j => ((toN V j : Nat) : Int)) n fun j hj => by
    rw [← hV]
    show _ = (((vOf n (shutN (p ^ k) n f) j).n : Nat) : Int)
    rw [vOf_n hj, opn_shut (qpos low) hf hj]
  have h1 := rowsFault_toN (n := n) [V] (by simp)
  have h2 := vecs_back hz
  rw [e, hV]
  refine ⟨rowFault_one h1, ?_⟩
  have h3 : vecs (p := p) (k := k) (low := low) (rowsN n ([V].map toN)) = [vec1 (nrow (toN V) n)] := rfl
  rw [h2] at h3
  injection h3 with h3 _
  exact h3.symm

/-- Whether a number's row lies in the space. -/
noncomputable def linT (n : Nat) (V : List (Nat → El p k low)) : Nat → Bool := fun c => @decide (Span V (vOf n c)) (Classical.propDecidable _)
theorem linT_iff {n : Nat} {V : List (Nat → El p k low)} {c : Nat} : linT n V c = true ↔ Span V (vOf n c) := by unfold linT; exact @decide_eq_true_iff _ (Classical.propDecidable _)

theorem has_lin (n : Nat) (ao bo lo : Option Addr) (cap mc : Nat) (V : List (Nat → El p k low)) (bs : List (List Int)) (w : World) (hP : Primes w) (hR : IsRoom p k low n) (hr : Reads w ao (ints low)) (hx : ReadsL w bo bs) (hb : BasisI n bs (Span V)) (f : Nat → Nat) (hf : ∀ j, j < n → f j < p ^ k) (hv : Reads w lo (ints (tab (fun j => ((f j : Nat) : Int)) n))) :
    Calls Tryd.prog 24 #[.agg #[.int .i64 p, .int .i64 k, .slice ao k cap], .int .i64 n, .slice bo bs.length mc, .slice lo n n] w fun e w' => e = .returned (.tuple #[.bool (linT n V (shutN (p ^ k) n f)), .int .i64 0]) ∧ Ext w w' := by
  obtain ⟨h1, h2⟩ := lin_row (low := low) hf
  have h := spHas_ok p k n low ao bo lo cap mc n bs _ w hP hR hr hx (hb.fault hR.n6) hv h1
  rw [tab_length] at h
  refine h.mono ?_
  rintro e w' ⟨b, rfl, hbb, hx'⟩
  refine ⟨?_, hx'⟩
  rw [h2, hb.span] at hbb
  rw [show b = linT n V (shutN (p ^ k) n f) from Bool.eq_iff_iff.2 (hbb.trans linT_iff.symm)]

/-- What Linear answers. -/
def LinPost (n : Nat) (V : List (Nat → El p k low)) (w : World) (e : Ending) (w' : World) : Prop :=
  Ext w w' ∧ ∃ d, d ≤ n ∧ Card (Span V) ((p ^ k) ^ d) ∧ ((128 < (p ^ k) ^ d ∧ e = .returned (.tuple #[.slice none 0 0, .int .i64 3])) ∨
    ((p ^ k) ^ d ≤ 128 ∧ ∃ oo on oc, e = .returned (.tuple #[.slice oo on oc, .int .i64 0]) ∧ ReadsL w' oo ((codesR (linT n V) 0 ((p ^ k) ^ n)).map fun c => nrow (opn (p ^ k) n c) n) ∧ (codesR (linT n V) 0 ((p ^ k) ^ n)).length = on))
theorem BasisI.card {n : Nat} {xss : List (List Int)} {S : (Nat → El p k low) → Prop} (h : BasisI n xss S) : Card S ((p ^ k) ^ xss.length) := by
  obtain ⟨L, P, rfl, h1, h2⟩ := h
  have h := card_span (card_el (p := p) (k := k) low) h1
  rw [rowsN_length, List.length_map]
  exact h.congr h2

set_option maxHeartbeats 4000000 in
set_option maxRecDepth 100000 in
theorem linear_ok (n : Nat) (ao bo : Option Addr) (cap mc : Nat) (xss : List (List Int)) (w : World) (hP : Primes w) (hR : IsRoom p k low n) (hr : Reads w ao (ints low)) (hx : ReadsL w bo xss) (hq : rowsFault (p ^ k) n xss = 0) :
    Calls Tryd.prog 9 #[.agg #[.int .i64 p, .int .i64 k, .slice ao k cap], .int .i64 n, .slice bo xss.length mc] w (LinPost n (vecs (p := p) (k := k) (low := low) xss) w) := by
  have hbig := (rowsFault_zero hq).1
  have hq2 : 2 ≤ p ^ k := one_lt_pow' hR.fld.p2 hR.fld.k1
  have h64 := hR.fld.big
  have hk1 := hR.fld.k1
  have hk6 := hR.fld.k6
  have hp61 := hR.fld.p61
  have HXA : Hid (Ext w (w.alloc (.cells #[.int .i64 p, .int .i64 k, .slice ao k cap] 24))) := (Ext.refl w).alloc _
  have HXB := Lib.hid (HXA.out.alloc (.cells #[.int .i64 n] 3))
  have F0 := Lib.hid ((Blk.new w #[.int .i64 p, .int .i64 k, .slice ao k cap] 24).alloc (.cells #[.int .i64 n] 3))
  have N0 : Hid (Blk ((w.alloc (.cells #[.int .i64 p, .int .i64 k, .slice ao k cap] 24)).alloc (.cells #[.int .i64 n] 3)) (w.heap.size + 1) #[.int .i64 n] 3) := Blk.new' _ _ _ (by simp)
  have k0 := F0.out.three
  have k1 := N0.out.one
  have HB := Lib.hid (spBasis_ok (p := p) (k := k) (low := low) n ao bo cap mc xss _ (hP.ext HXB.out) hR (HXB.out.reads hr) (hx.ext HXB.out) hq)
  have HPW : Hid (∀ i, i ≤ k → p ^ i ≤ 64) := fun i hi => Nat.le_trans (Nat.pow_le_pow_right (by have := hR.fld.p2; omega) hi) h64
  obtain ⟨m, hm⟩ : ∃ m, xss.length = m := ⟨_, rfl⟩
  rw [hm] at HB ⊢
  clear hm hq hbig
  go_enter Tryd.func9, Tryd.ntmps9
  go_wp2_with fail
  refine Calls.mono HB.out ?_
  rintro e w1 ⟨b1, l1, c1, bs, rfl, hbl, hbr, hbb, hx1⟩
  have F1 := Lib.hid (F0.out.ext hx1)
  have EW := Lib.hid (HXB.out.trans hx1)
  have N1 := Lib.hid (N0.out.ext hx1)
  have BB := Lib.hid hbb
  have BR := Lib.hid hbr
  have BL := Lib.hid hbl
  obtain ⟨s, hs⟩ : ∃ s, w.heap.size = s := ⟨_, rfl⟩
  obtain ⟨S, hS⟩ : ∃ S, w1.heap.size = S := ⟨_, rfl⟩
  rw [hs] at F1 N1
  have hsS := N1.out.lt
  have HQ0 : Hid (LqSt w1 ((w1.alloc (.cells #[.slice b1 l1 c1] 25)).alloc (.cells #[.int .i64 (1 : Nat)] 3)) S (.slice b1 l1 c1) 1) :=
    ⟨((Ext.refl w1).alloc _).alloc _, by simp [hS], hS, (by subst hS; exact (Blk.new w1 _ _).alloc _), Blk.new' _ _ _ (by simp [hS])⟩
  have FQ := (F1.out.ext HQ0.out.ext).three
  rw [hS] at hsS
  clear k0 k1 hx1 hbb hbr hbl
  go_upto_region 5 with fail
  obtain ⟨wq, hwq⟩ : ∃ wq, wq = (w1.alloc (.cells #[.slice b1 l1 c1] 25)).alloc (.cells #[.int .i64 (1 : Nat)] 3) := ⟨_, rfl⟩
  rw [← hwq] at HQ0 FQ
  rw [show (1 : Int) = ((1 : Nat) : Int) from rfl, ← hwq]
  have HSE := Lib.hid hS
  have HSs := Lib.hid hs
  try rw [hs]
  try rw [hS]
  clear hwq hS hs
  go_wp2
  go_loopg [27] k (fun r x wr => ∃ i u : Nat, i + r = k ∧ x = .int .i64 i ∧ Hid (u = p ^ i) ∧ LqSt w1 wr S (.slice b1 l1 c1) u)
  case atStart => exact ⟨0, 1, by omega, rfl, by show _ = _; rw [Nat.pow_zero], HQ0.out⟩
  case round =>
    obtain ⟨i, u, hik, rfl, HU, hst⟩ := hrel
    have HST := Lib.hid hst
    have FW := (F1.out.ext hst.ext).three
    clear hst HQ0 FQ
    cases gk with
    | succ r1 =>
      have hil : (i : Int) < (k : Int) := by omega
      have t1 := HST.out.bq.one
      have t2 := HST.out.bq.f 0
      have hub := HPW.out (i + 1) (by omega)
      obtain ⟨v, hv⟩ : ∃ v, u * p = v := ⟨_, rfl⟩
      have hv' : (u : Int) * (p : Int) = v := by rw [← hv, Int.natCast_mul]
      have HV : Hid (v = p ^ (i + 1)) := by show _ = _; rw [← hv, HU.out, Nat.pow_succ]
      rw [← HV.out] at hub
      clear hv
      go_wp2
      go_roundg r1
      case measure => omega
      case rel => exact ⟨i + 1, v, by omega, by go_num, HV, HST.out.put v⟩
    | zero =>
      obtain rfl : k = i := by omega
      obtain ⟨q, hqq⟩ : ∃ q, p ^ k = q := ⟨_, rfl⟩
      rw [hqq] at hq2 h64 HU
      have HCD : Hid (Card (Span (vecs (p := p) (k := k) (low := low) xss)) (q ^ l1)) := by show Card _ _; rw [← hqq, ← BL.out]; exact BB.out.card
      have HPQ := Lib.hid hqq
      have HNB4 : Hid (q ^ n ≤ 4096) := by show _ ≤ _; rw [← hqq]; exact hR.big
      have HH : Hid (∀ (f : Nat → Nat) (W : World), Ext w1 W → (∀ j, j < n → f j < p ^ k) → Reads W (some ⟨S + 3, 0, none⟩) (ints (tab (fun j => ((f j : Nat) : Int)) n)) → Calls Tryd.prog 24 #[.agg #[.int .i64 p, .int .i64 k, .slice ao k cap], .int .i64 n, .slice b1 l1 c1, .slice (some ⟨S + 3, 0, none⟩) n n] W fun e w' => e = .returned (.tuple #[.bool (linT n (vecs (p := p) (k := k) (low := low) xss) (shutN (p ^ k) n f)), .int .i64 0]) ∧ Ext W w') := fun f W h1 h2 h3 => by
        rw [← BL.out]; exact has_lin n ao b1 _ cap c1 _ bs W (hP.ext (EW.out.trans h1)) hR ((EW.out.trans h1).reads hr) (BR.out.ext h1) BB.out f h2 h3
      rw [hqq] at HH
      have HLN : Hid (l1 ≤ n) := by show _ ≤ _; rw [← BL.out]; exact BB.out.len
      clear hqq
      obtain rfl : u = q := HU.out
      have t1 := HST.out.bb.one
      obtain ⟨wa, rfl⟩ : ∃ wa : World, wa = wr := ⟨_, rfl⟩
      have hl6 : l1 ≤ 6 := by have h1 := BB.out.len; have h2 := BL.out; have := hR.n6; omega
      go_wp2
      go_loopg [11, 36] l1 (fun r y x wr => ∃ i v : Nat, i + r = l1 ∧ x = .int .i64 i ∧ y = .int .i64 v ∧ Hid (v = u ^ i) ∧ v ≤ 128 ∧ wa = wr)
      case atStart => exact ⟨0, 1, by omega, rfl, rfl, by show _ = _; rw [Nat.pow_zero], by omega, rfl⟩
      case round =>
        obtain ⟨i, v, hil, rfl, rfl, HV, hv128, rfl⟩ := hrel
        cases gk with
        | succ r1 =>
          have hil' : (i : Int) < (l1 : Int) := by omega
          have t2 := HST.out.bq.one
          obtain ⟨x, hx⟩ : ∃ x, v * u = x := ⟨_, rfl⟩
          have hx' : (v : Int) * (u : Int) = x := by rw [← hx, Int.natCast_mul]
          have hxb : x ≤ 128 * 64 := by rw [← hx]; exact Nat.mul_le_mul hv128 h64
          have HX : Hid (x = u ^ (i + 1)) := by show _ = _; rw [← hx, HV.out, Nat.pow_succ]
          clear hx
          by_cases hb : 128 < x
          · have b3 : decide (128 < (x : Int)) = true := decide_eq_true (by omega)
            have HB128 : Hid (128 < u ^ l1) := by
              show _ < _
              have : u ^ (i + 1) ≤ u ^ l1 := Nat.pow_le_pow_right (by omega) (by omega)
              rw [← HX.out] at this; omega
            have HEX := Lib.hid (EW.out.trans HST.out.ext)
            clear hb
            go_wp2
            exact bodyPost_ret (v := .tuple #[.slice none 0 0, .int .i64 3]) (by simp [results, Tryd.results9, go_sem]) rfl ⟨HEX.out, l1, HLN.out, by rw [HPQ.out]; exact HCD.out, .inl ⟨by rw [HPQ.out]; exact HB128.out, rfl⟩⟩
          · have b3 : decide (128 < (x : Int)) = false := decide_eq_false (by omega)
            have hb' : x ≤ 128 := by omega
            clear hb
            go_wp2
            go_roundg r1
            case measure => omega
            case rel => exact ⟨i + 1, x, by omega, by go_num, rfl, HX, hb', rfl⟩
        | zero =>
          obtain rfl : l1 = i := by omega
          have hmk := mk_ints n (by have := hR.n6; omega) (wa.alloc (.cells #[.slice none 0 0] 25))
          have tn := ((N1.out.ext HST.out.ext).alloc (.cells #[.slice none 0 0] 25)).one
          have HB128 : Hid (u ^ l1 ≤ 128) := by show _ ≤ _; rw [← HV.out]; exact hv128
          clear hv128
          have HSZ := Lib.hid HST.out.size
          go_upto_region 18 with fail
          rw [HSZ.out]
          obtain ⟨wx, hwx⟩ : ∃ wx, wx = (((wa.alloc (.cells #[.slice none 0 0] 25)).alloc (.cells (madeCells #[.int .i64 0] n) 3)).alloc (.cells #[.slice (some ⟨S + 1 + 1 + 1, 0, none⟩) n n] 22)) := ⟨_, rfl⟩
          rw [← hwx]
          have HWX := Lib.hid hwx
          have HXS : Hid (wx.heap.size = S + 1 + 1 + 1 + 1 + 1) := by show _ = _; rw [hwx]; simp [HSZ.out]
          clear hwx hmk tn t1
          have HNB := Lib.hid (Blk.new wx #[Value.nilFunc] 48)
          have kf := HNB.out.one
          have kz := HNB.out.f 0
          go_upto_region 20 with fail
          rw [HXS.out]
          have HLS := Lib.hid (lin_start ⟨s, S, p, k, n, u, ao, cap, b1, l1, c1⟩ w1 wa wx HST.out (by show s + 2 ≤ S; omega) F1.out N1.out hR.n6 HWX.out)
          obtain ⟨W5, hW5⟩ : ∃ W5, W5 = wx.alloc (.cells #[.func (.func 23) #[] #[.pointer (some ⟨s + 1, 0, none⟩), .pointer (some ⟨s, 0, none⟩), .pointer (some ⟨S, 0, none⟩), .pointer (some ⟨S + 1 + 1 + 1 + 1, 0, none⟩), .pointer (some ⟨S + 1 + 1, 0, none⟩), .pointer (some ⟨S + 1, 0, none⟩), .pointer (some ⟨S + 1 + 1 + 1 + 1 + 1, 0, none⟩)]] 48) := ⟨_, rfl⟩
          have HLS : Hid (LinSt ⟨s, S, p, k, n, u, ao, cap, b1, l1, c1⟩ w1 W5 (fun _ => 0) none 0 0 []) := by show LinSt _ _ _ _ _ _ _ _; rw [hW5]; exact HLS.out
          rw [← hW5]
          have kF : W5.cell? ⟨S + 1 + 1 + 1 + 1 + 1, 0, none⟩ = some (.func (.func 23) #[] #[.pointer (some ⟨s + 1, 0, none⟩), .pointer (some ⟨s, 0, none⟩), .pointer (some ⟨S, 0, none⟩), .pointer (some ⟨S + 1 + 1 + 1 + 1, 0, none⟩), .pointer (some ⟨S + 1 + 1, 0, none⟩), .pointer (some ⟨S + 1, 0, none⟩), .pointer (some ⟨S + 1 + 1 + 1 + 1 + 1, 0, none⟩)]) := HLS.out.bF.one
          have HC := Lib.hid (fill_any ⟨s, S, p, k, n, u, ao, cap, b1, l1, c1⟩ w1 (linT n (vecs (p := p) (k := k) (low := low) xss)) (by show 0 < u; omega) hR.n6 hR.n1 HNB4.out HH.out n 0 (fun _ => 0) W5 none 0 0 [] (by show 0 + n = n; omega) (fun j _ => by show 0 < u; omega) HLS.out (by simp))
          clear hW5 HWX kf kz
          go_wp2_with fail
          refine Calls.mono HC.out ?_
          rintro e w6 ⟨rfl, g, oo, on, oc, -, -, hst⟩
          have HS6 := Lib.hid hst
          have HX6 := Lib.hid (EW.out.trans hst.ext)
          have k6 : w6.cell? ⟨S + 1 + 1, 0, none⟩ = some (.slice oo on oc) := hst.bo.one
          clear hst kF
          go_wp2
          have HRD := Lib.hid HS6.out.tbl.readsL
          have HLE := Lib.hid HS6.out.tbl.length
          have e0 : shutTo u (fun _ => 0) 0 * u ^ n = 0 := by rw [shutTo, Nat.zero_mul]
          refine bodyPost_ret (v := .tuple #[.slice oo on oc, .int .i64 0]) (by simp [results, Tryd.results9, go_sem]) rfl ⟨HX6.out, l1, HLN.out, by rw [HPQ.out]; exact HCD.out, .inr ⟨by rw [HPQ.out]; exact HB128.out, oo, on, oc, rfl, ?_, ?_⟩⟩
          · rw [HPQ.out]
            have h := HRD.out
            rw [List.nil_append] at h
            exact e0 ▸ h
          · rw [HPQ.out]
            have h := HLE.out
            rw [List.nil_append, List.length_map] at h
            exact e0 ▸ h
end

end Go.Proofs.YtnhdngnolepkcaaDoor
