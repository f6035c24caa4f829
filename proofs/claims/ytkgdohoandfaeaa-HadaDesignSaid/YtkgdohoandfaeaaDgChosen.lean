/- choose of design.choices, two levels up. -/
import Derived.Test.YtkgdohoandfaeaaDgSets
import Derived.Test.YtkgdohoandfaeaaTwo
import Derived.Deep.LoopGhost
import Derived.Deep.Cut
import Derived.Deep.RegionLaw
namespace Go.Proofs.Ytkgdohoandfaeaa
open Go.RowKit
set_option linter.unusedVariables false

/-- Cells. -/
def isC : Obj → Bool
  | .cells .. => true
  | _ => false
theorem isC_of_cell {W : World} {a : Addr} {v : Value} (h : W.cell? a = some v) : ∃ o : Obj, W.heap[a.block]? = some o ∧ isC o = true := by
  unfold World.cell? at h
  cases ho : W.heap[a.block]? with
  | none => simp [ho] at h
  | some o => exact ⟨o, rfl, by cases o <;> simp_all [isC]⟩
/-- All cells but those of one block lie as they lay. -/
structure KpL (bl : Nat) (W W' : World) : Prop where
  size : W.heap.size ≤ W'.heap.size
  same : ∀ (k : Nat) (o : Obj), k ≠ bl → W.heap[k]? = some o → isC o = true → W'.heap[k]? = some o
theorem KpL.refl (bl : Nat) (W : World) : KpL bl W W := ⟨Nat.le_refl _, fun _ _ _ h _ => h⟩
theorem KpL.trans {bl : Nat} {A B C : World} (h : KpL bl A B) (k : KpL bl B C) : KpL bl A C := ⟨Nat.le_trans h.size k.size, fun i o hn hi ho => k.same i o hn (h.same i o hn hi ho) ho⟩
theorem KpL.cell {bl : Nat} {W W' : World} (h : KpL bl W W') {a : Addr} {v : Value} (hn : a.block ≠ bl) (hc : W.cell? a = some v) : W'.cell? a = some v := by
  obtain ⟨o, ho, hk⟩ := isC_of_cell hc
  exact (World.cell?_of_block ((h.same _ _ hn ho hk).trans ho.symm)).trans hc
theorem KpL.drew (bl : Nat) (W : World) : KpL bl W W.drew := ⟨Nat.le_refl _, fun _ _ _ h _ => h⟩
/-- Two points of P. -/
abbrev Two (P : Nat) := { x : Nat × Nat // x.1 < x.2 ∧ x.2 < P }
def encT {P : Nat} (x : Two P) : Array Value := #[.int .u64 ((2 ^ x.1.1 ||| 2 ^ x.1.2 : Nat) : Int)]

/-- What the iterator's boxes hold. -/
structure Boxes (P l By Bp Bc bl : Nat) (W : World) : Prop where
  y : W.cell? ⟨By, 0, none⟩ = some (.func (.yield l) #[] #[])
  p : W.cell? ⟨Bp, 0, none⟩ = some (.int .i64 P)
  c : W.cell? ⟨Bc, 0, none⟩ = some (.func (.func 35) #[] #[.pointer (some ⟨By, 0, none⟩), .pointer (some ⟨Bp, 0, none⟩), .pointer (some ⟨Bc, 0, none⟩)])
  ny : By ≠ bl
  np : Bp ≠ bl
  nc : Bc ≠ bl
theorem Boxes.keep {P l By Bp Bc bl : Nat} {W W' : World} (h : Boxes P l By Bp Bc bl W) (k : KpL bl W W') : Boxes P l By Bp Bc bl W' := ⟨k.cell h.ny h.y, k.cell h.np h.p, k.cell h.nc h.c, h.ny, h.np, h.nc⟩
theorem Boxes.drew {P l By Bp Bc bl : Nat} {W : World} (h : Boxes P l By Bp Bc bl W) : Boxes P l By Bp Bc bl W.drew := h.keep (KpL.drew bl W)

theorem wrap_small (x : Int) (h0 : 0 ≤ x) (h1 : x < 9223372036854775808) : IntKind.i64.wrap x = x := by
  unfold IntKind.wrap
  simp [IntKind.bits, IntKind.signed]
  omega

/-- A call of a function that is held in a slot, as a step of a region that draws. -/
theorem step_callC {w : World} {ops : Array Oper} {o : Oper} {a : Act} {K : Act → World → Prop} {Q : Exit → Act → World → Prop} {El : Prop} {f : FuncId} {g : Operand} {caps : Array Value} {xs : Array Operand} {ats : Array TypeId} {args : Array Value} {R : Value → World → Prop}
    (hgd : o.guard = none) (ho : o.op = .call { callee := .value g, args := xs, argTypes := ats }) (hg : a.eval g = .func (.func f) #[] caps) (hen : ∀ (args : Array Value) (w : World), (callFunc f args).run Try.prog w = .ok (.enter f args) w)
    (ha : xs.map a.eval ++ caps = args) (hc : Calls Try.prog f args w fun e w' => ∃ v, e = .returned v ∧ R v w') (h : ∀ v w', R v w' → K (a.put o.dst v) w') :
    if Region.wanted o (yielded ops a.tmps) = true then Oper.wp Try.prog o a w K Q else El := by
  have hrun : (execOp a.eval o).run Try.prog w = .ok (.enter f args) w := by
    obtain ⟨dst, op, ty, pos, after, guard⟩ := o
    simp only at ho
    subst ho
    unfold execOp
    simp only [resolve, hg]
    show (callFunc f (#[] ++ xs.map a.eval ++ caps)).run Try.prog w = _
    rw [hen, ← ha]
    simp
  have hw : Region.wanted o (yielded ops a.tmps) = true := by simp [Region.wanted, hgd]
  rw [if_pos hw]
  unfold Oper.wp
  rw [hrun, Oper.upon_enter]
  refine hc.mono ?_
  rintro e w' ⟨v, rfl, hr⟩
  exact h v w' hr

/-- What a call of choose answers. -/
def Chosen {P : Nat} (bl : Nat) (J Jx : List (Two P) → World → Prop) (lo hi : Nat) (W : World) (v : Value) (W' : World) : Prop :=
  (v = .bool true ∧ (∃ pre, J pre W' ∧ lo ≤ pre.length ∧ pre.length ≤ hi) ∧ KpL bl W W') ∨ (v = .bool false ∧ ∃ q, Jx q W')

theorem Chosen.bool {P : Nat} {bl : Nat} {J Jx : List (Two P) → World → Prop} {lo hi : Nat} {W : World} {v : Value} {W' : World} (h : Chosen bl J Jx lo hi W v W') : ∃ b : Bool, v = .bool b := by
  rcases h with ⟨rfl, _⟩ | ⟨rfl, _⟩ <;> exact ⟨_, rfl⟩
theorem Chosen.yes {P : Nat} {bl : Nat} {J Jx : List (Two P) → World → Prop} {lo hi : Nat} {W : World} {W' : World} (h : Chosen bl J Jx lo hi W (.bool true) W') : (∃ pre, J pre W' ∧ lo ≤ pre.length ∧ pre.length ≤ hi) ∧ KpL bl W W' := by
  rcases h with ⟨_, h⟩ | ⟨h, _⟩
  · exact h
  · cases h
theorem Chosen.no {P : Nat} {bl : Nat} {J Jx : List (Two P) → World → Prop} {lo hi : Nat} {W : World} {W' : World} (h : Chosen bl J Jx lo hi W (.bool false) W') : ∃ q, Jx q W' := by
  rcases h with ⟨h, _⟩ | ⟨_, h⟩
  · cases h
  · exact h

section
variable {P l By Bp Bc bl : Nat} {J Jx : List (Two P) → World → Prop}
  (h0 : ∀ (fr : Int) (x : Two P) (pre : List (Two P)) (W : World), Boxes P l By Bp Bc bl W → J pre W → pre.length < 600 →
    Calls Try.prog 35 #[.int .i64 fr, .int .i64 0, .int .u64 ((2 ^ x.1.1 ||| 2 ^ x.1.2 : Nat) : Int), .pointer (some ⟨By, 0, none⟩), .pointer (some ⟨Bp, 0, none⟩), .pointer (some ⟨Bc, 0, none⟩)] W fun e W' =>
      ∃ v, e = .returned v ∧ Chosen bl J Jx (pre.length + 1) (pre.length + 1) W v W')
include h0
variable (hJd : ∀ pre W, J pre W → J pre W.drew)
include hJd

set_option maxRecDepth 100000 in
set_option maxHeartbeats 1000000 in
theorem choose1 (hP : P ≤ 23) (i : Nat) (hi : i + 1 < P) (pre : List (Two P)) (W : World) (hB : Boxes P l By Bp Bc bl W) (hJ : J pre W) (hl : pre.length ≤ 24 * i) :
    Calls Try.prog 35 #[.int .i64 ((i : Int) + 1), .int .i64 1, .int .u64 ((2 ^ i : Nat) : Int), .pointer (some ⟨By, 0, none⟩), .pointer (some ⟨Bp, 0, none⟩), .pointer (some ⟨Bc, 0, none⟩)] W fun e W' =>
      ∃ v, e = .returned v ∧ Chosen bl J Jx (pre.length + 1) (24 * (i + 1)) W v W' := by
  have HC : Hid (∀ (j : Nat) (hij : i < j) (hj : j < P) (pre' : List (Two P)) (W' : World), Boxes P l By Bp Bc bl W' → J pre' W' → pre'.length < 600 →
      Calls Try.prog 35 #[.int .i64 ((j : Int) + 1), .int .i64 0, .int .u64 (bits BinOp.or IntKind.u64 ((2 ^ i : Nat) : Int) (IntKind.u64.wrap ((2 : Int) ^ j))), .pointer (some ⟨By, 0, none⟩), .pointer (some ⟨Bp, 0, none⟩), .pointer (some ⟨Bc, 0, none⟩)] W' fun e W2 =>
        ∃ v, e = .returned v ∧ Chosen bl J Jx (pre'.length + 1) (pre'.length + 1) W' v W2) := fun j hij hj pre' W' hB' hJ' hl' => by
    have hpi : 2 ^ i < 1099511627776 := Nat.pow_lt_pow_right (n := 40) (a := 2) (by omega) (by omega)
    rw [or_pow _ j hpi (by omega)]
    exact h0 _ ⟨(i, j), hij, hj⟩ pre' W' hB' hJ' hl'
  have HB := Lib.hid hB
  have HJ := Lib.hid hJ
  have HJD := Lib.hid hJd
  have HEN : ∀ (args : Array Value) (w : World), (callFunc 35 args).run Try.prog w = .ok (.enter 35 args) w := fun _ _ => rfl
  have HEN := Lib.hid HEN
  obtain ⟨s, hs⟩ : ∃ s : Nat, 2 ^ i = s := ⟨_, rfl⟩
  rw [hs] at HC ⊢
  clear hs h0 hB hJ hJd
  go_enter Try.func35, Try.ntmps35
  go_wp2
  go_loopw [10] (fun p wr => ∃ (j c : Nat) (pre' : List (Two P)), p = .int .i64 j ∧ i + 1 + c = j ∧ j ≤ P ∧ Hid (J pre' wr) ∧ pre'.length = pre.length + c ∧ KpL bl W wr) (fun p _ => P - (intOf p).toNat)
  case atStart => exact ⟨i + 1, 0, pre, by simp, by omega, by omega, HJ, rfl, KpL.refl _ _⟩
  case round =>
    obtain ⟨j, c, pre', rfl, hic, hjP, HJ', hlen, hk⟩ := hrel
    have HK := Lib.hid hk
    have HLEN := Lib.hid hlen
    have k0 := (HB.out.keep hk).p
    have k1 := (HB.out.keep hk).c
    clear hk hlen
    by_cases hjl : j < P
    · have hj1 : (j : Int) ≤ (P : Int) - 1 := by omega
      have HCC := Lib.hid (HC.out j (by omega) hjl pre' wr.drew (HB.out.keep HK.out).drew (HJD.out _ _ HJ'.out) (by have := HLEN.out; omega))
      have hw0 : IntKind.i64.wrap 0 = 0 := by decide
      have hw1 : IntKind.i64.wrap ((j : Int) + 1) = (j : Int) + 1 := wrap_small _ (by omega) (by omega)
      go_upto_region 6 with fail
      go_region_law (first | (refine step_callC (f := 35) (g := .tmp 24) (caps := #[.pointer (some ⟨By, 0, none⟩), .pointer (some ⟨Bp, 0, none⟩), .pointer (some ⟨Bc, 0, none⟩)]) (xs := #[.tmp 26, .tmp 28, .tmp 32]) (ats := #[3, 3, 54]) (R := Chosen bl J Jx (pre'.length + 1) (pre'.length + 1) wr.drew) ?_ ?_ ?_ HEN.out ?_ HCC.out ?_; (next => rfl); (next => rfl); (next => simp [Act.eval]; done); (next => simp [Act.eval]; done); intro v w3 hch; obtain ⟨b, rfl⟩ := hch.bool; have HCH := Lib.hid hch; clear hch))
      cases b with
      | true =>
        obtain ⟨⟨pre2, hJ2, hlo, hhi⟩, hk2⟩ := HCH.out.yes
        have HJ2 := Lib.hid hJ2
        have HK2 := Lib.hid ((HK.out.trans (KpL.drew bl wr)).trans hk2)
        have HL2 : Hid (pre2.length = pre.length + (c + 1)) := by show _ = _; have := HLEN.out; omega
        clear HCH hJ2 hlo hhi hk2 k0 k1 HCC
        go_wp2
        go_roundw
        case rel => exact ⟨j + 1, c + 1, pre2, by go_num, by omega, by omega, HJ2, HL2.out, HK2.out⟩
        case measure => simp [intOf]; omega
      | false =>
        have HQ := Lib.hid HCH.out.no
        clear HCH k0 k1 HCC
        go_wp2
        go_ret
        exact ⟨_, rfl, .inr ⟨rfl, HQ.out⟩⟩
    · have hj1 : ¬ (j : Int) ≤ (P : Int) - 1 := by omega
      go_wp2
      go_ret
      exact ⟨_, rfl, .inl ⟨rfl, ⟨pre', HJ'.out, by have := HLEN.out; omega, by have := HLEN.out; omega⟩, HK.out⟩⟩

set_option maxRecDepth 100000 in
set_option maxHeartbeats 1000000 in
theorem choose2 (hP : P ≤ 23) (hP2 : 2 ≤ P) (W : World) (hB : Boxes P l By Bp Bc bl W) (hJ : J [] W) :
    Calls Try.prog 35 #[.int .i64 0, .int .i64 2, .int .u64 0, .pointer (some ⟨By, 0, none⟩), .pointer (some ⟨Bp, 0, none⟩), .pointer (some ⟨Bc, 0, none⟩)] W fun e W' =>
      ∃ v, e = .returned v ∧ Chosen bl J Jx 1 600 W v W' := by
  have HC : Hid (∀ (j : Nat) (hj : j + 1 < P) (pre' : List (Two P)) (W' : World), Boxes P l By Bp Bc bl W' → J pre' W' → pre'.length ≤ 24 * j →
      Calls Try.prog 35 #[.int .i64 ((j : Int) + 1), .int .i64 1, .int .u64 (bits BinOp.or IntKind.u64 0 (IntKind.u64.wrap ((2 : Int) ^ j))), .pointer (some ⟨By, 0, none⟩), .pointer (some ⟨Bp, 0, none⟩), .pointer (some ⟨Bc, 0, none⟩)] W' fun e W2 =>
        ∃ v, e = .returned v ∧ Chosen bl J Jx (pre'.length + 1) (24 * (j + 1)) W' v W2) := fun j hj pre' W' hB' hJ' hl' => by
    have h := or_pow 0 j (by omega) (by omega)
    rw [Nat.zero_or] at h
    rw [show bits BinOp.or IntKind.u64 0 (IntKind.u64.wrap ((2 : Int) ^ j)) = ((2 ^ j : Nat) : Int) from h]
    exact choose1 h0 hJd hP j hj pre' W' hB' hJ' hl'
  have HB := Lib.hid hB
  have HJ := Lib.hid hJ
  have HJD := Lib.hid hJd
  have HEN : ∀ (args : Array Value) (w : World), (callFunc 35 args).run Try.prog w = .ok (.enter 35 args) w := fun _ _ => rfl
  have HEN := Lib.hid HEN
  clear h0 hB hJ hJd
  go_enter Try.func35, Try.ntmps35
  go_wp2
  go_loopw [10] (fun p wr => ∃ (j : Nat) (pre' : List (Two P)), p = .int .i64 j ∧ j + 1 ≤ P ∧ Hid (J pre' wr) ∧ j ≤ pre'.length ∧ pre'.length ≤ 24 * j ∧ KpL bl W wr) (fun p _ => P - (intOf p).toNat)
  case atStart => exact ⟨0, [], by simp, by omega, HJ, by simp, by simp, KpL.refl _ _⟩
  case round =>
    obtain ⟨j, pre', rfl, hjP, HJ', hlo, hhi, hk⟩ := hrel
    have HK := Lib.hid hk
    have HLO := Lib.hid hlo
    have HHI := Lib.hid hhi
    have k0 := (HB.out.keep hk).p
    have k1 := (HB.out.keep hk).c
    clear hk hlo hhi
    by_cases hjl : j + 1 < P
    · have hj1 : (j : Int) ≤ (P : Int) - 2 := by omega
      have HCC := Lib.hid (HC.out j hjl pre' wr.drew (HB.out.keep HK.out).drew (HJD.out _ _ HJ'.out) HHI.out)
      have hw0 : IntKind.i64.wrap 1 = 1 := by decide
      have hw1 : IntKind.i64.wrap ((j : Int) + 1) = (j : Int) + 1 := wrap_small _ (by omega) (by omega)
      go_upto_region 6 with fail
      go_region_law (first | (refine step_callC (f := 35) (g := .tmp 24) (caps := #[.pointer (some ⟨By, 0, none⟩), .pointer (some ⟨Bp, 0, none⟩), .pointer (some ⟨Bc, 0, none⟩)]) (xs := #[.tmp 26, .tmp 28, .tmp 32]) (ats := #[3, 3, 54]) (R := Chosen bl J Jx (pre'.length + 1) (24 * (j + 1)) wr.drew) ?_ ?_ ?_ HEN.out ?_ HCC.out ?_; (next => rfl); (next => rfl); (next => simp [Act.eval]; done); (next => simp [Act.eval]; done); intro v w3 hch; obtain ⟨b, rfl⟩ := hch.bool; have HCH := Lib.hid hch; clear hch))
      cases b with
      | true =>
        obtain ⟨⟨pre2, hJ2, hlo, hhi⟩, hk2⟩ := HCH.out.yes
        have HJ2 := Lib.hid hJ2
        have HK2 := Lib.hid ((HK.out.trans (KpL.drew bl wr)).trans hk2)
        have HL2 : Hid (j + 1 ≤ pre2.length) := by show _ ≤ _; have := HLO.out; omega
        have HH2 := Lib.hid hhi
        clear HCH hJ2 hlo hhi hk2 k0 k1 HCC
        go_wp2
        go_roundw
        case rel => exact ⟨j + 1, pre2, by go_num, by omega, HJ2, HL2.out, HH2.out, HK2.out⟩
        case measure => simp [intOf]; omega
      | false =>
        have HQ := Lib.hid HCH.out.no
        clear HCH k0 k1 HCC
        go_wp2
        go_ret
        exact ⟨_, rfl, .inr ⟨rfl, HQ.out⟩⟩
    · have hj1 : ¬ (j : Int) ≤ (P : Int) - 2 := by omega
      go_wp2
      go_ret
      exact ⟨_, rfl, .inl ⟨rfl, ⟨pre', HJ'.out, by have := HLO.out; omega, by have := HHI.out; omega⟩, HK.out⟩⟩

end
end Go.Proofs.Ytkgdohoandfaeaa
