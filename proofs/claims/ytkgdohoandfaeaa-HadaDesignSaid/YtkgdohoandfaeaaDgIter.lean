/- design.choices(points, 2) hands back a function that gives sets of two points. -/
import Derived.Test.YtkgdohoandfaeaaDgChosen
import Derived.RangeFuncNested
import Derived.RangeFuncBound
import Derived.RangeFuncCalls
import Derived.RangeFuncLeaves
import Derived.Shelf.Abstract
import Derived.Shelf.RegionOpen
import Derived.WalkKit
import Derived.OwnWalkIn
import Derived.TacticsInMore
import Derived.LoopNIn
import Derived.LoopIn
namespace Go.Proofs.Ytkgdohoandfaeaa
open Go.RowKit Go.Shelf
set_option linter.unusedVariables false
attribute [local go_sem] Oper.semAt_some

theorem room_of_none {F : Fence} (hd : F.depth = none) (k : Nat) : F.room k := fun d h => by rw [hd] at h; cases h
theorem RoundIn.anyDepth {F : Fence} (hd : F.depth = none) {m m' : Nat} {P : Program} {l : Nat} {f : FuncId} {tmps : Array Value} {assign body : Code} {w : World} {R : Ending → World → Prop}
    (h : RoundIn F m P l f tmps assign body w R) : RoundIn F m' P l f tmps assign body w R := ⟨h.1, fun c cs _ => h.2 c cs (room_of_none hd _)⟩
theorem YieldAt.anyDepth {F : Fence} (hd : F.depth = none) {m : Nat} (m' : Nat) {P : Program} {l : Nat} {args : Array Value} {W : World} {R : Ending → World → Prop} (h : YieldAt F m P l args W R) : YieldAt F m' P l args W R := by
  obtain ⟨fn, tmps, assign, body, hy, hR⟩ := h
  exact ⟨fn, tmps, assign, body, hy, RoundIn.anyDepth hd hR⟩

theorem isC_cells (o : Obj) : isC o = o.isCells := by cases o <;> rfl
theorem KpL.putObj (bl : Nat) (W : World) (l : Nat) (o o' : Obj) (hl : W.heap[l]? = some o) (ho : o.isCells = false) : KpL bl W (W.putObj l o') :=
  ⟨by simp, fun k o2 _ hk hc => by
    refine (World.putObj_heap_other (fun e => ?_)).trans hk
    subst e
    rw [hl] at hk; cases hk; rw [isC_cells, ho] at hc; cases hc⟩
theorem KpL.alloc (bl : Nat) (W : World) (o : Obj) : KpL bl W (W.alloc o) := ⟨by simp, fun k o2 _ hk _ => (Below.heap_alloc W o k (Array.getElem?_eq_some_iff.1 hk).1).trans hk⟩

section
variable {P l By Bp Bc bl : Nat} {J Jx : List (Two P) → World → Prop}
  (hY : ∀ m pre (x : Two P) W, J pre W → pre.length < 600 → YieldAt Fence.wide m Try.prog l (encT x) W fun e W' =>
      (e = .returned (.bool true) ∧ J (pre ++ [x]) W' ∧ KpL bl W W') ∨ (e = .returned (.bool false) ∧ Jx (pre ++ [x]) W'))
include hY

set_option maxRecDepth 100000 in
set_option maxHeartbeats 2000000 in
theorem choose0 (fr : Int) (x : Two P) (pre : List (Two P)) (W : World) (hB : Boxes P l By Bp Bc bl W) (hJ : J pre W) (hl : pre.length < 600) :
    Calls Try.prog 35 #[.int .i64 fr, .int .i64 0, .int .u64 ((2 ^ x.1.1 ||| 2 ^ x.1.2 : Nat) : Int), .pointer (some ⟨By, 0, none⟩), .pointer (some ⟨Bp, 0, none⟩), .pointer (some ⟨Bc, 0, none⟩)] W fun e W' =>
      ∃ v, e = .returned v ∧ Chosen bl J Jx (pre.length + 1) (pre.length + 1) W v W' := by
  refine (callsIn_wide (n := 1)).1 ?_
  have hd : Fence.wide.depth = none := rfl
  have hdd : ∀ k : Nat, (Fence.wide.depth.isSome = true → 1 ≤ k) := fun k h => by cases h
  obtain ⟨fn, tmps, assign, body, hy, hR⟩ := hY 0 pre x W hJ hl
  have k0 := hB.y
  obtain ⟨s, hs⟩ : ∃ s : Nat, 2 ^ x.1.1 ||| 2 ^ x.1.2 = s := ⟨_, rfl⟩
  unfold encT at hy
  rw [hs] at hy ⊢
  clear hs
  obtain ⟨F, hF⟩ : ∃ F, F = Fence.wide := ⟨_, rfl⟩
  have hro : F.round = none := by rw [hF]; rfl
  have hf : F.fn 35 := by rw [hF]; exact trivial
  rw [← hF] at hR hdd ⊢
  clear hF
  refine callsIn_of_wp Try.func35 rfl hf ?_ hro
  simp only [Try.ntmps35, List.size_toArray, List.length_cons, List.length_nil, Nat.reduceAdd, Nat.reduceSub, Array.replicate_succ, Array.replicate_zero, List.push_toArray, List.append_toArray, List.nil_append, List.cons_append]
  gi_wp2_with ((try refine ⟨hdd _, ?_⟩); refine hR.mono ?_; clear hR; rintro e W2 (⟨rfl, hJ2, hb2⟩ | ⟨rfl, hx2⟩))
  · go_ret
    exact ⟨_, rfl, .inl ⟨rfl, ⟨_, hJ2, by simp, by simp⟩, hb2⟩⟩
  · go_ret
    exact ⟨_, rfl, .inr ⟨rfl, _, hx2⟩⟩

end

set_option maxHeartbeats 1000000 in
theorem choices_any (p t : Int) (w : World) :
    Calls Try.prog 24 #[.int .i64 p, .int .i64 t] w fun e w' => e = .returned (.func (.func 34) #[] #[.pointer (some ⟨w.heap.size, 0, none⟩), .pointer (some ⟨w.heap.size + 1, 0, none⟩)]) ∧ w' = (w.alloc (.cells #[.int .i64 p] 3)).alloc (.cells #[.int .i64 t] 3) := by
  go_enter Try.func24, Try.ntmps24
  go_wp2
  go_ret
  exact ⟨rfl, rfl⟩

section
variable {P l Bp Bt bl : Nat} {J Jx : List (Two P) → World → Prop}

set_option maxRecDepth 100000 in
set_option maxHeartbeats 1000000 in
theorem iter_any (hY : ∀ m pre (x : Two P) W, J pre W → pre.length < 600 → YieldAt Fence.wide m Try.prog l (encT x) W fun e W' =>
      (e = .returned (.bool true) ∧ J (pre ++ [x]) W' ∧ KpL bl W W') ∨ (e = .returned (.bool false) ∧ Jx (pre ++ [x]) W'))
    (hP : P ≤ 23) (hP2 : 2 ≤ P) (W : World) (hp : W.cell? ⟨Bp, 0, none⟩ = some (.int .i64 P)) (ht : W.cell? ⟨Bt, 0, none⟩ = some (.int .i64 2)) (hn : Bp ≠ bl) (hbl : bl < W.heap.size) (hJ : AbidesFrom W.heap.size J) (hj : J [] W) :
    Calls Try.prog 34 #[.func (.yield l) #[] #[], .pointer (some ⟨Bp, 0, none⟩), .pointer (some ⟨Bt, 0, none⟩)] W fun e W' => (∃ v, e = .returned v) ∧ ((∃ xs, 1 ≤ xs.length ∧ J xs W') ∨ (∃ pre, True ∧ Jx pre W')) := by
  have hJd : ∀ pre W, J pre W → J pre W.drew := fun pre W h => hJ pre W W.drew none h ⟨rfl, rfl, rfl, Nat.le_refl _, fun _ _ _ => rfl⟩ (fun r e => by cases e)
  have hJa : ∀ pre W o, J pre W → J pre (W.alloc o) := fun pre W o h => hJ pre W _ none h (World.grownBy_alloc W o none) (fun r e => by cases e)
  obtain ⟨W2, hW2⟩ : ∃ W2, W2 = (W.alloc (.cells #[.func (.yield l) #[] #[]] 63)).alloc (.cells #[.func (.func 35) #[] #[.pointer (some ⟨W.heap.size, 0, none⟩), .pointer (some ⟨Bp, 0, none⟩), .pointer (some ⟨W.heap.size + 1, 0, none⟩)]] 64) := ⟨_, rfl⟩
  have hB2 : Boxes P l W.heap.size Bp (W.heap.size + 1) bl W2 := by
    have E2 : Ext W W2 := by rw [hW2]; exact ((Ext.refl W).alloc _).alloc _
    refine ⟨?_, (E2.cell (World.block_lt_of_cell? W _ hp)).trans hp, ?_, by omega, hn, by omega⟩
    · rw [hW2]; exact ((Blk.new W _ _).alloc _).one
    · rw [hW2]; exact (Blk.new' _ _ _ (by simp)).one
  have hJ2 : J [] W2 := by rw [hW2]; exact hJa _ _ _ (hJa _ _ _ hj)
  have HC := Lib.hid (choose2 (h0 := fun fr x pre W => choose0 hY fr x pre W) hJd hP hP2 W2 hB2 hJ2)
  have k0 : W2.cell? ⟨Bt, 0, none⟩ = some (.int .i64 2) := by rw [hW2]; exact ((((Ext.refl W).alloc _).alloc _).cell (World.block_lt_of_cell? W _ ht)).trans ht
  rw [hW2] at HC k0
  clear hY hJd hJa hB2 hJ2 hJ hj hW2
  go_enter Try.func34, Try.ntmps34
  go_wp2_with fail
  refine Calls.mono HC.out ?_
  rintro e W3 ⟨v, rfl, hch⟩
  have HCH := Lib.hid hch
  clear hch k0
  go_wp2
  refine bodyPost_end (v := .tuple #[]) (by simp [results, Try.results34, go_sem]) rfl ⟨⟨_, rfl⟩, ?_⟩
  rcases HCH.out with ⟨_, ⟨pre, h1, h2, _⟩, _⟩ | ⟨_, q, h1⟩
  · exact .inl ⟨pre, h2, h1⟩
  · exact .inr ⟨q, trivial, h1⟩

/-- What choices(P, 2) hands back gives sets of two points, one at the least. -/
theorem iter_stops (n : Nat) (hP : P ≤ 23) (hP2 : 2 ≤ P) (w : World) (hp : w.cell? ⟨Bp, 0, none⟩ = some (.int .i64 P)) (ht : w.cell? ⟨Bt, 0, none⟩ = some (.int .i64 2)) (hn : Bp ≠ bl) (hbl : bl < w.heap.size) :
    SeqStopsK Fence.wide n Try.prog 34 #[.pointer (some ⟨Bp, 0, none⟩), .pointer (some ⟨Bt, 0, none⟩)] (fun x : Two P => encT x) (KpL bl) (fun xs => 1 ≤ xs.length) (fun _ => True) 600 w := fun l J Jx W hW hJ hJx hY h0 =>
  callsIn_wide.2 (iter_any (fun m pre x W h1 h2 => YieldAt.anyDepth rfl m (hY pre x W h1 h2)) hP hP2 W
    ((hW.cell (p := ⟨Bp, 0, none⟩) (World.block_lt_of_cell? w _ hp)).trans hp) ((hW.cell (p := ⟨Bt, 0, none⟩) (World.block_lt_of_cell? w _ ht)).trans ht) hn (Nat.lt_of_lt_of_le hbl hW.size) hJ h0)

end
end Go.Proofs.Ytkgdohoandfaeaa
