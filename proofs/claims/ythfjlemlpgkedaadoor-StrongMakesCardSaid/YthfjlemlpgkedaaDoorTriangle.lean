/- What strong.Triangle answers. -/
import Derived.Test.YthfjlemlpgkedaaDoorJoined
import Derived.BigRegion
namespace Go.Proofs.YthfjlemlpgkedaaDoor
open Go.RowKit

/-- A row of pairs of the call's own. -/
def Row2 (w : World) (B : Nat) (ao : Option Addr) (n cap : Nat) (xs : List Int) : Prop := w.ownsRow B 48 2 (.slice ao n cap) n (ints xs)

theorem wpList_appPair {w : World} {ops : Array Oper} {rest : List Oper} {o : Oper} {a : Act} {Q : Exit → Act → World → Prop} {y z : Int}
    (hgd : o.guard = none) (s x : Operand) (ho : o.op = .call { callee := .builtin .append, args := #[s, x], argTypes := #[47, 47] })
    (B : Nat) {ao : Option Addr} {n cap : Nat} {xs : List Int} (hs : a.eval s = .slice ao n cap) (hown : Row2 w B ao n cap xs)
    (hx : a.eval x = .slice (some ⟨w.heap.size, 0, none⟩) 1 1) (hn : n ≤ 1000) (hB : B ≤ w.heap.size)
    (h : ∀ ao' cap' w', Row2 w' B ao' (n + 1) cap' (xs ++ [y, z]) → w.grownBy w' (Value.slice ao n cap).ownBlock → wpList Tryd.prog ops Q rest (a.put o.dst (.slice ao' (n + 1) cap')) w') :
    wpList Tryd.prog ops Q (o :: rest) a (w.alloc (.cells #[.int .i64 y, .int .i64 z] 48)) := by
  have hinf : (Tryd.prog.info? 48).map (fun i => (i.zero, i.size, i.bytes)) = some (some (.agg #[.int .i64 0, .int .i64 0]), 2, 16) := by kernel_rfl
  obtain ⟨i, hi, hz, hsz, hby⟩ := info_parts hinf
  refine wpList_append_own _ hgd s x 47 ho B 48 i (.agg #[.int .i64 0, .int .i64 0]) 2 16 Tryd.underlying47 hi hz hsz hby rfl (by decide) _ n (ints xs) hs (World.ownsRow.alloc hown _) ⟨w.heap.size, 0, none⟩ 1 1
    [.int .i64 y, .int .i64 z] hx rfl ?_ ?_ ?_ ?_ (by simp; omega) ?_
  · intro j u hu
    match j, hu with
    | 0, hu => simp at hu; subst hu; simp [Addr.add, World.cell?_alloc_at]
    | 1, hu => simp at hu; subst hu; simp [Addr.add, World.cell?_alloc_at]
  · intro u hu; simp at hu; rcases hu with rfl | rfl <;> rfl
  · unfold maxLen; omega
  · omega
  · intro v' w' hown' hgrow _
    have hsh : ∃ ao' cap', v' = .slice ao' (n + 1) cap' := by
      rcases hown'.2 with ⟨_, h0⟩ | ⟨g, c, cur, h1, _⟩
      · omega
      · exact ⟨_, c, h1⟩
    obtain ⟨ao', cap', rfl⟩ := hsh
    refine h ao' cap' w' (by unfold Row2; rw [ints_append]; exact hown') ⟨hgrow.os, hgrow.tape, hgrow.output, by have := hgrow.size; simp at this; omega, fun k hk hne => ?_⟩
    rw [hgrow.block k (by simp; omega) hne]
    exact Below.heap_alloc w _ k hk

theorem Row2.cells {w : World} {B : Nat} {ao : Option Addr} {n cap : Nat} {xs : List Int} (h : Row2 w B ao n cap xs) (hn : 0 < n) :
    ∃ g, ao = some ⟨g, 0, none⟩ ∧ g < w.heap.size ∧ B ≤ g ∧ ∀ j, j < n * 2 → w.cell? ⟨g, j, none⟩ = some (.int .i64 (nth xs j)) := by
  have hl := h.1
  rw [ints_length] at hl
  rcases h.2 with ⟨_, h0⟩ | ⟨g, c, cur, h1, h2, h3, _⟩
  · omega
  · obtain ⟨rfl, _⟩ : ao = some ⟨g, 0, none⟩ ∧ cap = c := by simpa using h1
    refine ⟨g, rfl, (World.ownsRow.lt h g rfl).2, h2, fun j hj => ?_⟩
    rw [World.ownsRow.cellAt h j hj, ints_get xs j (by omega)]

/-- The pairs, one behind the other. -/
def triRow (a : Nat) : Nat → List Int
  | 0 => []
  | b + 1 => triRow a b ++ if a < b then [(a : Int), (b : Int)] else []
def triUp (n : Nat) : Nat → List Int
  | 0 => []
  | a + 1 => triUp n a ++ triRow a n
def triFlat (n : Nat) : List Int := triUp n n
/-- How many pairs stand ahead of one. -/
def triCnt (n a b : Nat) : Nat := a * (2 * n - a - 1) / 2 + b - a - 1
def triNum (n : Nat) : Nat := n * (n - 1) / 2
theorem triCnt_end (n : Nat) (h2 : 2 ≤ n) (h7 : n ≤ 7) : ∀ a, a < n → triCnt n (a + 1) (a + 2) = triCnt n a n ∧ triCnt n n (n + 1) = triNum n ∧ triCnt n a (a + 1) ≤ 21 := by
  have h : n = 2 ∨ n = 3 ∨ n = 4 ∨ n = 5 ∨ n = 6 ∨ n = 7 := by omega
  rcases h with rfl | rfl | rfl | rfl | rfl | rfl <;> decide
theorem triFlat_step (n : Nat) (h2 : 2 ≤ n) (h7 : n ≤ 7) : ∀ a, a < n → ∀ b, b < n → a < b →
    (triFlat n).take (2 * triCnt n a b) ++ [(a : Int), b] = (triFlat n).take (2 * (triCnt n a b + 1)) ∧ triCnt n a (b + 1) = triCnt n a b + 1 ∧ triCnt n a b < 21 := by
  have h : n = 2 ∨ n = 3 ∨ n = 4 ∨ n = 5 ∨ n = 6 ∨ n = 7 := by omega
  rcases h with rfl | rfl | rfl | rfl | rfl | rfl <;> decide +kernel
theorem triFlat_all (n : Nat) (h2 : 2 ≤ n) (h7 : n ≤ 7) : (triFlat n).take (2 * triNum n) = triFlat n ∧ (triFlat n).length = triNum n * 2 ∧ 1 ≤ triNum n ∧ triNum n ≤ 21 := by
  have h : n = 2 ∨ n = 3 ∨ n = 4 ∨ n = 5 ∨ n = 6 ∨ n = 7 := by omega
  rcases h with rfl | rfl | rfl | rfl | rfl | rfl <;> decide +kernel
/-- Do two pairs share a number? -/
def triJoin (n i j : Nat) : Bool :=
  nth (triFlat n) (i * 2) == nth (triFlat n) (j * 2) || nth (triFlat n) (i * 2) == nth (triFlat n) (j * 2 + 1) || nth (triFlat n) (i * 2 + 1) == nth (triFlat n) (j * 2) || nth (triFlat n) (i * 2 + 1) == nth (triFlat n) (j * 2 + 1)

set_option maxHeartbeats 4000000 in
theorem triangle_cell (n N g cap i j r : Nat) (w : World) (hN : N ≤ 21) (hi : i < N) (hj : j < N) (hb : Blk w r #[.slice (some ⟨g, 0, none⟩) N cap] 47)
    (hc : ∀ k, k < N * 2 → w.cell? ⟨g, k, none⟩ = some (.int .i64 (nth (triFlat n) k))) :
    Calls Tryd.prog 23 #[.int .i64 i, .int .i64 j, .pointer (some ⟨r, 0, none⟩)] w fun e w' => e = .returned (.bool (triJoin n i j)) ∧ Ext w w' := by
  have k0 := hb.one
  have hbl := hb.lt
  have hgl : g < w.heap.size := World.block_lt_of_cell? w _ (hc 0 (by omega))
  have k1 : (w.alloc (.cells #[.int .i64 0, .int .i64 0] 48)).cell? ⟨r, 0, none⟩ = some (.slice (some ⟨g, 0, none⟩) N cap) := (hb.alloc _).one
  have k2 : ((w.alloc (.cells #[.int .i64 0, .int .i64 0] 48)).alloc (.cells #[.int .i64 0, .int .i64 0] 48)).cell? ⟨r, 0, none⟩ = some (.slice (some ⟨g, 0, none⟩) N cap) := ((hb.alloc _).alloc _).one
  have hA : ∀ k, k < N * 2 → (w.alloc (.cells #[.int .i64 0, .int .i64 0] 48)).cell? ⟨g, k, none⟩ = some (.int .i64 (nth (triFlat n) k)) ∧ ((w.alloc (.cells #[.int .i64 0, .int .i64 0] 48)).alloc (.cells #[.int .i64 0, .int .i64 0] 48)).cell? ⟨g, k, none⟩ = some (.int .i64 (nth (triFlat n) k)) := fun k hk =>
    ⟨(((Ext.refl w).alloc _).cell hgl).trans (hc k hk), ((((Ext.refl w).alloc _).alloc _).cell hgl).trans (hc k hk)⟩
  obtain ⟨d0, e0⟩ := hA (i * 2) (by omega)
  obtain ⟨d1, e1⟩ := hA (i * 2 + 1) (by omega)
  obtain ⟨d2, e2⟩ := hA (j * 2) (by omega)
  obtain ⟨d3, e3⟩ := hA (j * 2 + 1) (by omega)
  have c0 := hc (i * 2) (by omega)
  have c1 := hc (i * 2 + 1) (by omega)
  have c2 := hc (j * 2) (by omega)
  have c3 := hc (j * 2 + 1) (by omega)
  unfold triJoin
  obtain ⟨p0, hp0⟩ : ∃ x, nth (triFlat n) (i * 2) = x := ⟨_, rfl⟩
  obtain ⟨p1, hp1⟩ : ∃ x, nth (triFlat n) (i * 2 + 1) = x := ⟨_, rfl⟩
  obtain ⟨q0, hq0⟩ : ∃ x, nth (triFlat n) (j * 2) = x := ⟨_, rfl⟩
  obtain ⟨q1, hq1⟩ : ∃ x, nth (triFlat n) (j * 2 + 1) = x := ⟨_, rfl⟩
  rw [hp0] at c0 d0 e0 ⊢
  rw [hp1] at c1 d1 e1 ⊢
  rw [hq0] at c2 d2 e2 ⊢
  rw [hq1] at c3 d3 e3 ⊢
  clear hp0 hp1 hq0 hq1 hc hb hA
  have hcs : ((p0 == q0) = true) ∨ ((p0 == q0) = false ∧ (p0 == q1) = true) ∨ ((p0 == q0) = false ∧ (p0 == q1) = false ∧ (p1 == q0) = true) ∨
      ((p0 == q0) = false ∧ (p0 == q1) = false ∧ (p1 == q0) = false ∧ (p1 == q1) = true) ∨ ((p0 == q0) = false ∧ (p0 == q1) = false ∧ (p1 == q0) = false ∧ (p1 == q1) = false) := by
    cases (p0 == q0) <;> cases (p0 == q1) <;> cases (p1 == q0) <;> cases (p1 == q1) <;> simp
  rcases hcs with b1 | ⟨b1, b2⟩ | ⟨b1, b2, b3⟩ | ⟨b1, b2, b3, b4⟩ | ⟨b1, b2, b3, b4⟩
  all_goals
    go_enter Tryd.func23, Tryd.ntmps23
    go_wp2_with fail
    go_region
    all_goals
      go_wp2
      go_ret
      exact ⟨by simp [*], (((Ext.refl w).alloc _).alloc _).drew⟩

/-- Under way. -/
structure TrSt (w wr : World) (r n m : Nat) (ao : Option Addr) (cap : Nat) : Prop where
  ext : Ext w wr
  res : Blk wr r #[.int .i64 0, .slice none 0 0] 26
  box : Blk wr (r + 1) #[.slice ao m cap] 47
  row : Row2 wr (r + 2) ao m cap ((triFlat n).take (2 * m))
  r0 : w.heap.size ≤ r
theorem TrSt.step {w wr w4 : World} {r n m : Nat} {ao ao' : Option Addr} {cap cap' : Nat} {y z : Int} (h : TrSt w wr r n m ao cap) (hr : Row2 w4 (r + 2) ao' (m + 1) cap' ((triFlat n).take (2 * m) ++ [y, z]))
    (hg : wr.grownBy w4 (Value.slice ao m cap).ownBlock) (hs : (triFlat n).take (2 * m) ++ [y, z] = (triFlat n).take (2 * (m + 1))) :
    Blk w4 (r + 1) #[.slice ao m cap] 47 ∧ TrSt w (w4.setCell ⟨r + 1, 0, none⟩ (.slice ao' (m + 1) cap')) r n (m + 1) ao' cap' := by
  have hr0 := h.r0
  have hk : ∀ k, (Value.slice ao m cap).ownBlock = some k → r + 2 ≤ k := fun k hk => (World.ownsRow.lt h.row k hk).1
  have hb : ∀ {k : Nat} {cs : Array Value} {t : TypeId}, Blk wr k cs t → k < r + 2 → Blk w4 k cs t := fun hb hlt =>
    (hg.block _ hb.lt (fun e => by have := hk _ e.symm; omega)).trans hb
  have hbx := hb h.box (by omega)
  refine ⟨hbx, ?_, (hb h.res (by omega)).beside _ (by simp) _, hbx.set 0 _, ?_, hr0⟩
  · exact (Below.grown h.ext hg h.ext.size (fun k hk' => by have := hk k hk'; omega)).setCell (by simp; omega) _
  · rw [← hs]
    have hr2 := hr
    refine World.ownsRow.kept hr2 (w' := w4.setCell ⟨r + 1, 0, none⟩ (.slice ao' (m + 1) cap')) (row := some (r + 1)) ⟨rfl, rfl, rfl, by simp, fun i _ hne => Below.heap_setCell w4 _ _ i (fun e => hne (by rw [e]))⟩ ?_
    right
    intro e
    have := (World.ownsRow.lt hr2 _ e).1
    omega

set_option maxHeartbeats 4000000 in
set_option maxRecDepth 1000000 in
theorem triangle_ok (n : Nat) (w : World) (h2 : 2 ≤ n) (h7 : n ≤ 7) :
    Calls Tryd.prog 7 #[.int .i64 n] w fun e w' =>
      ∃ ao cap, e = .returned (.tuple #[.agg #[.int .i64 (triNum n : Nat), .slice ao (triNum n * triNum n) cap], .int .i64 0]) ∧ RowOf 3 w' w.heap.size ao (triNum n * triNum n) cap (ints (tab (flat (triNum n) (joinCell (triJoin n))) (triNum n * triNum n))) ∧ Ext w w' := by
  have HE := Lib.hid (triCnt_end n h2 h7)
  have HS := Lib.hid (triFlat_step n h2 h7)
  have HA := Lib.hid (triFlat_all n h2 h7)
  obtain ⟨N, hN⟩ : ∃ N, triNum n = N := ⟨_, rfl⟩
  rw [hN] at HE HA ⊢
  clear hN
  obtain ⟨N2, hN2⟩ : ∃ N2, N * N = N2 := ⟨_, rfl⟩
  rw [hN2]
  have HN2 := Lib.hid hN2
  clear hN2
  go_enter Tryd.func7, Tryd.ntmps7
  go_wp2
  obtain ⟨r, hr⟩ : ∃ r, r = w.heap.size := ⟨_, rfl⟩
  have H0 : Hid (TrSt w ((w.alloc (.cells #[.int .i64 0, .slice none 0 0] 26)).alloc (.cells #[.slice none 0 0] 47)) r n 0 none 0) :=
    ⟨((Ext.refl w).alloc _).alloc _, by rw [hr]; exact (Blk.new _ _ _).alloc _, Blk.new' _ _ _ (by simp [hr]), by unfold Row2; simpa [ints] using World.ownsRow_nil _ _ _ _, by omega⟩
  obtain ⟨w0, hw0⟩ : ∃ w0, w0 = ((w.alloc (.cells #[.int .i64 0, .slice none 0 0] 26)).alloc (.cells #[.slice none 0 0] 47)) := ⟨_, rfl⟩
  rw [← hw0] at H0 ⊢
  rw [← hr]
  clear hw0 hr
  go_loopw [15] (fun a wr => ∃ (i : Nat) (ao : Option Addr) (cap : Nat), i ≤ n ∧ a = .int .i64 i ∧ TrSt w wr r n (triCnt n i (i + 1)) ao cap) (fun i _ => n - (intOf i).toNat)
  case atStart => exact ⟨0, none, 0, by omega, rfl, by rw [show triCnt n 0 (0 + 1) = 0 by simp [triCnt]]; exact H0.out⟩
  case round =>
    obtain ⟨i, ao, cap, hi, rfl, hf⟩ := hrel
    have HF1 := Lib.hid hf
    clear hf H0
    by_cases hin : i < n
    · go_wp2
      go_loopw [6] (fun a wi => ∃ (j m : Nat) (ao : Option Addr) (cap : Nat), i < j ∧ j ≤ n ∧ a = .int .i64 j ∧ Hid (m = triCnt n i j) ∧ TrSt w wi r n m ao cap) (fun i' _ => n - (intOf i').toNat)
      case atStart => exact ⟨i + 1, _, ao, cap, by omega, by omega, by go_num, rfl, HF1.out⟩
      case round =>
        obtain ⟨j, m, ao2, cap2, hij, hj, rfl, HM, hf2⟩ := hrel
        have HF2 := Lib.hid hf2
        clear hf2 HF1
        by_cases hjn : j < n
        · have hst := HS.out i hin j hjn hij
          rw [← HM.out] at hst
          obtain ⟨hs1, hs2, hs3⟩ := hst
          have HS1 := Lib.hid hs1
          have HS2 := Lib.hid hs2
          have k0 := HF2.out.box.one
          have hsz := HF2.out.box.lt
          clear hs1 hs2
          go_wp2_with (at_builtin; go_loud (refine wpList_appPair rfl (.tmp 25) (.tmp 29) rfl (r + 2) rfl HF2.out.row (by rfl) (by omega) (by omega) ?_; intro ao4 cap4 w4 hr4 hg4; have HG := Lib.hid (HF2.out.step hr4 hg4 HS1.out); have k4 := HG.out.1.one; have k5 := HG.out.1.f 0; clear hr4 hg4))
          go_roundw
          case rel => exact ⟨j + 1, m + 1, ao4, cap4, by omega, by omega, by go_num, HS2.out.symm, HG.out.2⟩
          case measure => simp [intOf]; omega
        · obtain rfl : j = n := by omega
          go_wp2
          go_roundw
          case rel => exact ⟨i + 1, ao2, cap2, by omega, by go_num, by
            have h := HF2.out
            rwa [HM.out, ← (HE.out i hin).1] at h⟩
          case measure => simp [intOf]; omega
    · obtain rfl : i = n := by omega
      have hcnt := (HE.out 0 (by omega)).2.1
      have hf := HF1.out
      rw [hcnt] at hf
      have HF2 := Lib.hid hf
      obtain ⟨ha1, ha2, ha3, ha4⟩ := HA.out
      have hrow := hf.row
      rw [ha1] at hrow
      obtain ⟨g, rfl, hg1, hg2, hc⟩ := hrow.cells (by omega)
      have HC := Lib.hid hc
      have k0 := hf.box.one
      clear hcnt hf HF1 ha1 ha2 hrow hc
      go_wp2_with (first
        | (go_at_call 13; refine Calls.mono (joined_any _ _ N (triJoin i) wr (by omega) (fun p q hp hq w' hx' => triangle_cell i N g cap p q (r + 1) w' ha4 hp hq (HF2.out.box.ext hx') (fun k hk => (hx'.cell hg1).trans (HC.out k hk))) (fun _ _ => rfl)) ?_; rintro e w2 ⟨ao2, cap2, rfl, hrow, hx2⟩; have HROW := Lib.hid hrow; have HX2 := Lib.hid hx2; rw [HN2.out] at HROW ⊢; have q1 := HF2.out.res.ext hx2; have q2 := q1.two; have q3 := q1.f 0; have q4 := q1.f 1; clear hrow hx2))
      have HB := Lib.hid ((q1.set 0 (.int .i64 N)).set 1 (.slice ao2 N2 cap2))
      have e0 := HB.out.c 0 (.int .i64 N) rfl
      have e1 := HB.out.c 1 (.slice ao2 N2 cap2) rfl
      have hr0 := HF2.out.r0
      have hwr := HF2.out.ext.size
      have hbl := HF2.out.res.lt
      refine bodyPost_ret (v := .tuple #[.agg #[.int .i64 N, .slice ao2 N2 cap2], .int .i64 0]) (by simp [results, Tryd.results7, go_sem, e0, e1]) rfl ⟨ao2, cap2, rfl, ?_, ?_⟩
      · exact ((HROW.out.beside ⟨r, 0, none⟩ (by simp; omega) _).beside ⟨r, 1, none⟩ (by simp; omega) _).mono (by omega)
      · exact ((HF2.out.ext.trans HX2.out).set (by simp; omega) _).set (by simp; omega) _

end Go.Proofs.YthfjlemlpgkedaaDoor
