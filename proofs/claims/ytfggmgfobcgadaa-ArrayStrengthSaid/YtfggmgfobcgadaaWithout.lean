/- What slices.Delete answers at a list of the call's own, one place taken out; what array.without answers. -/
import Derived.Test.YtfggmgfobcgadaaClone
import Derived.Test.YtfggmgfobcgadaaBlk
import Derived.Deep.Upon
namespace Go.Proofs.Ytfggmgfobcgadaa
open Go.RowKit

/-- A list without a place. -/
def cut (xs : List Int) (i : Nat) : List Int := xs.take i ++ xs.drop (i + 1)
theorem cut_length {xs : List Int} {i : Nat} (hi : i < xs.length) : (cut xs i).length = xs.length - 1 := by unfold cut; simp; omega
/-- The values that are moved to the left. -/
def movedV (xs : List Int) (i : Nat) : List Value := ints (xs.drop (i + 1))
theorem movedV_length (xs : List Int) (i : Nat) : (movedV xs i).length = xs.length - (i + 1) := by unfold movedV; rw [ints_length, List.length_drop]
theorem movedV_get {xs : List Int} {i j : Nat} (hj : j < xs.length - (i + 1)) : (movedV xs i)[j]? = some (.int .i64 (nth xs (i + 1 + j))) := by
  unfold movedV
  rw [ints_get _ _ (by rw [List.length_drop]; exact hj), nth_eq _ _ (by rw [List.length_drop]; exact hj), nth_eq _ _ (by omega), List.getElem_drop]

theorem RowOf.setCells {e : TypeId} {B g n cap : Nat} : ∀ (vs : List Value) (o : Nat) (w : World) (xs : List Value), RowOf e w B (some ⟨g, 0, none⟩) n cap xs → o + vs.length ≤ xs.length →
    RowOf e (w.setCells g o vs) B (some ⟨g, 0, none⟩) n cap (xs.take o ++ vs ++ xs.drop (o + vs.length))
  | [], o, w, xs, h, _ => by simpa [World.setCells] using h
  | v :: vs, o, w, xs, h, hl => by
    have h1 := RowOf.setCells vs (o + 1) _ _ (h.stored o v) (by simp at hl ⊢; omega)
    have e1 : (xs.set o v).take (o + 1) ++ vs ++ (xs.set o v).drop (o + 1 + vs.length) = xs.take o ++ (v :: vs) ++ xs.drop (o + (v :: vs).length) := by
      simp at hl
      have ho : o < xs.length := by omega
      have e2 : (xs.set o v).take (o + 1) = xs.take o ++ [v] := by
        rw [List.take_add_one, List.take_set, List.set_eq_of_length_le (by simp; omega)]
        simp [ho]
      rw [List.drop_set_of_lt (by omega), e2, List.length_cons, show o + 1 + vs.length = o + (vs.length + 1) by omega]
      simp
    rw [e1] at h1
    exact h1
theorem RowOf.shrink {e : TypeId} {w : World} {B g n cap : Nat} {xs : List Value} (h : RowOf e w B (some ⟨g, 0, none⟩) (n + 1) cap xs) : RowOf e w B (some ⟨g, 0, none⟩) n cap (xs.take n) := by
  obtain ⟨h1, h2⟩ := h
  refine ⟨by rw [List.length_take]; omega, .inr ?_⟩
  rcases h2 with ⟨h3, _⟩ | ⟨g', c, cur, h3, h4, h5, h6, h7, h8, h9⟩
  · simp at h3
  · obtain ⟨rfl, -, rfl⟩ : g = g' ∧ n + 1 = n + 1 ∧ cap = c := by simpa using h3
    exact ⟨g, cap, cur, rfl, h4, h5, by omega, h7, h8, by rw [← h9, List.take_take]; congr 1; omega⟩

/-- A store behind the row's end. -/
theorem RowOf.past {e : TypeId} {w : World} {B g n cap : Nat} {xs : List Value} (h : RowOf e w B (some ⟨g, 0, none⟩) n cap xs) (v : Value) : RowOf e (w.setCell ⟨g, n, none⟩ v) B (some ⟨g, 0, none⟩) n cap xs := by
  obtain ⟨h1, h2⟩ := h
  refine ⟨h1, .inr ?_⟩
  rcases h2 with ⟨h3, _⟩ | ⟨g', c, cur, h3, h4, h5, h6, h7, h8, h9⟩
  · simp at h3
  · obtain ⟨rfl, -, rfl⟩ : g = g' ∧ n = n ∧ cap = c := by simpa using h3
    refine ⟨g, cap, cur.setIfInBounds n v, rfl, h4, ?_, h6, h7, by simp [h8], by rw [Array.toList_setIfInBounds, List.take_set, List.set_eq_of_length_le (by simp; omega), h9]⟩
    have := Blk.set (w := w) (b := g) (cs := cur) (t := e) h5 n v
    exact this
theorem int_zero : ∀ w, (zeroValue 3).run Try.prog w = .ok (.int .i64 0) w := fun w => by
  obtain ⟨i, hi, hz, -, -⟩ := info_parts eInt.inf
  simp [zeroValue, typeInfo, hi, hz]

theorem grown_setCells (g : Nat) : ∀ (vs : List Value) (o : Nat) (w : World), w.grownBy (w.setCells g o vs) (some g)
  | [], _, w => ⟨rfl, rfl, rfl, Nat.le_refl _, fun _ _ _ => rfl⟩
  | v :: vs, o, w => by
    have h : w.grownBy (w.setCell ⟨g, o, none⟩ v) (some g) := ⟨rfl, rfl, rfl, by simp, fun i _ hne => Below.heap_setCell w _ _ i (fun e => hne (by rw [e]))⟩
    exact h.trans (grown_setCells g vs (o + 1) _)

set_option maxHeartbeats 4000000 in
set_option maxRecDepth 1000000 in
theorem delete_at (n i g cap B : Nat) (xs : List Int) (w : World) (hn : xs.length = n) (hi : i < n) (hbig : n ≤ 1000) (h : RowOf 3 w B (some ⟨g, 0, none⟩) n cap (ints xs)) :
    Calls Try.prog 40 #[.slice (some ⟨g, 0, none⟩) n cap, .int .i64 i, .int .i64 ((i : Int) + 1)] w fun e w' =>
      e = .returned (.slice (some ⟨g, 0, none⟩) (n - 1 : Nat) cap) ∧ RowOf 3 w' B (some ⟨g, 0, none⟩) (n - 1) cap (ints (cut xs i)) ∧ ∀ B0 w0, Below B0 w0 w → B0 ≤ g → Below B0 w0 w' := by
  obtain ⟨i0, hi0, hz0, hz1, hz2⟩ := info_parts eInt.inf
  obtain ⟨hB, hg, hc, hf⟩ := h.known
  have hcap : n ≤ cap ∧ cap ≤ maxLen := by
    rcases h.2 with ⟨h3, _⟩ | ⟨g', c, cur, h3, h4, h5, h6, h7, h8, h9⟩
    · simp at h3
    · obtain ⟨-, -, rfl⟩ : g = g' ∧ n = n ∧ cap = c := by simpa using h3
      exact ⟨h6, h7⟩
  obtain ⟨hcap1, hcap2⟩ := hcap
  unfold maxLen at hcap2
  have hml := movedV_length xs i
  rw [hn] at hml
  obtain ⟨A, hA, hnews⟩ : ∃ A : Addr, (if cap = i + 1 then some (⟨g, 0, none⟩ : Addr) else some ⟨g, i + 1, none⟩) = some A ∧ Hid (∀ j u, (movedV xs i)[j]? = some u → w.drew.cell? (A.add j) = some u) := by
    by_cases h : cap = i + 1
    · refine ⟨⟨g, 0, none⟩, by simp [h], fun j u hu => ?_⟩
      have h0 : (movedV xs i).length = 0 := by omega
      rw [List.length_eq_zero_iff.1 h0] at hu
      simp at hu
    · refine ⟨⟨g, i + 1, none⟩, by simp [h], fun j u hu => ?_⟩
      have hj : j < n - (i + 1) := by
        have := (List.getElem?_eq_some_iff.1 hu).1
        omega
      rw [movedV_get (by omega)] at hu
      rw [Addr.add_lit]
      rw [← hu]
      exact hc (i + 1 + j) _ (ints_get xs _ (by omega))
  have s1 : Hid ((movedV xs i).length = (n - (i + 1)) * 1) := by show _ = _; omega
  have s2 : Hid (∀ u ∈ movedV xs i, u.oneCell' = true) := ints_oneCell' _
  have s3 : Hid (∀ j, j < (movedV xs i).length → (w.drew.cell? ⟨g, 0 + i * 1 + j, none⟩).isSome = true ∧ w.drew.frozen? ⟨g, 0 + i * 1 + j, none⟩ = false) := by
    intro j hj
    rw [show 0 + i * 1 + j = i + j by omega]
    exact ⟨by show (w.cell? _).isSome = true; rw [hc (i + j) _ (ints_get xs _ (by omega))]; rfl, hf (i + j)⟩
  have HR : Hid (RowOf 3 (w.drew.setCells g (0 + i * 1) (movedV xs i)) B (some ⟨g, 0, none⟩) n cap ((ints xs).take i ++ movedV xs i ++ (ints xs).drop (n - 1))) := by
    have h1 := RowOf.setCells (movedV xs i) (0 + i * 1) w.drew (ints xs) h (by rw [ints_length]; omega)
    rw [show 0 + i * 1 + (movedV xs i).length = n - 1 by omega, show 0 + i * 1 = i by omega] at h1
    rw [show 0 + i * 1 = i by omega]
    exact h1
  have HGR : Hid (w.drew.grownBy (w.drew.setCells g (0 + i * 1) (movedV xs i)) (some g)) := grown_setCells g _ _ _
  obtain ⟨h2a, h2b, h2c, h2d⟩ := HR.out.known
  have hlast := h2c (n - 1) (.int .i64 (nth xs (n - 1))) (by
    rw [List.getElem?_append_right (by simp [ints_length]; omega)]
    simp only [List.length_append, List.length_take, ints_length]
    rw [List.getElem?_drop, show n - 1 + (n - 1 - (min i xs.length + (movedV xs i).length)) = n - 1 by omega]
    exact ints_get xs _ (by omega))
  have hlf := h2d (n - 1)
  have HCUT : Hid (((ints xs).take i ++ movedV xs i ++ (ints xs).drop (n - 1)).take (n - 1) = ints (cut xs i)) := by
    show _ = _
    rw [List.take_left' (by simp [ints_length]; omega)]
    unfold cut movedV ints
    simp [List.map_take]
  have hic : i ≤ cap := by omega
  have hwr : IntKind.i64.wrap ((i : Int) + 1) = (i : Int) + 1 := IntWalk.i64_in _ (by omega)
  have hp0 : (0 : Int) ≤ (i : Int) + 1 := by omega
  have hp1 : (i : Int) + 1 ≤ (n : Int) := by omega
  have hp2 : ((i : Int) + 1).toNat = i + 1 := by omega
  have hne : ((i : Int) == (i : Int) + 1) = false := by rw [beq_eq_false_iff_ne]; omega
  have hin : i + (n - (i + 1)) = n - 1 := by omega
  clear hc hf h hml h2c h2d
  go_enter Try.func40, Try.ntmps40
  go_wp2_with fail
  go_region_law (refine step_append_room rfl (.tmp 22) (.tmp 25) 40 rfl 3 i0 1 Try.underlying40 hi0 hz1 g 0 i cap (by simp [Act.eval, Act.put]) A (n - (i + 1)) (cap - (i + 1)) (movedV xs i) (by simp [Act.eval, Act.put]) s1.out hnews.out s2.out (by omega) s3.out ?_)
  obtain ⟨w1, hw1⟩ : ∃ w1, w1 = w.drew.setCells g i (movedV xs i) := ⟨_, rfl⟩
  rw [show 0 + i * 1 = i by omega] at HR HGR h2b hlast hlf
  rw [← hw1] at HR HGR h2b hlast hlf ⊢
  have hone : n - (n - 1) = 1 := by omega
  have hcl : ∀ ty, (Builtin.clear_ #[40] ty #[.slice (some ⟨g, n - 1, none⟩) (n - (n - 1)) (cap - (n - 1))]).run Try.prog w1 = .ok (.tuple #[]) (w1.setCell ⟨g, n - 1, none⟩ (.int .i64 0)) := fun ty => by
    have h := Lib.run_clear_slice (P := Try.prog) w1 40 3 ty (.int .i64 0) Try.underlying40 int_zero rfl rfl g (n - 1) 1 (cap - (n - 1)) (by omega)
      (fun j hj => by rw [show n - 1 + j = n - 1 by omega, hlast]; rfl) (fun j hj => by rw [show n - 1 + j = n - 1 by omega]; exact hlf)
    rw [hone]
    exact h
  clear hw1 s1 s2 s3 hnews hA hwr hp0 hp1 hp2 hone
  go_wp2
  go_ret
  obtain ⟨m, rfl⟩ : ∃ m, n = m + 1 := ⟨n - 1, by omega⟩
  have hr := HR.out.shrink
  rw [show m + 1 - 1 = m by omega] at HCUT hr ⊢
  rw [HCUT.out] at hr
  refine ⟨by simp, hr.past (.int .i64 0), fun B0 w0' hb hB0 => ?_⟩
  exact Below.setCell (Below.grown (hb.trans ((World.drewN_below _ _ 1))) HGR.out (by show B0 ≤ w.heap.size; omega) (fun k hk => by cases hk; exact hB0)) hB0 _

theorem ReadsAt {w : World} {ao : Option Addr} {xs : List Int} (h : Reads w ao (ints xs)) (hn : 0 < xs.length) : ∃ b off, ao = some ⟨b, off, none⟩ ∧ b < w.heap.size ∧ ∀ j u, (ints xs)[j]? = some u → w.cell? ⟨b, off + j, none⟩ = some u := by
  obtain ⟨b, off, h1, h2, h3⟩ := Reads.int h hn
  refine ⟨b, off, h1, h2, fun j u hu => ?_⟩
  have hj : j < xs.length := by have := (List.getElem?_eq_some_iff.1 hu).1; simpa [ints] using this
  rw [h3 j hj, ← hu, ints_get xs j hj]

set_option maxHeartbeats 1000000 in
theorem without_at (n i : Nat) (ao : Option Addr) (cap : Nat) (xs : List Int) (w : World) (hn : xs.length = n) (hi : i < n) (hbig : n ≤ 8) (hr : Reads w ao (ints xs)) :
    Calls Try.prog 27 #[.slice ao n cap, .int .i64 i] w fun e w' =>
      ∃ ao' cap', e = .returned (.slice ao' (n - 1 : Nat) cap') ∧ RowOf 3 w' w.heap.size ao' (n - 1) cap' (ints (cut xs i)) ∧ Ext w w' := by
  obtain ⟨b, off, rfl, hb, hc⟩ := ReadsAt hr (by omega)
  have HC := Lib.hid (clone_any b off n cap xs w hn (by omega) (by omega) hb hc)
  have HD : Hid (∀ g cap B w, RowOf 3 w B (some ⟨g, 0, none⟩) n cap (ints xs) → _) := fun g cap B w h => delete_at n i g cap B xs w hn hi (by omega) h
  have hwr : IntKind.i64.wrap ((i : Int) + 1) = (i : Int) + 1 := IntWalk.i64_in _ (by omega)
  have HN := Lib.hid hn
  clear hr hc hn
  go_enter Try.func27, Try.ntmps27
  go_wp2_with fail
  refine Calls.mono HC.out ?_
  rintro e w1 ⟨ao1, cap1, rfl, hrow, hx⟩
  obtain ⟨g, rfl⟩ : ∃ g, ao1 = some ⟨g, 0, none⟩ := by
    rcases hrow.2 with ⟨_, h0⟩ | ⟨g, c, cur, h1, _⟩
    · omega
    · have : ao1 = some ⟨g, 0, none⟩ ∧ cap1 = c := by simpa using h1
      exact ⟨g, this.1⟩
  have hg := hrow.block g rfl
  go_wp2_with fail
  refine Calls.mono (HD.out g cap1 w.heap.size w1 hrow) ?_
  rintro e w2 ⟨rfl, hr2, hb2⟩
  have HR2 := Lib.hid hr2
  have HX2 : Hid (Ext w w2) := hb2 _ _ hx hg.1
  clear hr2 hb2 hrow hx hg
  go_wp2
  go_ret
  exact ⟨_, cap1, rfl, HR2.out, HX2.out⟩

end Go.Proofs.Ytfggmgfobcgadaa
