/- What parterreref3.lead and Both answer. No conditions. -/
import Derived.Test.YthkafhmciapipaaDoorJkkmlnobmak
import Derived.Test.YthkafhmciapipaaDoorJmemdifaeah
import Derived.Deep.LoopGhost
import Derived.BigQuiet
namespace Go.Proofs.YthkafhmciapipaaDoor
open Go.RowKit
set_option linter.unusedVariables false

theorem leadOf_none {n : Nat} {f : Nat → Nat} (h : ∀ j, j < n → f j = 0) : leadOf n f = -1 := by
  unfold leadOf
  refine idxFrom_miss nz _ 0 fun j hj => ?_
  rw [nrow_length] at hj
  rw [nth_nrow f hj, h j hj]
  rfl

set_option maxHeartbeats 1000000 in
theorem leadRef_any (n : Nat) (vo : Option Addr) (vcap : Nat) (f : Nat → Nat) (w : World) (hn : n ≤ 100) (hr : Reads w vo (ints (tab (fun j => ((f j : Nat) : Int)) n))) :
    Calls Tryd.prog 35 #[.slice vo n vcap] w fun e w' => e = .returned (.int .i64 (leadOf n f)) ∧ w = w' := by
  have HR := Lib.hid hr
  clear hr
  go_enter Tryd.func35, Tryd.ntmps35
  go_wp2
  go_loopg [3] n (fun r x wr => ∃ i : Nat, i + r = n ∧ x = .int .i64 i ∧ (∀ t, t < i → f t = 0) ∧ w = wr)
  case atStart => exact ⟨0, by omega, rfl, fun t ht => by omega, rfl⟩
  case round =>
    obtain ⟨i, hir, rfl, hall, rfl⟩ := hrel
    have HA := Lib.hid hall
    clear hall
    cases gk with
    | zero =>
      obtain rfl : n = i := by omega
      have HV : Hid (leadOf n f = -1) := leadOf_none HA.out
      go_wp2
      exact bodyPost_ret (v := .int .i64 (-1)) (by simp [results, Tryd.results35, go_sem]) rfl ⟨by rw [HV.out], rfl⟩
    | succ r1 =>
      have hin : (i : Int) < (n : Int) := by omega
      have hin' : i < n := by omega
      obtain ⟨b, off, rfl, hb, hc⟩ := HR.out.int (by rw [tab_length]; omega)
      have t1 := hc i (by rw [tab_length]; exact hin')
      rw [nth_tab _ _ _ hin'] at t1
      have HHIT : Hid (f i ≠ 0 → leadOf n f = i) := fun h => leadOf_is hin' h HA.out
      have HNX : Hid (f i = 0 → ∀ t, t < i + 1 → f t = 0) := fun h t ht => by
        rcases Nat.lt_succ_iff_lt_or_eq.1 ht with h' | rfl
        · exact HA.out t h'
        · exact h
      obtain ⟨x, hx⟩ : ∃ x, f i = x := ⟨_, rfl⟩
      rw [hx] at t1 HHIT HNX
      clear hc hx
      by_cases h0 : x = 0
      · have b1 : ((x : Int) != 0) = false := by rw [h0]; rfl
        have HN := Lib.hid (HNX.out h0)
        clear h0
        go_wp2
        go_roundg r1
        case measure => omega
        case rel => exact ⟨i + 1, by omega, by go_num, HN.out, rfl⟩
      · have b1 : ((x : Int) != 0) = true := by rw [bne_iff_ne]; omega
        have HN := Lib.hid (HHIT.out h0)
        clear h0
        go_wp2
        exact bodyPost_ret (v := .int .i64 (i : Int)) (by simp [results, Tryd.results35, go_sem]) rfl ⟨by rw [HN.out], rfl⟩

set_option maxHeartbeats 2000000 in
theorem bothRef_any (N acap bcap : Nat) (ao bo : Option Addr) (T U : Nat → Bool) (w : World) (hN : N ≤ 4096) (ha : Reads w ao (boolL T N)) (hb : Reads w bo (boolL U N)) (hpos : 0 < N) :
    Calls Tryd.prog 23 #[.slice ao N acap, .slice bo N bcap] w fun e w' => ∃ g cap, e = .returned (.slice (some ⟨g, 0, none⟩) N cap) ∧ OwnB w w' g N cap (fun c => T c && U c) := by
  have rd : ∀ {xo : Option Addr} {V : Nat → Bool}, Reads w xo (boolL V N) → ∃ b off, xo = some ⟨b, off, none⟩ ∧ b < w.heap.size ∧ ∀ j, j < N → w.cell? ⟨b, off + j, none⟩ = some (.bool (V j)) := by
    intro xo V h
    rcases h with h | ⟨b, off, h1, h2, h3⟩
    · have := congrArg List.length h; rw [boolL_length] at this; simp at this; omega
    · exact ⟨b, off, h1, h2, fun j hj => h3 j _ (boolL_get V hj)⟩
  obtain ⟨b1, o1, rfl, hb1, hc1⟩ := rd ha
  obtain ⟨b2, o2, rfl, hb2, hc2⟩ := rd hb
  have HC1 := Lib.hid hc1
  have HC2 := Lib.hid hc2
  clear ha hb rd hc1 hc2
  go_enter Tryd.func23, Tryd.ntmps23
  go_wp2
  go_loopg [5, 6] N (fun r y x wr => ∃ (i : Nat) (lo : Option Addr) (lcap : Nat), i + r = N ∧ x = .int .i64 i ∧ y = .slice lo i lcap ∧ RowOf 4 wr w.heap.size lo i lcap (boolL (fun c => T c && U c) i) ∧ Ext w wr)
  case atStart => exact ⟨0, none, 0, by omega, rfl, rfl, RowOf.nil _ _ _, Ext.refl _⟩
  case round =>
    obtain ⟨i, lo, lcap, hir, rfl, rfl, hrow, hx⟩ := hrel
    have HR := Lib.hid hrow
    have HX := Lib.hid hx
    have hsz := hx.size
    clear hrow hx
    cases gk with
    | zero =>
      obtain rfl : N = i := by omega
      obtain ⟨g, rfl, _⟩ := HR.out.opened hpos
      go_wp2
      exact bodyPost_ret (v := .slice (some ⟨g, 0, none⟩) N lcap) (by simp [results, Tryd.results23, go_sem]) rfl ⟨g, lcap, rfl, HX.out, HR.out⟩
    | succ r1 =>
      have hin : (i : Int) < (N : Int) := by omega
      have hin' : i < N := by omega
      have t1 := (HX.out.cell hb1).trans (HC1.out i hin')
      have t2 := (HX.out.cell hb2).trans (HC2.out i hin')
      have HV : Hid (boolL (fun c => T c && U c) (i + 1) = boolL (fun c => T c && U c) i ++ [.bool (T i && U i)]) := boolL_snoc _ i
      obtain ⟨x, hx⟩ : ∃ x, T i = x := ⟨_, rfl⟩
      obtain ⟨y, hy⟩ : ∃ y, U i = y := ⟨_, rfl⟩
      rw [hx] at t1 HV
      rw [hy] at t2 HV
      clear hx hy
      have hwz : w.heap.size ≤ (wr.alloc (.cells #[.bool (x && y)] 4)).heap.size := by simp; omega
      have HRB : Hid (RowOf 4 (wr.alloc (.cells #[.bool (x && y)] 4)) w.heap.size lo i lcap (boolL (fun c => T c && U c) i)) := (ext_box wr #[.bool (x && y)] 4).row HR.out
      cases x with
      | false =>
        go_wp2_with (at_builtin; refine wpList_one eBool (w := wr.alloc (.cells #[.bool false] 4)) rfl (.tmp 13) (.tmp 24) rfl w.heap.size (by rfl) HRB.out ⟨wr.heap.size, 0, none⟩ (.bool false) (by rfl) (by simp [World.cell?_alloc_at]) rfl (by omega) hwz ?_; intro ao8 cap8 w8 hr8 hg8 hat8; have HR8 := Lib.hid hr8; have HX8 := Lib.hid (Below.grown (HX.out.alloc _) hg8 hwz (fun b hb => (HR.out.block b hb).1)); clear hr8 hg8 hat8)
        go_roundg r1
        case measure => omega
        case rel => exact ⟨i + 1, ao8, cap8, by omega, by go_num, rfl, by rw [HV.out]; exact HR8.out, HX8.out⟩
      | true =>
        go_wp2_with (at_builtin; refine wpList_one eBool (w := wr.alloc (.cells #[.bool y] 4)) rfl (.tmp 13) (.tmp 24) rfl w.heap.size (by rfl) HRB.out ⟨wr.heap.size, 0, none⟩ (.bool y) (by rfl) (by simp [World.cell?_alloc_at]) rfl (by omega) hwz ?_; intro ao8 cap8 w8 hr8 hg8 hat8; have HR8 := Lib.hid hr8; have HX8 := Lib.hid (Below.grown (HX.out.alloc _) hg8 hwz (fun b hb => (HR.out.block b hb).1)); clear hr8 hg8 hat8)
        go_roundg r1
        case measure => omega
        case rel => exact ⟨i + 1, ao8, cap8, by omega, by go_num, rfl, by rw [HV.out]; exact HR8.out, HX8.out⟩

end Go.Proofs.YthkafhmciapipaaDoor
