/- What parterreref3.OtherOf answers at a graph: as strong.Other. -/
import Derived.Test.YtllfccfpoigigaaOther
namespace Go.Proofs.Ytllfccfpoigigaa
open Go.RowKit

theorem other_flat {n : Nat} {xs : List Int} (h : IsTab n xs) (p : Nat) (hp : p < n * n) : flat n (joinCell (notJoined xs n)) p = if p / n = p % n then 0 else 1 - nth xs p := by
  have h1 := h.one
  unfold flat joinCell notJoined
  rw [show p / n * n + p % n = p by rw [Nat.mul_comm]; exact Nat.div_add_mod p n]
  rcases nth_bit h p hp with hb | hb <;> by_cases he : p / n = p % n <;> simp [hb, he]

set_option maxHeartbeats 2000000 in
set_option maxRecDepth 1000000 in
theorem otherOf_ok (n : Nat) (ao : Option Addr) (len cap : Nat) (xs : List Int) (w : World) (hl : xs.length = len) (hr : Reads w ao (ints xs)) (hm : IsTab n xs) :
    Calls Try.prog 18 #[.agg #[.int .i64 n, .slice ao len cap]] w fun e w' =>
      ∃ ao' cap', e = .returned (.agg #[.int .i64 n, .slice ao' (n * n) cap']) ∧ RowOf 3 w' w.heap.size ao' (n * n) cap' (ints (tab (flat n (joinCell (notJoined xs n))) (n * n))) ∧ Ext w w' := by
  have hl2 : len = n * n := by rw [← hl]; exact hm.len
  obtain ⟨b, off, rfl, ht⟩ := tabAt_of hm hr
  rw [← hl2] at ht ⊢
  have n24 := hm.big
  have n1 := hm.one
  have hq := sq_bound n24
  rw [← hl2] at hq
  have HL2 := Lib.hid hl2
  have HT := Lib.hid ht
  have HFL := Lib.hid (other_flat hm)
  have hz : ((n : Int) == 0) = false := by rw [beq_eq_false_iff_ne]; omega
  clear hm hr hl hl2 ht
  go_enter Try.func18, Try.ntmps18
  go_wp2
  obtain ⟨r, hr⟩ : ∃ r, r = w.heap.size := ⟨_, rfl⟩
  have HB : Hid (Ext w ((w.alloc (.cells #[.int .i64 n, .slice (some ⟨b, off, none⟩) len cap] 30)).alloc (.cells #[.int .i64 0, .slice none 0 0] 30))) := ((Ext.refl _).alloc _).alloc _
  have HX : Hid (Blk ((w.alloc (.cells #[.int .i64 n, .slice (some ⟨b, off, none⟩) len cap] 30)).alloc (.cells #[.int .i64 0, .slice none 0 0] 30)) r #[.int .i64 n, .slice (some ⟨b, off, none⟩) len cap] 30) := by
    rw [hr]; exact (Blk.new _ _ _).alloc _
  have HY : Hid (Blk ((w.alloc (.cells #[.int .i64 n, .slice (some ⟨b, off, none⟩) len cap] 30)).alloc (.cells #[.int .i64 0, .slice none 0 0] 30)) (r + 1) #[.int .i64 0, .slice none 0 0] 30) := Blk.new' _ _ _ (by simp [hr])
  obtain ⟨w0, hw0⟩ : ∃ w0, w0 = ((w.alloc (.cells #[.int .i64 n, .slice (some ⟨b, off, none⟩) len cap] 30)).alloc (.cells #[.int .i64 0, .slice none 0 0] 30)) := ⟨_, rfl⟩
  have HS0 : Hid (w0.heap.size = r + 2) := by show _ = _; rw [hw0, hr]; simp
  have HF : Hid (Filling w0 (w0.alloc (.cells #[.int .i64 n, .slice none 0 0] 30)) (r + 2) n 0 (flat n (joinCell (notJoined xs n))) none 0) := by
    refine ⟨?_, RowOf.nil _ _ _, (Below.refl _ _).alloc (by rw [HS0.out]; omega) _⟩
    have h := BoxAt.new w0 (.int .i64 n) (.slice none 0 0) 30
    rwa [HS0.out] at h
  rw [← hw0] at HB HX HY ⊢
  obtain ⟨w1, hw1⟩ : ∃ w1, w1 = w0.alloc (.cells #[.int .i64 n, .slice none 0 0] 30) := ⟨_, rfl⟩
  rw [← hw1] at HF ⊢
  rw [show w.heap.size + 1 + 1 = r + 2 by omega, show w.heap.size + 1 = r + 1 by omega, ← hr]
  have HSR := Lib.hid hr
  clear hw0 hw1 hr
  go_loopw [4] (fun a wr => ∃ (i : Nat) (ao : Option Addr) (cap : Nat), i ≤ len ∧ a = .int .i64 i ∧ Filling w0 wr (r + 2) n i (flat n (joinCell (notJoined xs n))) ao cap) (fun i _ => len - (intOf i).toNat)
  case atStart => exact ⟨0, none, 0, by omega, rfl, HF.out⟩
  case round =>
    obtain ⟨i, ao2, cap2, hi, rfl, hf⟩ := hrel
    have HF2 := Lib.hid hf
    clear hf HF
    have HXW : Hid (Ext w0 wr) := by
      have h := HF2.out.bel
      unfold Hid; unfold Ext; rw [HS0.out]; exact h
    obtain ⟨k0, k1⟩ := (HX.out.ext HXW.out).two
    have k2 := HF2.out.box.c1
    have k3 := HF2.out.size
    by_cases hin : i < len
    · have c1 := (HT.out.ext (HB.out.trans HXW.out)).cells i hin
      have s1 := nth_bit HT.out.tab i (by rw [← HL2.out]; exact hin)
      have HV := Lib.hid (HFL.out i (by rw [← HL2.out]; exact hin))
      obtain ⟨x, hx⟩ : ∃ x, nth xs i = x := ⟨_, rfl⟩
      rw [hx] at c1 s1 HV
      have hx01 : 0 ≤ x ∧ x ≤ 1 := by omega
      obtain ⟨hx0, hx1⟩ := hx01
      have e1 : (i : Int) / n = (i / n : Nat) := by simp
      have e3 : (i : Int) % n = (i % n : Nat) := by simp
      have h1 : i / n ≤ i := Nat.div_le_self _ _
      have h3 : i % n ≤ i := Nat.mod_le _ _
      obtain ⟨d, hd⟩ : ∃ d, d = i / n := ⟨_, rfl⟩
      obtain ⟨m, hmm⟩ : ∃ m, m = i % n := ⟨_, rfl⟩
      rw [← hd] at e1 h1 HV
      rw [← hmm] at e3 h3 HV
      clear hx hd hmm s1
      by_cases hdm : d = m
      · have b1 : ((d : Int) == (m : Int)) = true := by rw [hdm]; simp
        rw [if_pos hdm] at HV
        clear hdm
        go_wp2_with fail
        go_quiet (fail)
        go_wp2_with (at_builtin; refine wpList_appInt eInt rfl (.tmp 32) (.tmp 34) rfl (r + 2 + 1) (by rfl) (HF2.out.drawn (Drawn.drewN _ _)).row (by rfl) (by omega) (by simpa using k3) ?_; intro ao4 cap4 w4 hr4 hg4 hb4; have HG := Lib.hid ((HF2.out.drawn (Drawn.drewN _ _)).grown2 hg4 hr4 hb4 HV.out); have k4 := HG.out.1.c1; have k5 := HG.out.1.f1; clear hr4 hg4 hb4)
        go_roundw
        case rel => exact ⟨i + 1, ao4, cap4, by omega, by go_num, HG.out.2⟩
        case measure => simp [intOf]; omega
      · have b1 : ((d : Int) == (m : Int)) = false := by rw [beq_eq_false_iff_ne]; omega
        rw [if_neg hdm] at HV
        clear hdm
        go_wp2_with fail
        go_quiet (fail)
        go_wp2_with (at_builtin; refine wpList_appInt eInt rfl (.tmp 32) (.tmp 34) rfl (r + 2 + 1) (by rfl) (HF2.out.drawn (Drawn.drewN _ _)).row (by rfl) (by omega) (by simpa using k3) ?_; intro ao4 cap4 w4 hr4 hg4 hb4; have HG := Lib.hid ((HF2.out.drawn (Drawn.drewN _ _)).grown2 hg4 hr4 hb4 HV.out); have k4 := HG.out.1.c1; have k5 := HG.out.1.f1; clear hr4 hg4 hb4)
        go_roundw
        case rel => exact ⟨i + 1, ao4, cap4, by omega, by go_num, HG.out.2⟩
        case measure => simp [intOf]; omega
    · obtain rfl : len = i := by omega
      have k4 := HF2.out.box.c0
      have XY := HY.out.ext HXW.out
      have k5 := XY.two
      have k6 := XY.f 0
      have k7 := XY.f 1
      go_wp2
      have HRB := Lib.hid ((XY.set 0 (.int .i64 n)).set 1 (.slice ao2 len cap2))
      have e0 := HRB.out.c 0 (.int .i64 n) rfl
      have e1 := HRB.out.c 1 (.slice ao2 len cap2) rfl
      refine bodyPost_ret (v := .agg #[.int .i64 n, .slice ao2 len cap2]) (by simp [results, Try.results18, go_sem, e0, e1]) rfl ⟨ao2, cap2, rfl, ?_, ?_⟩
      · exact ((HF2.out.row.beside ⟨r + 1, 0, none⟩ (by simp) _).beside ⟨r + 1, 1, none⟩ (by simp) _).mono (by have := HSR.out; omega)
      · exact ((HB.out.trans HXW.out).set (by have := HSR.out; simp; omega) _).set (by have := HSR.out; simp; omega) _

end Go.Proofs.Ytllfccfpoigigaa
