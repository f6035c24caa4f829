/- What design.Check answers at a good design. -/
import Derived.Test.YtkgdohoandfaeaaHdLaw
import Derived.Test.YtkgdohoandfaeaaSlicesFunc
import Derived.Deep.LoopGhost
import Derived.BigQuiet
namespace Go.Proofs.Ytkgdohoandfaeaa
open Go.RowKit
set_option linter.unusedVariables false

/-- No point. -/
def outP (P : Nat) (x : Int) : Bool := decide (x < 0) || decide ((P : Int) ≤ x)
theorem out_pred (P : Nat) (v : Value) (xs : List Int) (r : Nat) (w : World) (hb : Blk w r #[.int .i64 P, v] 33) : PredOn 32 #[.pointer (some ⟨r, 0, none⟩)] xs (outP P) w := by
  intro x _ w' hd
  have k0 := (hb.drawn hd).two
  clear hd
  unfold outP
  obtain ⟨p, hp⟩ : ∃ p, decide (x < 0) = p := ⟨_, rfl⟩
  obtain ⟨q, hq⟩ : ∃ q, decide ((P : Int) ≤ x) = q := ⟨_, rfl⟩
  rw [hp, hq]
  cases p
  all_goals
    go_enter Try.func32, Try.ntmps32
    go_wp2
    go_ret
    exact ⟨by simp [*], Drawn.refl _⟩

set_option maxHeartbeats 4000000 in
set_option maxRecDepth 100000 in
theorem dgCheck_ok (P : Nat) (ao : Option Addr) (l cap : Nat) (bs : List (List Int)) (w : World) (hP : 1 ≤ P) (hP40 : P ≤ 40) (hl : bs.length = l) (hl200 : l ≤ 200) (hr : ReadsL w ao bs) (hb : ∀ i, i < l → Block P (row bs i)) :
    Calls Try.prog 20 #[.agg #[.int .i64 P, .slice ao l cap]] w fun e w' => e = .returned (.int .i64 0) ∧ Ext w w' := by
  have b1 : decide ((P : Int) < 1) = false := decide_eq_false (by omega)
  have b2 : decide (40 < (P : Int)) = false := decide_eq_false (by omega)
  have b3 : decide (200 < (l : Int)) = false := decide_eq_false (by omega)
  have E0 := Lib.hid (ext_box w #[.int .i64 P, .slice ao l cap] 33)
  have F0 := Lib.hid (Blk.new w #[.int .i64 P, .slice ao l cap] 33)
  have HR := Lib.hid hr
  have HB := Lib.hid hb
  have HL := Lib.hid hl
  clear hr hb hl
  go_enter Try.func20, Try.ntmps20
  go_wp2
  obtain ⟨w0, hw0⟩ : ∃ w0, w0 = w.alloc (.cells #[.int .i64 P, .slice ao l cap] 33) := ⟨_, rfl⟩
  rw [← hw0] at E0 F0 ⊢
  clear hw0
  go_loopg [23] l (fun r a wr => ∃ i : Nat, i + r = l ∧ a = .int .i64 i ∧ Ext w0 wr)
  case atStart => exact ⟨0, by omega, rfl, Ext.refl _⟩
  case round =>
    obtain ⟨i, hil, rfl, hx⟩ := hrel
    have HX := Lib.hid hx
    clear hx
    cases gk with
    | zero =>
      obtain rfl : l = i := by omega
      go_wp2
      go_ret
      exact ⟨rfl, E0.out.trans HX.out⟩
    | succ r1 =>
      have hin : (i : Int) < (l : Int) := by omega
      have hin' : i < l := by omega
      obtain ⟨b, off, rfl, hb, hc⟩ := HR.out.row (by rw [HL.out]; omega)
      obtain ⟨a, ac, h1, h2, h3⟩ := hc i (by rw [HL.out]; exact hin')
      obtain ⟨xs, hxs⟩ : ∃ xs, row bs i = xs := ⟨_, rfl⟩
      have hB := HB.out i hin'
      rw [hxs] at h1 h2 h3 hB
      have EX := Lib.hid (E0.out.trans HX.out)
      have c1 := (EX.out.cell hb).trans h1
      have HC := Lib.hid (containsFunc_any 32 #[.pointer (some ⟨w.heap.size, 0, none⟩)] a xs.length ac xs (outP P) wr rfl h3 (EX.out.reads h2) (out_pred P _ xs _ wr (F0.out.ext HX.out)) (fun _ _ => rfl))
      have hany : xs.any (outP P) = false := by
        rw [List.any_eq_false]
        intro x hx
        have := hB.range x hx
        unfold outP; simp; omega
      rw [hany] at HC
      have HU := Lib.hid hB.up
      have HRR := Lib.hid (EX.out.reads h2)
      unfold maxLen at h3
      obtain ⟨len, hlen⟩ : ∃ len, xs.length = len := ⟨_, rfl⟩
      have HLN := Lib.hid hlen
      rw [hlen] at HC HU c1 h3
      clear hc h1 h2 hxs hB hany hlen hb
      go_wp2_with (go_at_call 31; refine HC.out.mono ?_; rintro e w1 ⟨rfl, hd⟩; have HD := Lib.hid hd; clear hd)
      have HX1 : Hid (Ext w0 w1) := HX.out.drawn HD.out
      have HR1 : Hid (Reads w1 a (ints xs)) := HD.out.ext.reads HRR.out
      clear HD HC c1 HRR
      obtain ⟨M, hM⟩ : ∃ M : Nat, 1 ≤ M ∧ (M = len ∨ (len = 0 ∧ M = 1)) := by
        by_cases h : len = 0
        · exact ⟨1, by omega, .inr ⟨h, rfl⟩⟩
        · exact ⟨len, by omega, .inl rfl⟩
      have hM1 := hM.1
      have HMM := Lib.hid hM.2
      clear hM
      go_loopg [5] (M - 1) (fun r x wx => ∃ j : Nat, j + 1 + r = M ∧ x = .int .i64 ((j : Int) + 1) ∧ Ext w1 wx)
      case atStart => exact ⟨0, by omega, rfl, Ext.refl _⟩
      case round =>
        obtain ⟨j, hjM, rfl, hx⟩ := hrel
        have HY := Lib.hid hx
        clear hx
        cases gk with
        | zero =>
          have hj : ¬ (j : Int) + 1 < (len : Int) := by have := HMM.out; omega
          go_wp2
          go_roundg r1
          case measure => omega
          case rel => exact ⟨i + 1, by omega, by go_num, HX1.out.trans HY.out⟩
        | succ r2 =>
          have hj : (j : Int) + 1 < (len : Int) := by have := HMM.out; omega
          have hj' : j + 1 < len := by omega
          obtain ⟨br, orr, rfl, hbr, hcr⟩ := HR1.out.int (by rw [HLN.out]; omega)
          have t0 := (HY.out.cell hbr).trans (hcr j (by rw [HLN.out]; omega))
          have t1 := (HY.out.cell hbr).trans (hcr (j + 1) (by rw [HLN.out]; omega))
          have hup := HU.out j hj'
          obtain ⟨x, hx⟩ : ∃ x, nth xs j = x := ⟨_, rfl⟩
          obtain ⟨y, hy⟩ : ∃ y, nth xs (j + 1) = y := ⟨_, rfl⟩
          rw [hx] at t0 hup
          rw [hy] at t1 hup
          have b4 : decide (y ≤ x) = false := decide_eq_false (by omega)
          clear hx hy hcr hbr hup
          go_wp2_with fail
          go_quiet (fail)
          all_goals
            go_wp2
            go_roundg r2
            case measure => omega
            case rel => exact ⟨j + 1, by omega, by go_num, HY.out.drewN _⟩

end Go.Proofs.Ytkgdohoandfaeaa
