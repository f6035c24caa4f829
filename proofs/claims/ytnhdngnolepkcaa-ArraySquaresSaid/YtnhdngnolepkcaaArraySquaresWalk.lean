/- The law ArraySquares returns true. -/
import Derived.Test.YtnhdngnolepkcaaArraySq
import Derived.Test.YtnhdngnolepkcaaOrtho
import Derived.Test.YtnhdngnolepkcaaArrayFact
import Derived.Test.YtnhdngnolepkcaaArgInts
namespace Go.Proofs.Ytnhdngnolepkcaa
open Go.RowKit Go.Maps

theorem arraySquaresOf_any (ao : Option Addr) (n cap : Nat) (sqs : List (Int × List Int)) (w : World) (hl : sqs.length = n) (hbig : n ≤ maxLen) (hr : ReadsSq w ao sqs) :
    Calls Try.prog 6 #[.slice ao n cap] w fun e w' => SqPost sqs w w' e ∧ Ext w w' := by
  by_cases h : n = 0 ∨ 6 < n
  · exact arraySquares_many ao n cap sqs w hl hbig h
  · exact arraySquares_some ao n cap sqs w hl (by omega) (by omega) hr

/-- Two squares that are known. -/
theorem twoSq {w : World} {b : Nat} {n : Nat} {ao bo : Option Addr} {len cap len' cap' : Nat} {xs ys : List Int} {t : TypeId} (h : Blk w b #[.int .i64 n, .slice ao len cap, .int .i64 n, .slice bo len' cap'] t) (hl : xs.length = len) (hl' : ys.length = len') (hbig : len ≤ maxLen) (hbig' : len' ≤ maxLen) (ra : Reads w ao (ints xs)) (rb : Reads w bo (ints ys)) :
    ReadsSq w (some ⟨b, 0, none⟩) [((n : Int), xs), ((n : Int), ys)] := by
  obtain ⟨c0, c1, c2, c3⟩ := h.four
  refine .inr ⟨b, 0, rfl, h.lt, fun j hj => ?_⟩
  match j, hj with
  | 0, _ => exact ⟨ao, cap, c0, by rw [show (sqAt [((n : Int), xs), ((n : Int), ys)] 0).2 = xs from rfl, hl]; exact c1, ra, by rw [show (sqAt [((n : Int), xs), ((n : Int), ys)] 0).2 = xs from rfl, hl]; exact hbig⟩
  | 1, _ => exact ⟨bo, cap', c2, by rw [show (sqAt [((n : Int), xs), ((n : Int), ys)] 1).2 = ys from rfl, hl']; exact c3, rb, by rw [show (sqAt [((n : Int), xs), ((n : Int), ys)] 1).2 = ys from rfl, hl']; exact hbig'⟩
theorem twoSq_good {n : Nat} {xs ys : List Int} (hx : IsLatin n xs) (hy : IsLatin n ys) : SqIs [((n : Int), xs), ((n : Int), ys)] 0 ∧ AreSq n [((n : Int), xs), ((n : Int), ys)] := by
  refine ⟨.inr (.inr (.inr ⟨by simp, by simp, fun i hi => ?_, by simp [sqAt], rfl⟩)), ⟨by simp, by simp, fun j hj => ?_, fun j hj => ?_⟩⟩
  · match i, hi with
    | 0, _ => exact latinFaultOf_latin hx
    | 1, _ => exact latinFaultOf_latin hy
  · match j, hj with
    | 0, _ => rfl
    | 1, _ => rfl
  · match j, hj with
    | 0, _ => exact hx
    | 1, _ => exact hy

set_option maxHeartbeats 4000000 in
theorem arraySquares_any (m : Int) (ao : Option Addr) (len cap : Nat) (xs : List Int) {w : World} (ha : IntsArg w ao len cap xs) (_ : -9223372036854775808 ≤ m) (_ : m ≤ 9223372036854775807)
    (m' : Int) (bo : Option Addr) (len' cap' : Nat) (ys : List Int) (hb : IntsArg w bo len' cap' ys) (_ : -9223372036854775808 ≤ m') (_ : m' ≤ 9223372036854775807) :
    Calls Try.prog 3 #[.agg #[.int .i64 m, .slice ao len cap], .agg #[.int .i64 m', .slice bo len' cap']] w fun e w' => e = .returned (.bool true) ∧ Below w.heap.size w w' := by
  have HE : Hid (Ext w ((w.alloc (.cells #[.int .i64 m, .slice ao len cap] 24)).alloc (.cells #[.int .i64 m', .slice bo len' cap'] 24))) := ext_box2 _ _ _ _ _
  have HB1 : Hid (Blk ((w.alloc (.cells #[.int .i64 m, .slice ao len cap] 24)).alloc (.cells #[.int .i64 m', .slice bo len' cap'] 24)) w.heap.size #[.int .i64 m, .slice ao len cap] 24) := (Blk.new _ _ _).alloc _
  have HB2 : Hid (Blk ((w.alloc (.cells #[.int .i64 m, .slice ao len cap] 24)).alloc (.cells #[.int .i64 m', .slice bo len' cap'] 24)) (w.heap.size + 1) #[.int .i64 m', .slice bo len' cap'] 24) := Blk.new' _ _ _ (by simp)
  obtain ⟨w0, hw0⟩ : ∃ w0, w0 = (w.alloc (.cells #[.int .i64 m, .slice ao len cap] 24)).alloc (.cells #[.int .i64 m', .slice bo len' cap'] 24) := ⟨_, rfl⟩
  rw [← hw0] at HE HB1 HB2
  have HA := Lib.hid ha
  have HB := Lib.hid hb
  clear ha hb
  go_enter Try.func3, Try.ntmps3
  go_wp2_with fail
  rw [← hw0]
  clear hw0
  refine Calls.mono (arrayFact_ok _) ?_
  rintro e w1 ⟨rfl, hx⟩
  have G1 := Lib.hid (HB1.out.ext hx)
  have G2 := Lib.hid (HB2.out.ext hx)
  have HX1 := Lib.hid (HE.out.trans hx)
  have k1 := G1.out.two
  have k2 := G2.out.two
  clear hx
  go_wp2_with fail
  refine Calls.mono (orthogonal_any m m' ao bo len cap len' cap' xs ys _ HA.out.len HB.out.len HA.out.big HB.out.big (HX1.out.reads HA.out.reads) (HX1.out.reads HB.out.reads)) ?_
  rintro e w2 ⟨⟨v, c, rfl, hc⟩, hx⟩
  have HC := Lib.hid hc
  have J1 := Lib.hid (G1.out.ext hx)
  have J2 := Lib.hid (G2.out.ext hx)
  have HX2 := Lib.hid (HX1.out.trans hx)
  clear hx hc k1 k2
  by_cases hc0 : c = 0
  · subst hc0
    obtain ⟨n, rfl, rfl, hX, hY, hO⟩ := HC.out rfl
    have HX := Lib.hid hX
    have HY := Lib.hid hY
    have HO := Lib.hid hO
    have h8 := hX.big
    clear hX hY hO
    have k1 := J1.out.two
    have k2 := J2.out.two
    by_cases hn : n < 2
    · have b1 : decide ((n : Int) < 2) = true := decide_eq_true (by omega)
      go_wp2
      go_ret
      exact ⟨by simp, HX2.out⟩
    · have b1 : decide ((n : Int) < 2) = false := decide_eq_false (by omega)
      have HB3 : Hid (Blk (w2.alloc (.cells #[.int .i64 n, .slice ao len cap, .int .i64 n, .slice bo len' cap'] 24)) w2.heap.size #[.int .i64 n, .slice ao len cap, .int .i64 n, .slice bo len' cap'] 24) := Blk.new _ _ _
      have HX3 : Hid (Ext w2 (w2.alloc (.cells #[.int .i64 n, .slice ao len cap, .int .i64 n, .slice bo len' cap'] 24))) := (Ext.refl w2).alloc _
      obtain ⟨w3, hw3⟩ : ∃ w3, w3 = w2.alloc (.cells #[.int .i64 n, .slice ao len cap, .int .i64 n, .slice bo len' cap'] 24) := ⟨_, rfl⟩
      rw [← hw3] at HB3 HX3
      have HRS := Lib.hid (twoSq HB3.out HA.out.len HB.out.len HA.out.big HB.out.big (HX3.out.reads (HX2.out.reads HA.out.reads)) (HX3.out.reads (HX2.out.reads HB.out.reads)))
      go_wp2_with fail
      rw [← hw3]
      clear hw3
      refine Calls.mono (arraySquaresOf_any (some ⟨w2.heap.size, 0, none⟩) 2 2 _ w3 rfl (by decide) HRS.out) ?_
      rintro e w4 ⟨⟨y, c, rfl, hq1, _, hq3⟩, hx⟩
      obtain rfl : c = 0 := hq1.one (twoSq_good HX.out HY.out).1
      obtain ⟨ao5, n5, cap5, rfl, htb, hx5⟩ := hq3 n rfl (twoSq_good HX.out HY.out).2
      have HX4 := Lib.hid ((HX2.out.trans HX3.out).trans hx)
      have K1 := Lib.hid (J1.out.ext (HX3.out.trans hx))
      have HTB := Lib.hid htb
      have k3 := K1.out.two
      have HST := Lib.hid (strength_ok n ao5 n5 cap5 _ w4 htb.length (by rw [← htb.length, runs_len]; have : n * n ≤ 8 * 8 := Nat.mul_le_mul h8 h8; unfold maxLen; omega) htb.readsL (runs_good HX.out HY.out (by omega)).1)
      clear hx hx5 htb hq1 hq3 k1 k2
      go_wp2_with fail
      refine Calls.mono HST.out ?_
      rintro e w5 ⟨t, rfl, hst, hx⟩
      have HL : Hid (2 ≤ t ↔ v = true) := (squares_law HX.out HY.out (by omega) hst).trans HO.out.symm
      have HX5 := Lib.hid (HX4.out.trans hx)
      clear hx hst
      by_cases ht : 2 ≤ t
      · have b2 : decide ((2 : Int) ≤ (t : Int)) = true := decide_eq_true (by omega)
        obtain rfl := HL.out.1 ht
        go_wp2
        go_ret
        exact ⟨by simp, HX5.out⟩
      · have b2 : decide ((2 : Int) ≤ (t : Int)) = false := decide_eq_false (by omega)
        obtain rfl : v = false := by cases v; rfl; exact absurd (HL.out.2 rfl) ht
        go_wp2
        go_ret
        exact ⟨by simp, HX5.out⟩
  · have b0 : (c != 0) = true := by rw [bne_iff_ne]; exact hc0
    clear hc0
    go_wp2
    go_ret
    exact ⟨by simp, HX2.out⟩

end Go.Proofs.Ytnhdngnolepkcaa
