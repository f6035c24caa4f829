/- What StrongMakes returns. Condition: the variable of primes holds them. -/
import Derived.Test.YthfjlemlpgkedaaDoorPaleyGraph
import Derived.Test.YthfjlemlpgkedaaDoorRPaley
import Derived.Test.YthfjlemlpgkedaaDoorTriangleNo
import Derived.Test.YthfjlemlpgkedaaDoorRTriangle
import Derived.Test.YthfjlemlpgkedaaDoorRLatinGraph
import Derived.Test.YthfjlemlpgkedaaDoorROnce
import Derived.Test.YthfjlemlpgkedaaDoorSquares
import Derived.Test.YthfjlemlpgkedaaDoorArgSquare
import Derived.Test.YthfjlemlpgkedaaDoorArgField
namespace Go.Proofs.YthfjlemlpgkedaaDoor
open Go.RowKit
set_option linter.unusedVariables false

/-- What a maker of a graph answers. -/
def Tells (f : FuncId) (args : Array Value) (w : World) (m : Int) (xs : List Int) (c : Int) : Prop :=
  Calls Tryd.prog f args w fun e w' => ∃ (ao : Option Addr) (len cap : Nat), e = .returned (.tuple #[.agg #[.int .i64 m, .slice ao len cap], .int .i64 c]) ∧ xs.length = len ∧ len ≤ 1000 ∧ RowOf 3 w' w.heap.size ao len cap (ints xs) ∧ Ext w w'
theorem tells_no {f : FuncId} {args : Array Value} {w : World} {c : Int} (h : Calls Tryd.prog f args w fun e w' => e = .returned (.tuple #[.agg #[.int .i64 0, .slice none 0 0], .int .i64 c]) ∧ Ext w w') : Tells f args w 0 [] c :=
  h.mono fun e w' ⟨h1, h2⟩ => ⟨none, 0, 0, h1, rfl, by omega, RowOf.nil _ _ _, h2⟩
theorem tells_tab {f : FuncId} {args : Array Value} {w : World} {N : Nat} {g : Nat → Int} (hN : N ≤ 24) (h : Calls Tryd.prog f args w fun e w' => ∃ ao cap, e = .returned (.tuple #[.agg #[.int .i64 (N : Nat), .slice ao (N * N) cap], .int .i64 0]) ∧ RowOf 3 w' w.heap.size ao (N * N) cap (ints (tab g (N * N))) ∧ Ext w w') : Tells f args w N (tab g (N * N)) 0 :=
  h.mono fun e w' ⟨ao, cap, h1, h2, h3⟩ => ⟨ao, N * N, cap, h1, tab_length _ _, by have := Nat.mul_le_mul hN hN; omega, h2, h3⟩

/-- .. where it's only read. -/
def TellsR (f : FuncId) (args : Array Value) (w : World) (m : Int) (xs : List Int) (c : Int) : Prop :=
  Calls Tryd.prog f args w fun e w' => ∃ (ao : Option Addr) (len cap : Nat), e = .returned (.tuple #[.agg #[.int .i64 m, .slice ao len cap], .int .i64 c]) ∧ xs.length = len ∧ len ≤ 1000 ∧ Reads w' ao (ints xs) ∧ Ext w w'
theorem Tells.r {f : FuncId} {args : Array Value} {w : World} {m : Int} {xs : List Int} {c : Int} (h : Tells f args w m xs c) : TellsR f args w m xs c := h.mono fun e w' ⟨ao, len, cap, h1, h2, h3, h4, h5⟩ => ⟨ao, len, cap, h1, h2, h3, h4.reads, h5⟩
theorem tellsR_tab {f : FuncId} {args : Array Value} {w : World} {N : Nat} {g : Nat → Int} (hN : N ≤ 24) (h : Calls Tryd.prog f args w fun e w' => ∃ ao cap, e = .returned (.tuple #[.agg #[.int .i64 (N : Nat), .slice ao (N * N) cap], .int .i64 0]) ∧ Reads w' ao (ints (tab g (N * N))) ∧ Ext w w') : TellsR f args w N (tab g (N * N)) 0 :=
  h.mono fun e w' ⟨ao, cap, h1, h2, h3⟩ => ⟨ao, N * N, cap, h1, tab_length _ _, by have := Nat.mul_le_mul hN hN; omega, h2, h3⟩

/-- The boxes of the walk. -/
structure SmSt (w wr : World) (fs ss : Array Value) (b d : Nat) (u v x y : Value) : Prop where
  ext : Ext w wr
  b0 : w.heap.size + 2 ≤ b
  bd : b < d
  fb : Blk wr w.heap.size fs 24
  sb : Blk wr (w.heap.size + 1) ss 26
  ab : Blk wr b #[u, v] 26
  db : Blk wr d #[x, y] 26
theorem SmSt.carry {w wr w' : World} {fs ss : Array Value} {b d : Nat} {u v x y : Value} (h : SmSt w wr fs ss b d u v x y) (hx : Ext wr w') : SmSt w w' fs ss b d u v x y :=
  ⟨h.ext.trans hx, h.b0, h.bd, h.fb.ext hx, h.sb.ext hx, h.ab.ext hx, h.db.ext hx⟩
theorem SmSt.putA {w wr : World} {fs ss : Array Value} {b d : Nat} {u v x y : Value} (h : SmSt w wr fs ss b d u v x y) (u' v' : Value) : SmSt w ((wr.setCell ⟨b, 0, none⟩ u').setCell ⟨b, 1, none⟩ v') fs ss b d u' v' x y := by
  have h0 := h.b0
  have h1 := h.bd
  have hab : Blk ((wr.setCell ⟨b, 0, none⟩ u').setCell ⟨b, 1, none⟩ v') b #[u', v'] 26 := (h.ab.set 0 u').set 1 v'
  exact ⟨(h.ext.set (by simp; omega) _).set (by simp; omega) _, h0, h1, (h.fb.beside _ (by simp; omega) _).beside _ (by simp; omega) _, (h.sb.beside _ (by simp; omega) _).beside _ (by simp; omega) _, hab, (h.db.beside _ (by simp; omega) _).beside _ (by simp; omega) _⟩
theorem SmSt.putD {w wr : World} {fs ss : Array Value} {b d : Nat} {u v x y : Value} (h : SmSt w wr fs ss b d u v x y) (u' v' : Value) : SmSt w ((wr.setCell ⟨d, 0, none⟩ u').setCell ⟨d, 1, none⟩ v') fs ss b d u v u' v' := by
  have h0 := h.b0
  have h1 := h.bd
  have hab : Blk ((wr.setCell ⟨d, 0, none⟩ u').setCell ⟨d, 1, none⟩ v') d #[u', v'] 26 := (h.db.set 0 u').set 1 v'
  exact ⟨(h.ext.set (by simp; omega) _).set (by simp; omega) _, h0, h1, (h.fb.beside _ (by simp; omega) _).beside _ (by simp; omega) _, (h.sb.beside _ (by simp; omega) _).beside _ (by simp; omega) _, (h.ab.beside _ (by simp; omega) _).beside _ (by simp; omega) _, hab⟩
theorem row_two {w : World} {B : Nat} {ao : Option Addr} {n cap : Nat} {xs : List Value} (h : RowOf 3 w B ao n cap xs) {b : Nat} (hb : b < B) (u v : Value) : RowOf 3 ((w.setCell ⟨b, 0, none⟩ u).setCell ⟨b, 1, none⟩ v) B ao n cap xs :=
  (h.beside ⟨b, 0, none⟩ hb u).beside ⟨b, 1, none⟩ hb v

set_option maxHeartbeats 4000000 in
set_option maxRecDepth 100000 in
theorem strongMakes_go (p k : Int) (fo : Option Addr) (fn fcap : Nat) (n m : Int) (ao : Option Addr) (len cap : Nat) (w : World) (m1 m2 m3 c1 c2 c3 g0 : Int) (xs1 xs2 xs3 : List Int)
    (hpa : ∀ w', Ext w w' → Tells 4 #[.agg #[.int .i64 p, .int .i64 k, .slice fo fn fcap]] w' m1 xs1 c1)
    (hpb : ∀ w', Ext w w' → TellsR 5 #[.agg #[.int .i64 p, .int .i64 k, .slice fo fn fcap]] w' m1 xs1 c1)
    (hta : ∀ w', Ext w w' → Tells 7 #[.int .i64 n] w' m2 xs2 c2)
    (htb : ∀ w', Ext w w' → Tells 8 #[.int .i64 n] w' m2 xs2 c2)
    (hla : ∀ w', Ext w w' → Tells 9 #[.agg #[.int .i64 m, .slice ao len cap]] w' m3 xs3 c3)
    (hlf : ∀ w', Ext w w' → Calls Tryd.prog 10 #[.agg #[.int .i64 m, .slice ao len cap]] w' fun e w'' => e = .returned (.int .i64 g0) ∧ Ext w' w'')
    (hlb : (g0 ≠ 0 ∧ m3 = 0 ∧ xs3 = [] ∧ c3 = g0) ∨ (g0 = 0 ∧ ∀ w', Ext w w' → Tells 11 #[.agg #[.int .i64 m, .slice ao len cap]] w' m3 xs3 c3)) :
    Calls Tryd.prog 3 #[.agg #[.int .i64 p, .int .i64 k, .slice fo fn fcap], .int .i64 n, .agg #[.int .i64 m, .slice ao len cap]] w fun e w' => e = .returned (.bool true) ∧ Ext w w' := by
  have HPA := Lib.hid hpa
  have HPB := Lib.hid hpb
  have HTA := Lib.hid hta
  have HTB := Lib.hid htb
  have HLA := Lib.hid hla
  have HLF := Lib.hid hlf
  have HLB := Lib.hid hlb
  clear hpa hpb hta htb hla hlf hlb
  have E0 := Lib.hid (((Ext.refl w).alloc (.cells #[.int .i64 p, .int .i64 k, .slice fo fn fcap] 24)).alloc (.cells #[.int .i64 m, .slice ao len cap] 26))
  have F0 := Lib.hid ((Blk.new w #[.int .i64 p, .int .i64 k, .slice fo fn fcap] 24).alloc (.cells #[.int .i64 m, .slice ao len cap] 26))
  have S0 : Hid (Blk ((w.alloc (.cells #[.int .i64 p, .int .i64 k, .slice fo fn fcap] 24)).alloc (.cells #[.int .i64 m, .slice ao len cap] 26)) (w.heap.size + 1) #[.int .i64 m, .slice ao len cap] 26) := Blk.new' _ _ _ (by simp)
  have k0 := F0.out.three
  go_enter Tryd.func3, Tryd.ntmps3
  go_wp2_with fail
  refine Calls.mono (HPA.out _ E0.out) ?_
  rintro e w1 ⟨a1, l1, d1, rfl, hl1, hb1, hr1, hx⟩
  have E1 := Lib.hid (E0.out.trans hx)
  have F1 := Lib.hid ((F0.out.ext hx).alloc (.cells #[.int .i64 m1, .slice a1 l1 d1] 26))
  have S1 := Lib.hid ((S0.out.ext hx).alloc (.cells #[.int .i64 m1, .slice a1 l1 d1] 26))
  have A1 := Lib.hid (Blk.new w1 #[.int .i64 m1, .slice a1 l1 d1] 26)
  have R1 := Lib.hid ((ext_box w1 #[.int .i64 m1, .slice a1 l1 d1] 26).reads hr1.reads)
  have k1 := F1.out.three
  have hs1 := (S0.out.ext hx).lt
  clear k0 hx hr1
  go_wp2_with fail
  refine Calls.mono (HPB.out _ (E1.out.alloc _)) ?_
  rintro e w2 ⟨a2, l2, d2, rfl, hl2, hb2, hr2, hx⟩
  have hs2 := (A1.out.ext hx).lt
  have ST : Hid (SmSt w (w2.alloc (.cells #[.int .i64 m1, .slice a2 l2 d2] 26)) #[.int .i64 p, .int .i64 k, .slice fo fn fcap] #[.int .i64 m, .slice ao len cap] w1.heap.size w2.heap.size (.int .i64 m1) (.slice a1 l1 d1) (.int .i64 m1) (.slice a2 l2 d2)) :=
    ⟨((E1.out.alloc _).trans hx).alloc _, by omega, hs2, (F1.out.ext hx).alloc _, (S1.out.ext hx).alloc _, (A1.out.ext hx).alloc _, Blk.new _ _ _⟩
  have RA := Lib.hid ((hx.alloc (.cells #[.int .i64 m1, .slice a2 l2 d2] 26)).reads R1.out)
  have RB := Lib.hid ((ext_box w2 #[.int .i64 m1, .slice a2 l2 d2] 26).reads hr2)
  obtain ⟨b, hbb⟩ : ∃ b, w1.heap.size = b := ⟨_, rfl⟩
  obtain ⟨d, hdd⟩ : ∃ d, w2.heap.size = d := ⟨_, rfl⟩
  rw [hbb, hdd] at ST
  have k2 := ST.out.ab.two
  have k3 := ST.out.db.two
  have SQ := Lib.hid (squares_any m1 m1 a1 a2 l1 l2 d1 d2 xs1 xs1 _ hl1 hl2 (by unfold maxLen; omega) (by unfold maxLen; omega) RA.out RB.out)
  rw [decide_eq_true ⟨rfl, rfl⟩] at SQ
  clear k1 hx hr2 R1 A1 F1 S1 hl1 hl2 hb1 hb2
  go_wp2_with fail
  try rw [hbb, hdd]
  have HBB := Lib.hid hbb
  have HDD := Lib.hid hdd
  clear hbb hdd
  have hwb := ST.out.b0
  have hbd := ST.out.bd
  refine Calls.mono SQ.out ?_
  rintro e w3 ⟨rfl, hx⟩
  have ST3 := Lib.hid (ST.out.carry hx)
  clear hx k2 k3
  go_wp2_with fail
  refine Calls.mono (HTA.out w3 ST3.out.ext) ?_
  rintro e w4 ⟨a4, l4, d4, rfl, hl4, hb4, hr4, hx⟩
  have h3b := ST3.out.db.lt
  have ST4 := Lib.hid (ST3.out.carry hx)
  have k4 := ST4.out.ab.two
  have k5 := ST4.out.ab.f
  have hST5 := ST4.out.putA (.int .i64 m2) (.slice a4 l4 d4)
  have hR5 := row_two hr4 (show b < w3.heap.size by omega) (.int .i64 m2) (.slice a4 l4 d4)
  have HL4 := Lib.hid hl4
  clear hx hr4 hl4
  go_wp2_with fail
  obtain ⟨w5, hw5⟩ : ∃ w5, w5 = (w4.setCell ⟨b, 0, none⟩ (.int .i64 m2)).setCell ⟨b, 1, none⟩ (.slice a4 l4 d4) := ⟨_, rfl⟩
  rw [← hw5] at hST5 hR5 ⊢
  have ST5 := Lib.hid hST5
  have R5 := Lib.hid hR5
  clear hw5 hST5 hR5 k4 k5
  refine Calls.mono (HTB.out w5 ST5.out.ext) ?_
  rintro e w6 ⟨a6, l6, d6, rfl, hl6, hb6, hr6, hx⟩
  have h5b := ST5.out.db.lt
  have ST6 := Lib.hid (ST5.out.carry hx)
  have k4 := ST6.out.db.two
  have k5 := ST6.out.db.f
  have hST7 := ST6.out.putD (.int .i64 m2) (.slice a6 l6 d6)
  have hR7 := row_two hr6 (show d < w5.heap.size by omega) (.int .i64 m2) (.slice a6 l6 d6)
  have hR7' := row_two (hx.row R5.out) (show d < w3.heap.size by omega) (.int .i64 m2) (.slice a6 l6 d6)
  obtain ⟨w7, hw7⟩ : ∃ w7, w7 = (w6.setCell ⟨d, 0, none⟩ (.int .i64 m2)).setCell ⟨d, 1, none⟩ (.slice a6 l6 d6) := ⟨_, rfl⟩
  rw [← hw7] at hST7 hR7 hR7'
  have HW7 := Lib.hid hw7
  have ST7 := Lib.hid hST7
  have SQ7 := Lib.hid (squares_any m2 m2 a4 a6 l4 l6 d4 d6 xs2 xs2 w7 HL4.out hl6 (by unfold maxLen; omega) (by unfold maxLen; omega) hR7'.reads hR7.reads)
  rw [decide_eq_true ⟨rfl, rfl⟩] at SQ7
  have k6 := ST7.out.ab.two
  have k7 := ST7.out.db.two
  rw [HW7.out] at k6 k7
  clear hw7 hST7 hR7 hR7' hx hr6 hl6
  go_wp2_with fail
  rw [← HW7.out]
  clear k4 k5 k6 k7
  refine Calls.mono SQ7.out ?_
  rintro e w8 ⟨rfl, hx⟩
  have ST8 := Lib.hid (ST7.out.carry hx)
  have k8 := ST8.out.sb.two
  clear hx
  go_wp2_with fail
  refine Calls.mono (HLA.out w8 ST8.out.ext) ?_
  rintro e w9 ⟨a9, l9, d9, rfl, hl9, hb9, hr9, hx⟩
  have h8b := ST8.out.db.lt
  have ST9 := Lib.hid (ST8.out.carry hx)
  have k4 := ST9.out.ab.two
  have k5 := ST9.out.ab.f
  have hSTa := ST9.out.putA (.int .i64 m3) (.slice a9 l9 d9)
  have hRa := row_two hr9 (show b < w8.heap.size by omega) (.int .i64 m3) (.slice a9 l9 d9)
  have HL9 := Lib.hid hl9
  obtain ⟨wa, hwa⟩ : ∃ wa, wa = (w9.setCell ⟨b, 0, none⟩ (.int .i64 m3)).setCell ⟨b, 1, none⟩ (.slice a9 l9 d9) := ⟨_, rfl⟩
  rw [← hwa] at hSTa hRa
  have HWa := Lib.hid hwa
  have STa := Lib.hid hSTa
  have Ra := Lib.hid hRa
  have k6 := STa.out.sb.two
  rw [HWa.out] at k6
  clear hx hr9 hl9 hwa hSTa hRa k8
  go_wp2_with fail
  rw [← HWa.out]
  clear k4 k5 k6
  refine Calls.mono (HLF.out wa STa.out.ext) ?_
  rintro e wb ⟨rfl, hx⟩
  have STb := Lib.hid (STa.out.carry hx)
  have hRb := hx.row Ra.out
  have k4 := STb.out.db.two
  have k5 := STb.out.db.f
  have hSTc := STb.out.putD (.int .i64 0) (.slice none 0 0)
  have hRc := row_two hRb (show d < w8.heap.size by omega) (.int .i64 0) (.slice none 0 0)
  obtain ⟨wc, hwc⟩ : ∃ wc, wc = (wb.setCell ⟨d, 0, none⟩ (.int .i64 0)).setCell ⟨d, 1, none⟩ (.slice none 0 0) := ⟨_, rfl⟩
  rw [← hwc] at hSTc hRc
  have HWc := Lib.hid hwc
  have STc := Lib.hid hSTc
  have Rc := Lib.hid hRc
  clear hx hRb hwc hSTc hRc
  rcases HLB.out with ⟨h0, rfl, rfl, rfl⟩ | ⟨h0, hlb⟩
  · have b1 : (c3 == 0) = false := by rw [beq_eq_false_iff_ne]; exact h0
    have SQc := Lib.hid (squares_any 0 0 a9 none l9 0 d9 0 [] [] wc HL9.out rfl (by unfold maxLen; omega) (by unfold maxLen; omega) Rc.out.reads (.inl rfl))
    rw [decide_eq_true ⟨rfl, rfl⟩] at SQc
    have k6 := STc.out.ab.two
    have k7 := STc.out.db.two
    rw [HWc.out] at k6 k7
    clear h0
    go_wp2_with fail
    rw [← HWc.out]
    clear k4 k5 k6 k7
    refine Calls.mono SQc.out ?_
    rintro e wd ⟨rfl, hx⟩
    have HE := Lib.hid (STc.out.ext.trans hx)
    clear hx
    go_wp2
    go_ret
    exact ⟨by simp, HE.out⟩
  · have HLBB := Lib.hid (hlb wc STc.out.ext)
    have k6 := STc.out.sb.two
    rw [HWc.out] at k6
    have b1 : (g0 == 0) = true := by rw [beq_iff_eq]; exact h0
    clear h0 hlb
    go_wp2_with fail
    rw [← HWc.out]
    clear k4 k5 k6
    refine Calls.mono HLBB.out ?_
    rintro e wd ⟨ad, ld, dd, rfl, hld, hbd2, hrd, hx⟩
    have hcb := STc.out.db.lt
    have STd := Lib.hid (STc.out.carry hx)
    have k4 := STd.out.db.two
    have k5 := STd.out.db.f
    have hSTe := STd.out.putD (.int .i64 m3) (.slice ad ld dd)
    have hRe := row_two hrd (show d < wc.heap.size by omega) (.int .i64 m3) (.slice ad ld dd)
    have hRe' := row_two (hx.row Rc.out) (show d < w8.heap.size by omega) (.int .i64 m3) (.slice ad ld dd)
    obtain ⟨we, hwe⟩ : ∃ we, we = (wd.setCell ⟨d, 0, none⟩ (.int .i64 m3)).setCell ⟨d, 1, none⟩ (.slice ad ld dd) := ⟨_, rfl⟩
    rw [← hwe] at hSTe hRe hRe'
    have HWe := Lib.hid hwe
    have STe := Lib.hid hSTe
    have SQe := Lib.hid (squares_any m3 m3 a9 ad l9 ld d9 dd xs3 xs3 we HL9.out hld (by unfold maxLen; omega) (by unfold maxLen; omega) hRe'.reads hRe.reads)
    rw [decide_eq_true ⟨rfl, rfl⟩] at SQe
    have k6 := STe.out.ab.two
    have k7 := STe.out.db.two
    rw [HWe.out] at k6 k7
    clear hx hrd hld hwe hSTe hRe hRe'
    go_wp2_with fail
    rw [← HWe.out]
    clear k4 k5 k6 k7
    refine Calls.mono SQe.out ?_
    rintro e wf ⟨rfl, hx⟩
    have HE := Lib.hid (STe.out.ext.trans hx)
    clear hx
    go_wp2
    go_ret
    exact ⟨by simp, HE.out⟩

/-- StrongMakes at any input. -/
theorem strongMakes_any (p k : Int) (fo : Option Addr) (fn fcap : Nat) (low : List Int) {w : World} (hf : IntsArg w fo fn fcap low) (n : Int) (_ : -9223372036854775808 ≤ n ∧ n ≤ 9223372036854775807)
    (m : Int) (ao : Option Addr) (len cap : Nat) (xs : List Int) (hx : IntsArg w ao len cap xs) (_ : -9223372036854775808 ≤ m) (_ : m ≤ 9223372036854775807) (hP : Primes w) :
    Calls Tryd.prog 3 #[.agg #[.int .i64 p, .int .i64 k, .slice fo fn fcap], .int .i64 n, .agg #[.int .i64 m, .slice ao len cap]] w fun e w' => e = .returned (.bool true) ∧ Below w.heap.size w w' := by
  obtain ⟨m1, xs1, c1, hpa, hpb⟩ : ∃ m1 xs1 c1, (∀ w', Ext w w' → Tells 4 #[.agg #[.int .i64 p, .int .i64 k, .slice fo fn fcap]] w' m1 xs1 c1) ∧ (∀ w', Ext w w' → TellsR 5 #[.agg #[.int .i64 p, .int .i64 k, .slice fo fn fcap]] w' m1 xs1 c1) := by
    by_cases h0 : fieldFault p k low = 0
    · obtain ⟨P, Q, rfl, rfl, hF, _⟩ := fieldFault_zero h0
      obtain rfl : fn = Q := by rw [← hf.len]; exact hF.len
      have ha := fun w' (hx' : Ext w w') => paley_is P fn fo fcap low w' (hP.ext hx') hF (hx'.reads hf.reads)
      have hb := fun w' (hx' : Ext w w') => paleyOf_is P fn fo fcap low w' hF (hx'.reads hf.reads)
      by_cases h24 : P ^ fn ≤ 24
      · by_cases h4 : P ^ fn % 4 = 1
        · refine ⟨_, _, _, fun w' h => tells_tab h24 ((ha w' h).mono fun e w'' h => h.2.2 h24 h4), fun w' h => tellsR_tab h24 ((hb w' h).mono fun e w'' h => h.2.2 h24 h4)⟩
        · exact ⟨_, _, _, fun w' h => tells_no ((ha w' h).mono fun e w'' h => h.2.1 h24 h4), fun w' h => (tells_no ((hb w' h).mono fun e w'' h => h.2.1 h24 h4)).r⟩
      · exact ⟨_, _, _, fun w' h => tells_no ((ha w' h).mono fun e w'' h => h.1 (by omega)), fun w' h => (tells_no ((hb w' h).mono fun e w'' h => h.1 (by omega))).r⟩
    · exact ⟨_, _, _, fun w' h => tells_no (paley_no p k fo fn fcap low w' (hP.ext h) hf.len (h.reads hf.reads) h0), fun w' h => (tells_no (paleyOf_no p k fo fn fcap low w' hf.len (h.reads hf.reads) h0)).r⟩
  obtain ⟨m2, xs2, c2, hta, htb⟩ : ∃ m2 xs2 c2, (∀ w', Ext w w' → Tells 7 #[.int .i64 n] w' m2 xs2 c2) ∧ (∀ w', Ext w w' → Tells 8 #[.int .i64 n] w' m2 xs2 c2) := by
    by_cases h : n < 2 ∨ 7 < n
    · exact ⟨_, _, _, fun w' _ => tells_no (triangle_no n w' h), fun w' _ => tells_no (triangleOf_no n w' h)⟩
    · obtain ⟨N, rfl⟩ : ∃ N : Nat, n = N := ⟨n.toNat, by omega⟩
      have h24 : triNum N ≤ 24 := by have := (triFlat_all N (by omega) (by omega)).2.2.2; omega
      exact ⟨_, _, _, fun w' _ => tells_tab h24 (triangle_ok N w' (by omega) (by omega)), fun w' _ => tells_tab h24 (triangleOf_ok N w' (by omega) (by omega))⟩
  have hlf := fun w' (h : Ext w w') => refLatinFault_any m ao len cap xs w' hx.len hx.big (h.reads hx.reads)
  by_cases h0 : latinFaultOf m xs = 0
  · obtain ⟨N, rfl, hL⟩ := latinFaultOf_zero h0
    by_cases h4 : 4 < (N : Int)
    · exact strongMakes_go p k fo fn fcap n N ao len cap w m1 m2 0 c1 c2 3 _ xs1 xs2 [] hpa hpb hta htb (fun w' h => tells_no (latin_full N ao len cap xs w' hx.len (h.reads hx.reads) h0 h4)) hlf
        (.inr ⟨h0, fun w' h => tells_no (latinGraphOf_full N ao len cap w' h4)⟩)
    · have h16 : N * N ≤ 24 := by have := Nat.mul_le_mul (show N ≤ 4 by omega) (show N ≤ 4 by omega); omega
      exact strongMakes_go p k fo fn fcap n N ao len cap w m1 m2 _ c1 c2 0 _ xs1 xs2 _ hpa hpb hta htb (fun w' h => tells_tab h16 (latin_ok N ao len cap xs w' hx.len (h.reads hx.reads) h0 (by omega))) hlf
        (.inr ⟨h0, fun w' h => tells_tab h16 (latinGraphOf_ok N ao len cap xs w' hx.len (h.reads hx.reads) hL (by omega))⟩)
  · exact strongMakes_go p k fo fn fcap n m ao len cap w m1 m2 0 c1 c2 _ _ xs1 xs2 [] hpa hpb hta htb (fun w' h => tells_no (latin_no m ao len cap xs w' hx.len (h.reads hx.reads) h0)) hlf (.inl ⟨h0, rfl, rfl, rfl⟩)

end Go.Proofs.YthfjlemlpgkedaaDoor
