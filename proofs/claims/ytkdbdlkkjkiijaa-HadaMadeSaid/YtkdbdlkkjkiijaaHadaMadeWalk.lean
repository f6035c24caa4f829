/- HadaMade is true at any numbers and squares. -/
import Derived.Test.YtkdbdlkkjkiijaaMadeLaw
import Derived.Test.YtkdbdlkkjkiijaaHadaMakesWalk
namespace Go.Proofs.Ytkdbdlkkjkiijaa
open Go.RowKit

theorem pal_bad (p : Int) (h : p < 1 ∨ 23 < p ∨ ¬ (p = 3 ∨ p = 7 ∨ p = 11 ∨ p = 19 ∨ p = 23)) : ∃ e : Int, e ≠ 0 ∧ ∀ w, Calls Try.prog 21 #[.int .i64 p] w fun en w' => en = .returned (.tuple #[.agg #[.int .i64 0, .slice none 0 0], .int .i64 e]) ∧ Ext w w' := by
  by_cases h1 : p < 1 ∨ 23 < p
  · exact ⟨1, by omega, fun w => paley_range p w h1⟩
  · obtain ⟨q, rfl⟩ : ∃ q : Nat, p = q := ⟨p.toNat, by omega⟩
    exact ⟨4, by omega, fun w => paley_none q w (by omega) (by omega) (by omega) (by omega) (by omega) (by omega) (by omega)⟩
theorem prod_bad (a b : Int) (xs ys : List Int) (h : signsFaultOf a xs ≠ 0 ∨ signsFaultOf b ys ≠ 0 ∨ ∃ n m : Nat, a = n ∧ b = m ∧ 24 < n * m) : ∃ e : Int, e ≠ 0 ∧ ∀ (ao bo : Option Addr) (len cap len' cap' : Nat) (w : World), xs.length = len → Reads w ao (ints xs) → ys.length = len' → Reads w bo (ints ys) →
    Calls Try.prog 23 #[.agg #[.int .i64 a, .slice ao len cap], .agg #[.int .i64 b, .slice bo len' cap']] w fun en w' => en = .returned (.tuple #[.agg #[.int .i64 0, .slice none 0 0], .int .i64 e]) ∧ Ext w w' := by
  by_cases ha : signsFaultOf a xs = 0
  · by_cases hb : signsFaultOf b ys = 0
    · obtain ⟨n, rfl, hm, ho⟩ := signsFaultOf_zero ha
      obtain ⟨m, rfl, hm', ho'⟩ := signsFaultOf_zero hb
      have hbig : 24 < n * m := by
        rcases h with h | h | ⟨n', m', e1, e2, h⟩
        · exact absurd ha h
        · exact absurd hb h
        · have := Int.ofNat_inj.1 e1; have := Int.ofNat_inj.1 e2; subst_vars; exact h
      exact ⟨3, by omega, fun ao bo len cap len' cap' w hl hr hl' hr' => product_full n m ao bo len cap len' cap' xs ys w hl hr hl' hr' hm ho hm' ho' hbig⟩
    · exact ⟨_, hb, fun ao bo len cap len' cap' w hl hr hl' hr' => product_badB a b ao bo len cap len' cap' xs ys w hl hr hl' hr' ha hb⟩
  · exact ⟨_, ha, fun ao bo len cap len' cap' w hl hr hl' hr' => product_badA a b ao bo len cap len' cap' xs w hl hr ha⟩

set_option maxRecDepth 100000 in
set_option maxHeartbeats 4000000 in
theorem hadaMade_nnn (k : Int) (p : Int) (a b : Int) (ao bo : Option Addr) (len cap len' cap' : Nat) (xs ys : List Int) (w : World) (hl : xs.length = len) (hr : Reads w ao (ints xs)) (hl' : ys.length = len') (hr' : Reads w bo (ints ys)) (hk : k < 0 ∨ 4 < k) (hp : p < 1 ∨ 23 < p ∨ ¬ (p = 3 ∨ p = 7 ∨ p = 11 ∨ p = 19 ∨ p = 23)) (hbad : signsFaultOf a xs ≠ 0 ∨ signsFaultOf b ys ≠ 0 ∨ ∃ n m : Nat, a = n ∧ b = m ∧ 24 < n * m) :
    Calls Try.prog 7 #[.int .i64 k, .int .i64 p, .agg #[.int .i64 a, .slice ao len cap], .agg #[.int .i64 b, .slice bo len' cap']] w fun e w' => e = .returned (.bool true) ∧ Below w.heap.size w w' := by
  have M0 := Lib.hid (mkSt_start w a b ao bo len cap len' cap')
  have HS := Lib.hid (fun w => sylvester_bad k w hk)
  clear hk
  obtain ⟨ep, hep, hP⟩ := pal_bad p hp
  have HP := Lib.hid hP
  have b1 : (ep == 0) = false := by rw [beq_eq_false_iff_ne]; exact hep
  clear hp hep hP
  obtain ⟨er, her, hR⟩ := prod_bad a b xs ys hbad
  have HR : Hid (∀ w1, Ext w w1 → _) := fun w1 (hx : Ext w w1) => hR ao bo len cap len' cap' w1 hl (hx.reads hr) hl' (hx.reads hr')
  have b2 : (er != 0) = true := by rw [bne_iff_ne]; exact her
  clear hl hr hl' hr' hbad her hR
  go_enter Try.func7, Try.ntmps7
  go_wp2_with fail
  refine Calls.mono (hadaFact_any _) ?_
  rintro e w1 ⟨rfl, hx⟩
  have M1 := Lib.hid (M0.out.carry hx)
  have hs1 : w.heap.size + 2 ≤ w1.heap.size := by have := Ext.size hx; simpa using this
  clear hx M0
  go_wp2_with fail
  refine Calls.mono (HS.out _) ?_
  rintro e w2 ⟨rfl, hx⟩
  have M2 := Lib.hid ((M1.out.carry hx).carry ((Ext.refl _).alloc (.cells #[.int .i64 0, .slice none 0 0] 24)))
  have S2 := Lib.hid (Blk.new w2 #[.int .i64 0, .slice none 0 0] 24)
  have hs2 : w.heap.size + 2 ≤ w2.heap.size := by have := Ext.size hx; omega
  clear hx M1
  obtain ⟨wA, hwA⟩ : ∃ wA, wA = w2.alloc (.cells #[.int .i64 0, .slice none 0 0] 24) := ⟨_, rfl⟩
  clear hwA wA
  obtain ⟨sb, hsb⟩ : ∃ sb, sb = w2.heap.size := ⟨_, rfl⟩
  go_wp2_with fail
  refine Calls.mono (HP.out _) ?_
  rintro e w4 ⟨rfl, hx⟩
  rw [← hsb] at S2 hs2 ⊢
  clear hsb
  have k1 := (S2.out.ext hx).two
  have f0 := (S2.out.ext hx).f 0
  have f1 := (S2.out.ext hx).f 1
  have M4 := Lib.hid (((M2.out.carry hx).set ⟨sb, 0, none⟩ hs2 (.int .i64 0)).set ⟨sb, 1, none⟩ hs2 (.slice none 0 0))
  have S4 : Hid (Blk ((w4.setCell ⟨sb, 0, none⟩ (.int .i64 0)).setCell ⟨sb, 1, none⟩ (.slice none 0 0)) sb #[.int .i64 0, .slice none 0 0] 24) := (S2.out.ext hx).sq
  clear hx M2 S2
  have ka := M4.out.a.two
  have kb := M4.out.b.two
  go_wp2_with fail
  refine Calls.mono (HR.out _ M4.out.ext) ?_
  rintro e w6 ⟨rfl, hx⟩
  have k3 := (S4.out.ext hx).two
  have f2 := (S4.out.ext hx).f 0
  have f3 := (S4.out.ext hx).f 1
  have M6 := Lib.hid (((M4.out.carry hx).set ⟨sb, 0, none⟩ hs2 (.int .i64 0)).set ⟨sb, 1, none⟩ hs2 (.slice none 0 0))
  have S6 : Hid (Blk ((w6.setCell ⟨sb, 0, none⟩ (.int .i64 0)).setCell ⟨sb, 1, none⟩ (.slice none 0 0)) sb #[.int .i64 0, .slice none 0 0] 24) := (S4.out.ext hx).sq
  clear hx ka kb M4 S4 k1 f0 f1
  go_wp2
  go_ret
  exact ⟨rfl, M6.out.ext⟩

set_option maxRecDepth 100000 in
set_option maxHeartbeats 4000000 in
theorem hadaMade_nny (k : Int) (p : Int) (a b : Nat) (ao bo : Option Addr) (len cap len' cap' : Nat) (xs ys : List Int) (w : World) (hl : xs.length = len) (hr : Reads w ao (ints xs)) (hl' : ys.length = len') (hr' : Reads w bo (ints ys)) (hk : k < 0 ∨ 4 < k) (hp : p < 1 ∨ 23 < p ∨ ¬ (p = 3 ∨ p = 7 ∨ p = 11 ∨ p = 19 ∨ p = 23)) (hm : IsMat a xs) (ho : Orth a xs) (hm' : IsMat b ys) (ho' : Orth b ys) (hb : ¬ 24 < a * b) :
    Calls Try.prog 7 #[.int .i64 k, .int .i64 p, .agg #[.int .i64 a, .slice ao len cap], .agg #[.int .i64 b, .slice bo len' cap']] w fun e w' => e = .returned (.bool true) ∧ Below w.heap.size w w' := by
  have M0 := Lib.hid (mkSt_start w a b ao bo len cap len' cap')
  have HS := Lib.hid (fun w => sylvester_bad k w hk)
  clear hk
  obtain ⟨ep, hep, hP⟩ := pal_bad p hp
  have HP := Lib.hid hP
  have b1 : (ep == 0) = false := by rw [beq_eq_false_iff_ne]; exact hep
  clear hp hep hP
  have HR : Hid (∀ w1, Ext w w1 → _) := fun w1 (hx : Ext w w1) => product_ok a b ao bo len cap len' cap' xs ys w1 hl (hx.reads hr) hl' (hx.reads hr') hm ho hm' ho' hb
  have HRM := Lib.hid (prod_mat hm ho hm' ho' hb)
  have HA : Hid (∀ w1, Ext w w1 → _) := fun w1 (hx : Ext w w1) => excess_ok a ao len cap xs w1 hl (hx.reads hr) hm ho
  have HB : Hid (∀ w1, Ext w w1 → _) := fun w1 (hx : Ext w w1) => excess_ok b bo len' cap' ys w1 hl' (hx.reads hr') hm' ho'
  have hsum := prod_sum (n := a) (m := b) (xs := xs) (ys := ys)
  have hla : len = a * a := by rw [← hl]; exact hm.len
  have hlb : len' = b * b := by rw [← hl']; exact hm'.len
  rw [← hla, ← hlb] at hsum
  have s1 := sumTo_bound hm len (by omega)
  have s2 := sumTo_bound hm' len' (by omega)
  have sq1 := sq_bound hm.big
  have sq2 := sq_bound hm'.big
  rw [← hla] at sq1
  rw [← hlb] at sq2
  obtain ⟨q3, hq3⟩ : ∃ q3, q3 = a * b := ⟨_, rfl⟩
  rw [← hq3] at HR HRM hsum
  obtain ⟨zs, hzs⟩ : ∃ zs, zs = tab (flat q3 (prodCell xs ys a b)) (q3 * q3) := ⟨_, rfl⟩
  rw [← hzs] at HR HRM hsum
  obtain ⟨x, hx⟩ : ∃ x, x = sumTo xs len := ⟨_, rfl⟩
  obtain ⟨y, hy⟩ : ∃ y, y = sumTo ys len' := ⟨_, rfl⟩
  rw [← hx] at HA s1 hsum
  rw [← hy] at HB s2 hsum
  have HSUM := Lib.hid hsum
  have p1 : -576 * 576 ≤ x * y ∧ x * y ≤ 576 * 576 := by
    have h1 : x.natAbs ≤ 576 := by omega
    have h2 : y.natAbs ≤ 576 := by omega
    have h3 := Nat.mul_le_mul h1 h2
    rw [← Int.natAbs_mul] at h3
    omega
  obtain ⟨p1, p2⟩ := p1
  have cxy : (x * y == x * y) = true := by simp
  have HZL : Hid (zs.length = q3 * q3) := by show _ = _; rw [hzs]; exact tab_length _ _
  have hq24 : q3 ≤ 24 := by omega
  clear hl hr hl' hr' hm ho hm' ho' hb hsum hla hlb s1 s2 sq1 sq2 hq3 hzs hx hy
  go_enter Try.func7, Try.ntmps7
  go_wp2_with fail
  refine Calls.mono (hadaFact_any _) ?_
  rintro e w1 ⟨rfl, hx⟩
  have M1 := Lib.hid (M0.out.carry hx)
  have hs1 : w.heap.size + 2 ≤ w1.heap.size := by have := Ext.size hx; simpa using this
  clear hx M0
  go_wp2_with fail
  refine Calls.mono (HS.out _) ?_
  rintro e w2 ⟨rfl, hx⟩
  have M2 := Lib.hid ((M1.out.carry hx).carry ((Ext.refl _).alloc (.cells #[.int .i64 0, .slice none 0 0] 24)))
  have S2 := Lib.hid (Blk.new w2 #[.int .i64 0, .slice none 0 0] 24)
  have hs2 : w.heap.size + 2 ≤ w2.heap.size := by have := Ext.size hx; omega
  clear hx M1
  obtain ⟨wA, hwA⟩ : ∃ wA, wA = w2.alloc (.cells #[.int .i64 0, .slice none 0 0] 24) := ⟨_, rfl⟩
  clear hwA wA
  obtain ⟨sb, hsb⟩ : ∃ sb, sb = w2.heap.size := ⟨_, rfl⟩
  go_wp2_with fail
  refine Calls.mono (HP.out _) ?_
  rintro e w4 ⟨rfl, hx⟩
  rw [← hsb] at S2 hs2 ⊢
  clear hsb
  have k1 := (S2.out.ext hx).two
  have f0 := (S2.out.ext hx).f 0
  have f1 := (S2.out.ext hx).f 1
  have M4 := Lib.hid (((M2.out.carry hx).set ⟨sb, 0, none⟩ hs2 (.int .i64 0)).set ⟨sb, 1, none⟩ hs2 (.slice none 0 0))
  have S4 : Hid (Blk ((w4.setCell ⟨sb, 0, none⟩ (.int .i64 0)).setCell ⟨sb, 1, none⟩ (.slice none 0 0)) sb #[.int .i64 0, .slice none 0 0] 24) := (S2.out.ext hx).sq
  clear hx M2 S2
  have ka := M4.out.a.two
  have kb := M4.out.b.two
  go_wp2_with fail
  refine Calls.mono (HR.out _ M4.out.ext) ?_
  rintro e w6 ⟨ao3, cap3, rfl, hrow, hx⟩
  have k3 := (S4.out.ext hx).two
  have f2 := (S4.out.ext hx).f 0
  have f3 := (S4.out.ext hx).f 1
  have M6 := Lib.hid (((M4.out.carry hx).set ⟨sb, 0, none⟩ hs2 (.int .i64 q3)).set ⟨sb, 1, none⟩ hs2 (.slice ao3 (q3 * q3) cap3))
  have S6 : Hid (Blk ((w6.setCell ⟨sb, 0, none⟩ (.int .i64 q3)).setCell ⟨sb, 1, none⟩ (.slice ao3 (q3 * q3) cap3)) sb #[.int .i64 q3, .slice ao3 (q3 * q3) cap3] 24) := (S4.out.ext hx).sq
  have hlt := S4.out.lt
  have R6 := Lib.hid ((hrow.beside ⟨sb, 0, none⟩ hlt (.int .i64 q3)).beside ⟨sb, 1, none⟩ hlt (.slice ao3 (q3 * q3) cap3)).reads
  clear hlt hrow
  clear hx ka kb M4 S4 k1 f0 f1
  go_wp2_with fail
  refine Calls.mono (check_any q3 ao3 (q3 * q3) cap3 zs _ HZL.out R6.out) ?_
  rintro e w7 ⟨rfl, hx⟩
  rw [signsFaultOf_mat HRM.out.1 HRM.out.2]
  have M7 := Lib.hid (M6.out.carry hx)
  have S7 := Lib.hid (S6.out.ext hx)
  have R7 := Lib.hid (Ext.reads hx R6.out)
  have ka := M7.out.a.two
  clear hx M6 S6 R6 k3 f2 f3
  go_wp2_with fail
  refine Calls.mono (HA.out _ M7.out.ext) ?_
  rintro e w8 ⟨rfl, hx⟩
  have M8 := Lib.hid (M7.out.carry hx)
  have S8 := Lib.hid (S7.out.ext hx)
  have R8 := Lib.hid (Ext.reads hx R7.out)
  have kb := M8.out.b.two
  clear hx M7 S7 R7 ka
  go_wp2_with fail
  refine Calls.mono (HB.out _ M8.out.ext) ?_
  rintro e w9 ⟨rfl, hx⟩
  have M9 := Lib.hid (M8.out.carry hx)
  have S9 := Lib.hid (S8.out.ext hx)
  have R9 := Lib.hid (Ext.reads hx R8.out)
  have k4 := S9.out.two
  clear hx M8 S8 R8 kb
  go_wp2_with fail
  have hex := excess_ok q3 ao3 (q3 * q3) cap3 zs _ HZL.out R9.out HRM.out.1 HRM.out.2
  rw [HSUM.out] at hex
  refine Calls.mono hex ?_
  rintro e w10 ⟨rfl, hx⟩
  clear hex
  have E10 := Lib.hid (M9.out.ext.trans hx)
  clear hx
  go_wp2
  go_ret
  exact ⟨by simp, E10.out⟩

set_option maxRecDepth 100000 in
set_option maxHeartbeats 4000000 in
theorem hadaMade_nyn (k : Int) (p : Nat) (a b : Int) (ao bo : Option Addr) (len cap len' cap' : Nat) (xs ys : List Int) (w : World) (hl : xs.length = len) (hr : Reads w ao (ints xs)) (hl' : ys.length = len') (hr' : Reads w bo (ints ys)) (hk : k < 0 ∨ 4 < k) (hp : p = 3 ∨ p = 7 ∨ p = 11 ∨ p = 19 ∨ p = 23) (hbad : signsFaultOf a xs ≠ 0 ∨ signsFaultOf b ys ≠ 0 ∨ ∃ n m : Nat, a = n ∧ b = m ∧ 24 < n * m) :
    Calls Try.prog 7 #[.int .i64 k, .int .i64 p, .agg #[.int .i64 a, .slice ao len cap], .agg #[.int .i64 b, .slice bo len' cap']] w fun e w' => e = .returned (.bool true) ∧ Below w.heap.size w w' := by
  have M0 := Lib.hid (mkSt_start w a b ao bo len cap len' cap')
  have HS := Lib.hid (fun w => sylvester_bad k w hk)
  clear hk
  have HP := Lib.hid (fun w => paley_ok p w hp)
  have HPM := Lib.hid (pal_mat hp)
  have hp24 : p ≤ 23 := by omega
  have cp : ((p : Int) + 1 != (p : Int) + 1) = false := by simp
  have hcast : ((p + 1 : Nat) : Int) = (p : Int) + 1 := by simp
  have HCAST := Lib.hid hcast
  clear hp hcast
  obtain ⟨er, her, hR⟩ := prod_bad a b xs ys hbad
  have HR : Hid (∀ w1, Ext w w1 → _) := fun w1 (hx : Ext w w1) => hR ao bo len cap len' cap' w1 hl (hx.reads hr) hl' (hx.reads hr')
  have b2 : (er != 0) = true := by rw [bne_iff_ne]; exact her
  clear hl hr hl' hr' hbad her hR
  go_enter Try.func7, Try.ntmps7
  go_wp2_with fail
  refine Calls.mono (hadaFact_any _) ?_
  rintro e w1 ⟨rfl, hx⟩
  have M1 := Lib.hid (M0.out.carry hx)
  have hs1 : w.heap.size + 2 ≤ w1.heap.size := by have := Ext.size hx; simpa using this
  clear hx M0
  go_wp2_with fail
  refine Calls.mono (HS.out _) ?_
  rintro e w2 ⟨rfl, hx⟩
  have M2 := Lib.hid ((M1.out.carry hx).carry ((Ext.refl _).alloc (.cells #[.int .i64 0, .slice none 0 0] 24)))
  have S2 := Lib.hid (Blk.new w2 #[.int .i64 0, .slice none 0 0] 24)
  have hs2 : w.heap.size + 2 ≤ w2.heap.size := by have := Ext.size hx; omega
  clear hx M1
  obtain ⟨wA, hwA⟩ : ∃ wA, wA = w2.alloc (.cells #[.int .i64 0, .slice none 0 0] 24) := ⟨_, rfl⟩
  clear hwA wA
  obtain ⟨sb, hsb⟩ : ∃ sb, sb = w2.heap.size := ⟨_, rfl⟩
  go_wp2_with fail
  refine Calls.mono (HP.out _) ?_
  rintro e w4 ⟨ao2, cap2, rfl, hrow, hx⟩
  rw [← hsb] at S2 hs2 ⊢
  clear hsb
  have k1 := (S2.out.ext hx).two
  have f0 := (S2.out.ext hx).f 0
  have f1 := (S2.out.ext hx).f 1
  have M4 := Lib.hid (((M2.out.carry hx).set ⟨sb, 0, none⟩ hs2 (.int .i64 ((p : Int) + 1))).set ⟨sb, 1, none⟩ hs2 (.slice ao2 ((p + 1) * (p + 1)) cap2))
  have S4 : Hid (Blk ((w4.setCell ⟨sb, 0, none⟩ (.int .i64 ((p : Int) + 1))).setCell ⟨sb, 1, none⟩ (.slice ao2 ((p + 1) * (p + 1)) cap2)) sb #[.int .i64 ((p : Int) + 1), .slice ao2 ((p + 1) * (p + 1)) cap2] 24) := (S2.out.ext hx).sq
  have hlt := S2.out.lt
  have R4 := Lib.hid ((hrow.beside ⟨sb, 0, none⟩ hlt (.int .i64 ((p : Int) + 1))).beside ⟨sb, 1, none⟩ hlt (.slice ao2 ((p + 1) * (p + 1)) cap2)).reads
  clear hlt hrow
  clear hx M2 S2
  go_wp2_with fail
  have hck := check_any (p + 1 : Nat) ao2 ((p + 1) * (p + 1)) cap2 _ _ HPM.out.1.len R4.out
  rw [signsFaultOf_mat HPM.out.1 HPM.out.2, HCAST.out] at hck
  refine Calls.mono hck ?_
  rintro e w5 ⟨rfl, hx⟩
  clear hck
  have M5 := Lib.hid (M4.out.carry hx)
  have S5 := Lib.hid (S4.out.ext hx)
  have k2 := S5.out.two
  have ka := M5.out.a.two
  have kb := M5.out.b.two
  clear hx M4 S4 R4 k1 f0 f1
  go_wp2_with fail
  refine Calls.mono (HR.out _ M5.out.ext) ?_
  rintro e w6 ⟨rfl, hx⟩
  have k3 := (S5.out.ext hx).two
  have f2 := (S5.out.ext hx).f 0
  have f3 := (S5.out.ext hx).f 1
  have M6 := Lib.hid (((M5.out.carry hx).set ⟨sb, 0, none⟩ hs2 (.int .i64 0)).set ⟨sb, 1, none⟩ hs2 (.slice none 0 0))
  have S6 : Hid (Blk ((w6.setCell ⟨sb, 0, none⟩ (.int .i64 0)).setCell ⟨sb, 1, none⟩ (.slice none 0 0)) sb #[.int .i64 0, .slice none 0 0] 24) := (S5.out.ext hx).sq
  clear hx k2 ka kb M5 S5
  go_wp2
  go_ret
  exact ⟨rfl, M6.out.ext⟩

set_option maxRecDepth 100000 in
set_option maxHeartbeats 4000000 in
theorem hadaMade_nyy (k : Int) (p : Nat) (a b : Nat) (ao bo : Option Addr) (len cap len' cap' : Nat) (xs ys : List Int) (w : World) (hl : xs.length = len) (hr : Reads w ao (ints xs)) (hl' : ys.length = len') (hr' : Reads w bo (ints ys)) (hk : k < 0 ∨ 4 < k) (hp : p = 3 ∨ p = 7 ∨ p = 11 ∨ p = 19 ∨ p = 23) (hm : IsMat a xs) (ho : Orth a xs) (hm' : IsMat b ys) (ho' : Orth b ys) (hb : ¬ 24 < a * b) :
    Calls Try.prog 7 #[.int .i64 k, .int .i64 p, .agg #[.int .i64 a, .slice ao len cap], .agg #[.int .i64 b, .slice bo len' cap']] w fun e w' => e = .returned (.bool true) ∧ Below w.heap.size w w' := by
  have M0 := Lib.hid (mkSt_start w a b ao bo len cap len' cap')
  have HS := Lib.hid (fun w => sylvester_bad k w hk)
  clear hk
  have HP := Lib.hid (fun w => paley_ok p w hp)
  have HPM := Lib.hid (pal_mat hp)
  have hp24 : p ≤ 23 := by omega
  have cp : ((p : Int) + 1 != (p : Int) + 1) = false := by simp
  have hcast : ((p + 1 : Nat) : Int) = (p : Int) + 1 := by simp
  have HCAST := Lib.hid hcast
  clear hp hcast
  have HR : Hid (∀ w1, Ext w w1 → _) := fun w1 (hx : Ext w w1) => product_ok a b ao bo len cap len' cap' xs ys w1 hl (hx.reads hr) hl' (hx.reads hr') hm ho hm' ho' hb
  have HRM := Lib.hid (prod_mat hm ho hm' ho' hb)
  have HA : Hid (∀ w1, Ext w w1 → _) := fun w1 (hx : Ext w w1) => excess_ok a ao len cap xs w1 hl (hx.reads hr) hm ho
  have HB : Hid (∀ w1, Ext w w1 → _) := fun w1 (hx : Ext w w1) => excess_ok b bo len' cap' ys w1 hl' (hx.reads hr') hm' ho'
  have hsum := prod_sum (n := a) (m := b) (xs := xs) (ys := ys)
  have hla : len = a * a := by rw [← hl]; exact hm.len
  have hlb : len' = b * b := by rw [← hl']; exact hm'.len
  rw [← hla, ← hlb] at hsum
  have s1 := sumTo_bound hm len (by omega)
  have s2 := sumTo_bound hm' len' (by omega)
  have sq1 := sq_bound hm.big
  have sq2 := sq_bound hm'.big
  rw [← hla] at sq1
  rw [← hlb] at sq2
  obtain ⟨q3, hq3⟩ : ∃ q3, q3 = a * b := ⟨_, rfl⟩
  rw [← hq3] at HR HRM hsum
  obtain ⟨zs, hzs⟩ : ∃ zs, zs = tab (flat q3 (prodCell xs ys a b)) (q3 * q3) := ⟨_, rfl⟩
  rw [← hzs] at HR HRM hsum
  obtain ⟨x, hx⟩ : ∃ x, x = sumTo xs len := ⟨_, rfl⟩
  obtain ⟨y, hy⟩ : ∃ y, y = sumTo ys len' := ⟨_, rfl⟩
  rw [← hx] at HA s1 hsum
  rw [← hy] at HB s2 hsum
  have HSUM := Lib.hid hsum
  have p1 : -576 * 576 ≤ x * y ∧ x * y ≤ 576 * 576 := by
    have h1 : x.natAbs ≤ 576 := by omega
    have h2 : y.natAbs ≤ 576 := by omega
    have h3 := Nat.mul_le_mul h1 h2
    rw [← Int.natAbs_mul] at h3
    omega
  obtain ⟨p1, p2⟩ := p1
  have cxy : (x * y == x * y) = true := by simp
  have HZL : Hid (zs.length = q3 * q3) := by show _ = _; rw [hzs]; exact tab_length _ _
  have hq24 : q3 ≤ 24 := by omega
  clear hl hr hl' hr' hm ho hm' ho' hb hsum hla hlb s1 s2 sq1 sq2 hq3 hzs hx hy
  go_enter Try.func7, Try.ntmps7
  go_wp2_with fail
  refine Calls.mono (hadaFact_any _) ?_
  rintro e w1 ⟨rfl, hx⟩
  have M1 := Lib.hid (M0.out.carry hx)
  have hs1 : w.heap.size + 2 ≤ w1.heap.size := by have := Ext.size hx; simpa using this
  clear hx M0
  go_wp2_with fail
  refine Calls.mono (HS.out _) ?_
  rintro e w2 ⟨rfl, hx⟩
  have M2 := Lib.hid ((M1.out.carry hx).carry ((Ext.refl _).alloc (.cells #[.int .i64 0, .slice none 0 0] 24)))
  have S2 := Lib.hid (Blk.new w2 #[.int .i64 0, .slice none 0 0] 24)
  have hs2 : w.heap.size + 2 ≤ w2.heap.size := by have := Ext.size hx; omega
  clear hx M1
  obtain ⟨wA, hwA⟩ : ∃ wA, wA = w2.alloc (.cells #[.int .i64 0, .slice none 0 0] 24) := ⟨_, rfl⟩
  clear hwA wA
  obtain ⟨sb, hsb⟩ : ∃ sb, sb = w2.heap.size := ⟨_, rfl⟩
  go_wp2_with fail
  refine Calls.mono (HP.out _) ?_
  rintro e w4 ⟨ao2, cap2, rfl, hrow, hx⟩
  rw [← hsb] at S2 hs2 ⊢
  clear hsb
  have k1 := (S2.out.ext hx).two
  have f0 := (S2.out.ext hx).f 0
  have f1 := (S2.out.ext hx).f 1
  have M4 := Lib.hid (((M2.out.carry hx).set ⟨sb, 0, none⟩ hs2 (.int .i64 ((p : Int) + 1))).set ⟨sb, 1, none⟩ hs2 (.slice ao2 ((p + 1) * (p + 1)) cap2))
  have S4 : Hid (Blk ((w4.setCell ⟨sb, 0, none⟩ (.int .i64 ((p : Int) + 1))).setCell ⟨sb, 1, none⟩ (.slice ao2 ((p + 1) * (p + 1)) cap2)) sb #[.int .i64 ((p : Int) + 1), .slice ao2 ((p + 1) * (p + 1)) cap2] 24) := (S2.out.ext hx).sq
  have hlt := S2.out.lt
  have R4 := Lib.hid ((hrow.beside ⟨sb, 0, none⟩ hlt (.int .i64 ((p : Int) + 1))).beside ⟨sb, 1, none⟩ hlt (.slice ao2 ((p + 1) * (p + 1)) cap2)).reads
  clear hlt hrow
  clear hx M2 S2
  go_wp2_with fail
  have hck := check_any (p + 1 : Nat) ao2 ((p + 1) * (p + 1)) cap2 _ _ HPM.out.1.len R4.out
  rw [signsFaultOf_mat HPM.out.1 HPM.out.2, HCAST.out] at hck
  refine Calls.mono hck ?_
  rintro e w5 ⟨rfl, hx⟩
  clear hck
  have M5 := Lib.hid (M4.out.carry hx)
  have S5 := Lib.hid (S4.out.ext hx)
  have k2 := S5.out.two
  have ka := M5.out.a.two
  have kb := M5.out.b.two
  clear hx M4 S4 R4 k1 f0 f1
  go_wp2_with fail
  refine Calls.mono (HR.out _ M5.out.ext) ?_
  rintro e w6 ⟨ao3, cap3, rfl, hrow, hx⟩
  have k3 := (S5.out.ext hx).two
  have f2 := (S5.out.ext hx).f 0
  have f3 := (S5.out.ext hx).f 1
  have M6 := Lib.hid (((M5.out.carry hx).set ⟨sb, 0, none⟩ hs2 (.int .i64 q3)).set ⟨sb, 1, none⟩ hs2 (.slice ao3 (q3 * q3) cap3))
  have S6 : Hid (Blk ((w6.setCell ⟨sb, 0, none⟩ (.int .i64 q3)).setCell ⟨sb, 1, none⟩ (.slice ao3 (q3 * q3) cap3)) sb #[.int .i64 q3, .slice ao3 (q3 * q3) cap3] 24) := (S5.out.ext hx).sq
  have hlt := S5.out.lt
  have R6 := Lib.hid ((hrow.beside ⟨sb, 0, none⟩ hlt (.int .i64 q3)).beside ⟨sb, 1, none⟩ hlt (.slice ao3 (q3 * q3) cap3)).reads
  clear hlt hrow
  clear hx k2 ka kb M5 S5
  go_wp2_with fail
  refine Calls.mono (check_any q3 ao3 (q3 * q3) cap3 zs _ HZL.out R6.out) ?_
  rintro e w7 ⟨rfl, hx⟩
  rw [signsFaultOf_mat HRM.out.1 HRM.out.2]
  have M7 := Lib.hid (M6.out.carry hx)
  have S7 := Lib.hid (S6.out.ext hx)
  have R7 := Lib.hid (Ext.reads hx R6.out)
  have ka := M7.out.a.two
  clear hx M6 S6 R6 k3 f2 f3
  go_wp2_with fail
  refine Calls.mono (HA.out _ M7.out.ext) ?_
  rintro e w8 ⟨rfl, hx⟩
  have M8 := Lib.hid (M7.out.carry hx)
  have S8 := Lib.hid (S7.out.ext hx)
  have R8 := Lib.hid (Ext.reads hx R7.out)
  have kb := M8.out.b.two
  clear hx M7 S7 R7 ka
  go_wp2_with fail
  refine Calls.mono (HB.out _ M8.out.ext) ?_
  rintro e w9 ⟨rfl, hx⟩
  have M9 := Lib.hid (M8.out.carry hx)
  have S9 := Lib.hid (S8.out.ext hx)
  have R9 := Lib.hid (Ext.reads hx R8.out)
  have k4 := S9.out.two
  clear hx M8 S8 R8 kb
  go_wp2_with fail
  have hex := excess_ok q3 ao3 (q3 * q3) cap3 zs _ HZL.out R9.out HRM.out.1 HRM.out.2
  rw [HSUM.out] at hex
  refine Calls.mono hex ?_
  rintro e w10 ⟨rfl, hx⟩
  clear hex
  have E10 := Lib.hid (M9.out.ext.trans hx)
  clear hx
  go_wp2
  go_ret
  exact ⟨by simp, E10.out⟩

set_option maxRecDepth 100000 in
set_option maxHeartbeats 4000000 in
theorem hadaMade_ynn (k : Nat) (p : Int) (a b : Int) (ao bo : Option Addr) (len cap len' cap' : Nat) (xs ys : List Int) (w : World) (hl : xs.length = len) (hr : Reads w ao (ints xs)) (hl' : ys.length = len') (hr' : Reads w bo (ints ys)) (hk : k ≤ 4) (hp : p < 1 ∨ 23 < p ∨ ¬ (p = 3 ∨ p = 7 ∨ p = 11 ∨ p = 19 ∨ p = 23)) (hbad : signsFaultOf a xs ≠ 0 ∨ signsFaultOf b ys ≠ 0 ∨ ∃ n m : Nat, a = n ∧ b = m ∧ 24 < n * m) :
    Calls Try.prog 7 #[.int .i64 k, .int .i64 p, .agg #[.int .i64 a, .slice ao len cap], .agg #[.int .i64 b, .slice bo len' cap']] w fun e w' => e = .returned (.bool true) ∧ Below w.heap.size w w' := by
  have M0 := Lib.hid (mkSt_start w a b ao bo len cap len' cap')
  have HS := Lib.hid (fun w => sylvester_ok k w hk)
  have HSM := Lib.hid (syl_mat hk)
  have hsh : wrap64 (2 ^ k) = ((2 ^ k : Nat) : Int) := by
    have h16 : 2 ^ k ≤ 2 ^ 4 := Nat.pow_le_pow_right (by omega) hk
    rw [show ((2 : Int) ^ k) = ((2 ^ k : Nat) : Int) by simp]
    generalize 2 ^ k = z at *
    exact IntWalk.wrap64_in _ (by omega)
  obtain ⟨q, hq⟩ : ∃ q, q = 2 ^ k := ⟨_, rfl⟩
  rw [← hq] at HS HSM hsh
  have cq : ((q : Int) != (q : Int)) = false := by simp
  clear hq
  obtain ⟨ep, hep, hP⟩ := pal_bad p hp
  have HP := Lib.hid hP
  have b1 : (ep == 0) = false := by rw [beq_eq_false_iff_ne]; exact hep
  clear hp hep hP
  obtain ⟨er, her, hR⟩ := prod_bad a b xs ys hbad
  have HR : Hid (∀ w1, Ext w w1 → _) := fun w1 (hx : Ext w w1) => hR ao bo len cap len' cap' w1 hl (hx.reads hr) hl' (hx.reads hr')
  have b2 : (er != 0) = true := by rw [bne_iff_ne]; exact her
  clear hl hr hl' hr' hbad her hR
  go_enter Try.func7, Try.ntmps7
  go_wp2_with fail
  refine Calls.mono (hadaFact_any _) ?_
  rintro e w1 ⟨rfl, hx⟩
  have M1 := Lib.hid (M0.out.carry hx)
  have hs1 : w.heap.size + 2 ≤ w1.heap.size := by have := Ext.size hx; simpa using this
  clear hx M0
  go_wp2_with fail
  refine Calls.mono (HS.out _) ?_
  rintro e w2 ⟨ao1, cap1, rfl, hrow, hx⟩
  have M2 := Lib.hid ((M1.out.carry hx).carry ((Ext.refl _).alloc (.cells #[.int .i64 q, .slice ao1 (q * q) cap1] 24)))
  have S2 := Lib.hid (Blk.new w2 #[.int .i64 q, .slice ao1 (q * q) cap1] 24)
  have hs2 : w.heap.size + 2 ≤ w2.heap.size := by have := Ext.size hx; omega
  have R2 := Lib.hid (((Ext.refl w2).alloc (.cells #[.int .i64 q, .slice ao1 (q * q) cap1] 24)).reads hrow.reads)
  clear hx M1 hrow
  obtain ⟨wA, hwA⟩ : ∃ wA, wA = w2.alloc (.cells #[.int .i64 q, .slice ao1 (q * q) cap1] 24) := ⟨_, rfl⟩
  clear hwA wA
  go_wp2_with fail
  refine Calls.mono (check_any q ao1 (q * q) cap1 _ _ HSM.out.1.len R2.out) ?_
  rintro e w3 ⟨rfl, hx⟩
  rw [signsFaultOf_mat HSM.out.1 HSM.out.2]
  have M3 := Lib.hid (M2.out.carry hx)
  have S3 := Lib.hid (S2.out.ext hx)
  have k0 := S3.out.two
  clear hx M2 S2 R2
  obtain ⟨sb, hsb⟩ : ∃ sb, sb = w2.heap.size := ⟨_, rfl⟩
  rw [← hsb] at S3 hs2 k0 ⊢
  clear hsb
  go_wp2_with fail
  go_quiet (fail)
  go_wp2_with fail
  refine Calls.mono (HP.out _) ?_
  rintro e w4 ⟨rfl, hx⟩
  have k1 := ((S3.out.drewN _).ext hx).two
  have f0 := ((S3.out.drewN _).ext hx).f 0
  have f1 := ((S3.out.drewN _).ext hx).f 1
  have M4 := Lib.hid ((((M3.out.carry ((Drawn.drewN w3 _).ext)).carry hx).set ⟨sb, 0, none⟩ hs2 (.int .i64 0)).set ⟨sb, 1, none⟩ hs2 (.slice none 0 0))
  have S4 : Hid (Blk ((w4.setCell ⟨sb, 0, none⟩ (.int .i64 0)).setCell ⟨sb, 1, none⟩ (.slice none 0 0)) sb #[.int .i64 0, .slice none 0 0] 24) := ((S3.out.drewN _).ext hx).sq
  clear hx k0 M3 S3
  have ka := M4.out.a.two
  have kb := M4.out.b.two
  go_wp2_with fail
  refine Calls.mono (HR.out _ M4.out.ext) ?_
  rintro e w6 ⟨rfl, hx⟩
  have k3 := (S4.out.ext hx).two
  have f2 := (S4.out.ext hx).f 0
  have f3 := (S4.out.ext hx).f 1
  have M6 := Lib.hid (((M4.out.carry hx).set ⟨sb, 0, none⟩ hs2 (.int .i64 0)).set ⟨sb, 1, none⟩ hs2 (.slice none 0 0))
  have S6 : Hid (Blk ((w6.setCell ⟨sb, 0, none⟩ (.int .i64 0)).setCell ⟨sb, 1, none⟩ (.slice none 0 0)) sb #[.int .i64 0, .slice none 0 0] 24) := (S4.out.ext hx).sq
  clear hx ka kb M4 S4 k1 f0 f1
  go_wp2
  go_ret
  exact ⟨rfl, M6.out.ext⟩

set_option maxRecDepth 100000 in
set_option maxHeartbeats 4000000 in
theorem hadaMade_yny (k : Nat) (p : Int) (a b : Nat) (ao bo : Option Addr) (len cap len' cap' : Nat) (xs ys : List Int) (w : World) (hl : xs.length = len) (hr : Reads w ao (ints xs)) (hl' : ys.length = len') (hr' : Reads w bo (ints ys)) (hk : k ≤ 4) (hp : p < 1 ∨ 23 < p ∨ ¬ (p = 3 ∨ p = 7 ∨ p = 11 ∨ p = 19 ∨ p = 23)) (hm : IsMat a xs) (ho : Orth a xs) (hm' : IsMat b ys) (ho' : Orth b ys) (hb : ¬ 24 < a * b) :
    Calls Try.prog 7 #[.int .i64 k, .int .i64 p, .agg #[.int .i64 a, .slice ao len cap], .agg #[.int .i64 b, .slice bo len' cap']] w fun e w' => e = .returned (.bool true) ∧ Below w.heap.size w w' := by
  have M0 := Lib.hid (mkSt_start w a b ao bo len cap len' cap')
  have HS := Lib.hid (fun w => sylvester_ok k w hk)
  have HSM := Lib.hid (syl_mat hk)
  have hsh : wrap64 (2 ^ k) = ((2 ^ k : Nat) : Int) := by
    have h16 : 2 ^ k ≤ 2 ^ 4 := Nat.pow_le_pow_right (by omega) hk
    rw [show ((2 : Int) ^ k) = ((2 ^ k : Nat) : Int) by simp]
    generalize 2 ^ k = z at *
    exact IntWalk.wrap64_in _ (by omega)
  obtain ⟨q, hq⟩ : ∃ q, q = 2 ^ k := ⟨_, rfl⟩
  rw [← hq] at HS HSM hsh
  have cq : ((q : Int) != (q : Int)) = false := by simp
  clear hq
  obtain ⟨ep, hep, hP⟩ := pal_bad p hp
  have HP := Lib.hid hP
  have b1 : (ep == 0) = false := by rw [beq_eq_false_iff_ne]; exact hep
  clear hp hep hP
  have HR : Hid (∀ w1, Ext w w1 → _) := fun w1 (hx : Ext w w1) => product_ok a b ao bo len cap len' cap' xs ys w1 hl (hx.reads hr) hl' (hx.reads hr') hm ho hm' ho' hb
  have HRM := Lib.hid (prod_mat hm ho hm' ho' hb)
  have HA : Hid (∀ w1, Ext w w1 → _) := fun w1 (hx : Ext w w1) => excess_ok a ao len cap xs w1 hl (hx.reads hr) hm ho
  have HB : Hid (∀ w1, Ext w w1 → _) := fun w1 (hx : Ext w w1) => excess_ok b bo len' cap' ys w1 hl' (hx.reads hr') hm' ho'
  have hsum := prod_sum (n := a) (m := b) (xs := xs) (ys := ys)
  have hla : len = a * a := by rw [← hl]; exact hm.len
  have hlb : len' = b * b := by rw [← hl']; exact hm'.len
  rw [← hla, ← hlb] at hsum
  have s1 := sumTo_bound hm len (by omega)
  have s2 := sumTo_bound hm' len' (by omega)
  have sq1 := sq_bound hm.big
  have sq2 := sq_bound hm'.big
  rw [← hla] at sq1
  rw [← hlb] at sq2
  obtain ⟨q3, hq3⟩ : ∃ q3, q3 = a * b := ⟨_, rfl⟩
  rw [← hq3] at HR HRM hsum
  obtain ⟨zs, hzs⟩ : ∃ zs, zs = tab (flat q3 (prodCell xs ys a b)) (q3 * q3) := ⟨_, rfl⟩
  rw [← hzs] at HR HRM hsum
  obtain ⟨x, hx⟩ : ∃ x, x = sumTo xs len := ⟨_, rfl⟩
  obtain ⟨y, hy⟩ : ∃ y, y = sumTo ys len' := ⟨_, rfl⟩
  rw [← hx] at HA s1 hsum
  rw [← hy] at HB s2 hsum
  have HSUM := Lib.hid hsum
  have p1 : -576 * 576 ≤ x * y ∧ x * y ≤ 576 * 576 := by
    have h1 : x.natAbs ≤ 576 := by omega
    have h2 : y.natAbs ≤ 576 := by omega
    have h3 := Nat.mul_le_mul h1 h2
    rw [← Int.natAbs_mul] at h3
    omega
  obtain ⟨p1, p2⟩ := p1
  have cxy : (x * y == x * y) = true := by simp
  have HZL : Hid (zs.length = q3 * q3) := by show _ = _; rw [hzs]; exact tab_length _ _
  have hq24 : q3 ≤ 24 := by omega
  clear hl hr hl' hr' hm ho hm' ho' hb hsum hla hlb s1 s2 sq1 sq2 hq3 hzs hx hy
  go_enter Try.func7, Try.ntmps7
  go_wp2_with fail
  refine Calls.mono (hadaFact_any _) ?_
  rintro e w1 ⟨rfl, hx⟩
  have M1 := Lib.hid (M0.out.carry hx)
  have hs1 : w.heap.size + 2 ≤ w1.heap.size := by have := Ext.size hx; simpa using this
  clear hx M0
  go_wp2_with fail
  refine Calls.mono (HS.out _) ?_
  rintro e w2 ⟨ao1, cap1, rfl, hrow, hx⟩
  have M2 := Lib.hid ((M1.out.carry hx).carry ((Ext.refl _).alloc (.cells #[.int .i64 q, .slice ao1 (q * q) cap1] 24)))
  have S2 := Lib.hid (Blk.new w2 #[.int .i64 q, .slice ao1 (q * q) cap1] 24)
  have hs2 : w.heap.size + 2 ≤ w2.heap.size := by have := Ext.size hx; omega
  have R2 := Lib.hid (((Ext.refl w2).alloc (.cells #[.int .i64 q, .slice ao1 (q * q) cap1] 24)).reads hrow.reads)
  clear hx M1 hrow
  obtain ⟨wA, hwA⟩ : ∃ wA, wA = w2.alloc (.cells #[.int .i64 q, .slice ao1 (q * q) cap1] 24) := ⟨_, rfl⟩
  clear hwA wA
  go_wp2_with fail
  refine Calls.mono (check_any q ao1 (q * q) cap1 _ _ HSM.out.1.len R2.out) ?_
  rintro e w3 ⟨rfl, hx⟩
  rw [signsFaultOf_mat HSM.out.1 HSM.out.2]
  have M3 := Lib.hid (M2.out.carry hx)
  have S3 := Lib.hid (S2.out.ext hx)
  have k0 := S3.out.two
  clear hx M2 S2 R2
  obtain ⟨sb, hsb⟩ : ∃ sb, sb = w2.heap.size := ⟨_, rfl⟩
  rw [← hsb] at S3 hs2 k0 ⊢
  clear hsb
  go_wp2_with fail
  go_quiet (fail)
  go_wp2_with fail
  refine Calls.mono (HP.out _) ?_
  rintro e w4 ⟨rfl, hx⟩
  have k1 := ((S3.out.drewN _).ext hx).two
  have f0 := ((S3.out.drewN _).ext hx).f 0
  have f1 := ((S3.out.drewN _).ext hx).f 1
  have M4 := Lib.hid ((((M3.out.carry ((Drawn.drewN w3 _).ext)).carry hx).set ⟨sb, 0, none⟩ hs2 (.int .i64 0)).set ⟨sb, 1, none⟩ hs2 (.slice none 0 0))
  have S4 : Hid (Blk ((w4.setCell ⟨sb, 0, none⟩ (.int .i64 0)).setCell ⟨sb, 1, none⟩ (.slice none 0 0)) sb #[.int .i64 0, .slice none 0 0] 24) := ((S3.out.drewN _).ext hx).sq
  clear hx k0 M3 S3
  have ka := M4.out.a.two
  have kb := M4.out.b.two
  go_wp2_with fail
  refine Calls.mono (HR.out _ M4.out.ext) ?_
  rintro e w6 ⟨ao3, cap3, rfl, hrow, hx⟩
  have k3 := (S4.out.ext hx).two
  have f2 := (S4.out.ext hx).f 0
  have f3 := (S4.out.ext hx).f 1
  have M6 := Lib.hid (((M4.out.carry hx).set ⟨sb, 0, none⟩ hs2 (.int .i64 q3)).set ⟨sb, 1, none⟩ hs2 (.slice ao3 (q3 * q3) cap3))
  have S6 : Hid (Blk ((w6.setCell ⟨sb, 0, none⟩ (.int .i64 q3)).setCell ⟨sb, 1, none⟩ (.slice ao3 (q3 * q3) cap3)) sb #[.int .i64 q3, .slice ao3 (q3 * q3) cap3] 24) := (S4.out.ext hx).sq
  have hlt := S4.out.lt
  have R6 := Lib.hid ((hrow.beside ⟨sb, 0, none⟩ hlt (.int .i64 q3)).beside ⟨sb, 1, none⟩ hlt (.slice ao3 (q3 * q3) cap3)).reads
  clear hlt hrow
  clear hx ka kb M4 S4 k1 f0 f1
  go_wp2_with fail
  refine Calls.mono (check_any q3 ao3 (q3 * q3) cap3 zs _ HZL.out R6.out) ?_
  rintro e w7 ⟨rfl, hx⟩
  rw [signsFaultOf_mat HRM.out.1 HRM.out.2]
  have M7 := Lib.hid (M6.out.carry hx)
  have S7 := Lib.hid (S6.out.ext hx)
  have R7 := Lib.hid (Ext.reads hx R6.out)
  have ka := M7.out.a.two
  clear hx M6 S6 R6 k3 f2 f3
  go_wp2_with fail
  refine Calls.mono (HA.out _ M7.out.ext) ?_
  rintro e w8 ⟨rfl, hx⟩
  have M8 := Lib.hid (M7.out.carry hx)
  have S8 := Lib.hid (S7.out.ext hx)
  have R8 := Lib.hid (Ext.reads hx R7.out)
  have kb := M8.out.b.two
  clear hx M7 S7 R7 ka
  go_wp2_with fail
  refine Calls.mono (HB.out _ M8.out.ext) ?_
  rintro e w9 ⟨rfl, hx⟩
  have M9 := Lib.hid (M8.out.carry hx)
  have S9 := Lib.hid (S8.out.ext hx)
  have R9 := Lib.hid (Ext.reads hx R8.out)
  have k4 := S9.out.two
  clear hx M8 S8 R8 kb
  go_wp2_with fail
  have hex := excess_ok q3 ao3 (q3 * q3) cap3 zs _ HZL.out R9.out HRM.out.1 HRM.out.2
  rw [HSUM.out] at hex
  refine Calls.mono hex ?_
  rintro e w10 ⟨rfl, hx⟩
  clear hex
  have E10 := Lib.hid (M9.out.ext.trans hx)
  clear hx
  go_wp2
  go_ret
  exact ⟨by simp, E10.out⟩

set_option maxRecDepth 100000 in
set_option maxHeartbeats 4000000 in
theorem hadaMade_yyn (k : Nat) (p : Nat) (a b : Int) (ao bo : Option Addr) (len cap len' cap' : Nat) (xs ys : List Int) (w : World) (hl : xs.length = len) (hr : Reads w ao (ints xs)) (hl' : ys.length = len') (hr' : Reads w bo (ints ys)) (hk : k ≤ 4) (hp : p = 3 ∨ p = 7 ∨ p = 11 ∨ p = 19 ∨ p = 23) (hbad : signsFaultOf a xs ≠ 0 ∨ signsFaultOf b ys ≠ 0 ∨ ∃ n m : Nat, a = n ∧ b = m ∧ 24 < n * m) :
    Calls Try.prog 7 #[.int .i64 k, .int .i64 p, .agg #[.int .i64 a, .slice ao len cap], .agg #[.int .i64 b, .slice bo len' cap']] w fun e w' => e = .returned (.bool true) ∧ Below w.heap.size w w' := by
  have M0 := Lib.hid (mkSt_start w a b ao bo len cap len' cap')
  have HS := Lib.hid (fun w => sylvester_ok k w hk)
  have HSM := Lib.hid (syl_mat hk)
  have hsh : wrap64 (2 ^ k) = ((2 ^ k : Nat) : Int) := by
    have h16 : 2 ^ k ≤ 2 ^ 4 := Nat.pow_le_pow_right (by omega) hk
    rw [show ((2 : Int) ^ k) = ((2 ^ k : Nat) : Int) by simp]
    generalize 2 ^ k = z at *
    exact IntWalk.wrap64_in _ (by omega)
  obtain ⟨q, hq⟩ : ∃ q, q = 2 ^ k := ⟨_, rfl⟩
  rw [← hq] at HS HSM hsh
  have cq : ((q : Int) != (q : Int)) = false := by simp
  clear hq
  have HP := Lib.hid (fun w => paley_ok p w hp)
  have HPM := Lib.hid (pal_mat hp)
  have hp24 : p ≤ 23 := by omega
  have cp : ((p : Int) + 1 != (p : Int) + 1) = false := by simp
  have hcast : ((p + 1 : Nat) : Int) = (p : Int) + 1 := by simp
  have HCAST := Lib.hid hcast
  clear hp hcast
  obtain ⟨er, her, hR⟩ := prod_bad a b xs ys hbad
  have HR : Hid (∀ w1, Ext w w1 → _) := fun w1 (hx : Ext w w1) => hR ao bo len cap len' cap' w1 hl (hx.reads hr) hl' (hx.reads hr')
  have b2 : (er != 0) = true := by rw [bne_iff_ne]; exact her
  clear hl hr hl' hr' hbad her hR
  go_enter Try.func7, Try.ntmps7
  go_wp2_with fail
  refine Calls.mono (hadaFact_any _) ?_
  rintro e w1 ⟨rfl, hx⟩
  have M1 := Lib.hid (M0.out.carry hx)
  have hs1 : w.heap.size + 2 ≤ w1.heap.size := by have := Ext.size hx; simpa using this
  clear hx M0
  go_wp2_with fail
  refine Calls.mono (HS.out _) ?_
  rintro e w2 ⟨ao1, cap1, rfl, hrow, hx⟩
  have M2 := Lib.hid ((M1.out.carry hx).carry ((Ext.refl _).alloc (.cells #[.int .i64 q, .slice ao1 (q * q) cap1] 24)))
  have S2 := Lib.hid (Blk.new w2 #[.int .i64 q, .slice ao1 (q * q) cap1] 24)
  have hs2 : w.heap.size + 2 ≤ w2.heap.size := by have := Ext.size hx; omega
  have R2 := Lib.hid (((Ext.refl w2).alloc (.cells #[.int .i64 q, .slice ao1 (q * q) cap1] 24)).reads hrow.reads)
  clear hx M1 hrow
  obtain ⟨wA, hwA⟩ : ∃ wA, wA = w2.alloc (.cells #[.int .i64 q, .slice ao1 (q * q) cap1] 24) := ⟨_, rfl⟩
  clear hwA wA
  go_wp2_with fail
  refine Calls.mono (check_any q ao1 (q * q) cap1 _ _ HSM.out.1.len R2.out) ?_
  rintro e w3 ⟨rfl, hx⟩
  rw [signsFaultOf_mat HSM.out.1 HSM.out.2]
  have M3 := Lib.hid (M2.out.carry hx)
  have S3 := Lib.hid (S2.out.ext hx)
  have k0 := S3.out.two
  clear hx M2 S2 R2
  obtain ⟨sb, hsb⟩ : ∃ sb, sb = w2.heap.size := ⟨_, rfl⟩
  rw [← hsb] at S3 hs2 k0 ⊢
  clear hsb
  go_wp2_with fail
  go_quiet (fail)
  go_wp2_with fail
  refine Calls.mono (HP.out _) ?_
  rintro e w4 ⟨ao2, cap2, rfl, hrow, hx⟩
  have k1 := ((S3.out.drewN _).ext hx).two
  have f0 := ((S3.out.drewN _).ext hx).f 0
  have f1 := ((S3.out.drewN _).ext hx).f 1
  have M4 := Lib.hid ((((M3.out.carry ((Drawn.drewN w3 _).ext)).carry hx).set ⟨sb, 0, none⟩ hs2 (.int .i64 ((p : Int) + 1))).set ⟨sb, 1, none⟩ hs2 (.slice ao2 ((p + 1) * (p + 1)) cap2))
  have S4 : Hid (Blk ((w4.setCell ⟨sb, 0, none⟩ (.int .i64 ((p : Int) + 1))).setCell ⟨sb, 1, none⟩ (.slice ao2 ((p + 1) * (p + 1)) cap2)) sb #[.int .i64 ((p : Int) + 1), .slice ao2 ((p + 1) * (p + 1)) cap2] 24) := ((S3.out.drewN _).ext hx).sq
  have hlt := S3.out.lt
  have R4 := Lib.hid ((hrow.beside ⟨sb, 0, none⟩ hlt (.int .i64 ((p : Int) + 1))).beside ⟨sb, 1, none⟩ hlt (.slice ao2 ((p + 1) * (p + 1)) cap2)).reads
  clear hlt hrow
  clear hx k0 M3 S3
  go_wp2_with fail
  have hck := check_any (p + 1 : Nat) ao2 ((p + 1) * (p + 1)) cap2 _ _ HPM.out.1.len R4.out
  rw [signsFaultOf_mat HPM.out.1 HPM.out.2, HCAST.out] at hck
  refine Calls.mono hck ?_
  rintro e w5 ⟨rfl, hx⟩
  clear hck
  have M5 := Lib.hid (M4.out.carry hx)
  have S5 := Lib.hid (S4.out.ext hx)
  have k2 := S5.out.two
  have ka := M5.out.a.two
  have kb := M5.out.b.two
  clear hx M4 S4 R4 k1 f0 f1
  go_wp2_with fail
  refine Calls.mono (HR.out _ M5.out.ext) ?_
  rintro e w6 ⟨rfl, hx⟩
  have k3 := (S5.out.ext hx).two
  have f2 := (S5.out.ext hx).f 0
  have f3 := (S5.out.ext hx).f 1
  have M6 := Lib.hid (((M5.out.carry hx).set ⟨sb, 0, none⟩ hs2 (.int .i64 0)).set ⟨sb, 1, none⟩ hs2 (.slice none 0 0))
  have S6 : Hid (Blk ((w6.setCell ⟨sb, 0, none⟩ (.int .i64 0)).setCell ⟨sb, 1, none⟩ (.slice none 0 0)) sb #[.int .i64 0, .slice none 0 0] 24) := (S5.out.ext hx).sq
  clear hx k2 ka kb M5 S5
  go_wp2
  go_ret
  exact ⟨rfl, M6.out.ext⟩

set_option maxRecDepth 100000 in
set_option maxHeartbeats 4000000 in
theorem hadaMade_yyy (k : Nat) (p : Nat) (a b : Nat) (ao bo : Option Addr) (len cap len' cap' : Nat) (xs ys : List Int) (w : World) (hl : xs.length = len) (hr : Reads w ao (ints xs)) (hl' : ys.length = len') (hr' : Reads w bo (ints ys)) (hk : k ≤ 4) (hp : p = 3 ∨ p = 7 ∨ p = 11 ∨ p = 19 ∨ p = 23) (hm : IsMat a xs) (ho : Orth a xs) (hm' : IsMat b ys) (ho' : Orth b ys) (hb : ¬ 24 < a * b) :
    Calls Try.prog 7 #[.int .i64 k, .int .i64 p, .agg #[.int .i64 a, .slice ao len cap], .agg #[.int .i64 b, .slice bo len' cap']] w fun e w' => e = .returned (.bool true) ∧ Below w.heap.size w w' := by
  have M0 := Lib.hid (mkSt_start w a b ao bo len cap len' cap')
  have HS := Lib.hid (fun w => sylvester_ok k w hk)
  have HSM := Lib.hid (syl_mat hk)
  have hsh : wrap64 (2 ^ k) = ((2 ^ k : Nat) : Int) := by
    have h16 : 2 ^ k ≤ 2 ^ 4 := Nat.pow_le_pow_right (by omega) hk
    rw [show ((2 : Int) ^ k) = ((2 ^ k : Nat) : Int) by simp]
    generalize 2 ^ k = z at *
    exact IntWalk.wrap64_in _ (by omega)
  obtain ⟨q, hq⟩ : ∃ q, q = 2 ^ k := ⟨_, rfl⟩
  rw [← hq] at HS HSM hsh
  have cq : ((q : Int) != (q : Int)) = false := by simp
  clear hq
  have HP := Lib.hid (fun w => paley_ok p w hp)
  have HPM := Lib.hid (pal_mat hp)
  have hp24 : p ≤ 23 := by omega
  have cp : ((p : Int) + 1 != (p : Int) + 1) = false := by simp
  have hcast : ((p + 1 : Nat) : Int) = (p : Int) + 1 := by simp
  have HCAST := Lib.hid hcast
  clear hp hcast
  have HR : Hid (∀ w1, Ext w w1 → _) := fun w1 (hx : Ext w w1) => product_ok a b ao bo len cap len' cap' xs ys w1 hl (hx.reads hr) hl' (hx.reads hr') hm ho hm' ho' hb
  have HRM := Lib.hid (prod_mat hm ho hm' ho' hb)
  have HA : Hid (∀ w1, Ext w w1 → _) := fun w1 (hx : Ext w w1) => excess_ok a ao len cap xs w1 hl (hx.reads hr) hm ho
  have HB : Hid (∀ w1, Ext w w1 → _) := fun w1 (hx : Ext w w1) => excess_ok b bo len' cap' ys w1 hl' (hx.reads hr') hm' ho'
  have hsum := prod_sum (n := a) (m := b) (xs := xs) (ys := ys)
  have hla : len = a * a := by rw [← hl]; exact hm.len
  have hlb : len' = b * b := by rw [← hl']; exact hm'.len
  rw [← hla, ← hlb] at hsum
  have s1 := sumTo_bound hm len (by omega)
  have s2 := sumTo_bound hm' len' (by omega)
  have sq1 := sq_bound hm.big
  have sq2 := sq_bound hm'.big
  rw [← hla] at sq1
  rw [← hlb] at sq2
  obtain ⟨q3, hq3⟩ : ∃ q3, q3 = a * b := ⟨_, rfl⟩
  rw [← hq3] at HR HRM hsum
  obtain ⟨zs, hzs⟩ : ∃ zs, zs = tab (flat q3 (prodCell xs ys a b)) (q3 * q3) := ⟨_, rfl⟩
  rw [← hzs] at HR HRM hsum
  obtain ⟨x, hx⟩ : ∃ x, x = sumTo xs len := ⟨_, rfl⟩
  obtain ⟨y, hy⟩ : ∃ y, y = sumTo ys len' := ⟨_, rfl⟩
  rw [← hx] at HA s1 hsum
  rw [← hy] at HB s2 hsum
  have HSUM := Lib.hid hsum
  have p1 : -576 * 576 ≤ x * y ∧ x * y ≤ 576 * 576 := by
    have h1 : x.natAbs ≤ 576 := by omega
    have h2 : y.natAbs ≤ 576 := by omega
    have h3 := Nat.mul_le_mul h1 h2
    rw [← Int.natAbs_mul] at h3
    omega
  obtain ⟨p1, p2⟩ := p1
  have cxy : (x * y == x * y) = true := by simp
  have HZL : Hid (zs.length = q3 * q3) := by show _ = _; rw [hzs]; exact tab_length _ _
  have hq24 : q3 ≤ 24 := by omega
  clear hl hr hl' hr' hm ho hm' ho' hb hsum hla hlb s1 s2 sq1 sq2 hq3 hzs hx hy
  go_enter Try.func7, Try.ntmps7
  go_wp2_with fail
  refine Calls.mono (hadaFact_any _) ?_
  rintro e w1 ⟨rfl, hx⟩
  have M1 := Lib.hid (M0.out.carry hx)
  have hs1 : w.heap.size + 2 ≤ w1.heap.size := by have := Ext.size hx; simpa using this
  clear hx M0
  go_wp2_with fail
  refine Calls.mono (HS.out _) ?_
  rintro e w2 ⟨ao1, cap1, rfl, hrow, hx⟩
  have M2 := Lib.hid ((M1.out.carry hx).carry ((Ext.refl _).alloc (.cells #[.int .i64 q, .slice ao1 (q * q) cap1] 24)))
  have S2 := Lib.hid (Blk.new w2 #[.int .i64 q, .slice ao1 (q * q) cap1] 24)
  have hs2 : w.heap.size + 2 ≤ w2.heap.size := by have := Ext.size hx; omega
  have R2 := Lib.hid (((Ext.refl w2).alloc (.cells #[.int .i64 q, .slice ao1 (q * q) cap1] 24)).reads hrow.reads)
  clear hx M1 hrow
  obtain ⟨wA, hwA⟩ : ∃ wA, wA = w2.alloc (.cells #[.int .i64 q, .slice ao1 (q * q) cap1] 24) := ⟨_, rfl⟩
  clear hwA wA
  go_wp2_with fail
  refine Calls.mono (check_any q ao1 (q * q) cap1 _ _ HSM.out.1.len R2.out) ?_
  rintro e w3 ⟨rfl, hx⟩
  rw [signsFaultOf_mat HSM.out.1 HSM.out.2]
  have M3 := Lib.hid (M2.out.carry hx)
  have S3 := Lib.hid (S2.out.ext hx)
  have k0 := S3.out.two
  clear hx M2 S2 R2
  obtain ⟨sb, hsb⟩ : ∃ sb, sb = w2.heap.size := ⟨_, rfl⟩
  rw [← hsb] at S3 hs2 k0 ⊢
  clear hsb
  go_wp2_with fail
  go_quiet (fail)
  go_wp2_with fail
  refine Calls.mono (HP.out _) ?_
  rintro e w4 ⟨ao2, cap2, rfl, hrow, hx⟩
  have k1 := ((S3.out.drewN _).ext hx).two
  have f0 := ((S3.out.drewN _).ext hx).f 0
  have f1 := ((S3.out.drewN _).ext hx).f 1
  have M4 := Lib.hid ((((M3.out.carry ((Drawn.drewN w3 _).ext)).carry hx).set ⟨sb, 0, none⟩ hs2 (.int .i64 ((p : Int) + 1))).set ⟨sb, 1, none⟩ hs2 (.slice ao2 ((p + 1) * (p + 1)) cap2))
  have S4 : Hid (Blk ((w4.setCell ⟨sb, 0, none⟩ (.int .i64 ((p : Int) + 1))).setCell ⟨sb, 1, none⟩ (.slice ao2 ((p + 1) * (p + 1)) cap2)) sb #[.int .i64 ((p : Int) + 1), .slice ao2 ((p + 1) * (p + 1)) cap2] 24) := ((S3.out.drewN _).ext hx).sq
  have hlt := S3.out.lt
  have R4 := Lib.hid ((hrow.beside ⟨sb, 0, none⟩ hlt (.int .i64 ((p : Int) + 1))).beside ⟨sb, 1, none⟩ hlt (.slice ao2 ((p + 1) * (p + 1)) cap2)).reads
  clear hlt hrow
  clear hx k0 M3 S3
  go_wp2_with fail
  have hck := check_any (p + 1 : Nat) ao2 ((p + 1) * (p + 1)) cap2 _ _ HPM.out.1.len R4.out
  rw [signsFaultOf_mat HPM.out.1 HPM.out.2, HCAST.out] at hck
  refine Calls.mono hck ?_
  rintro e w5 ⟨rfl, hx⟩
  clear hck
  have M5 := Lib.hid (M4.out.carry hx)
  have S5 := Lib.hid (S4.out.ext hx)
  have k2 := S5.out.two
  have ka := M5.out.a.two
  have kb := M5.out.b.two
  clear hx M4 S4 R4 k1 f0 f1
  go_wp2_with fail
  refine Calls.mono (HR.out _ M5.out.ext) ?_
  rintro e w6 ⟨ao3, cap3, rfl, hrow, hx⟩
  have k3 := (S5.out.ext hx).two
  have f2 := (S5.out.ext hx).f 0
  have f3 := (S5.out.ext hx).f 1
  have M6 := Lib.hid (((M5.out.carry hx).set ⟨sb, 0, none⟩ hs2 (.int .i64 q3)).set ⟨sb, 1, none⟩ hs2 (.slice ao3 (q3 * q3) cap3))
  have S6 : Hid (Blk ((w6.setCell ⟨sb, 0, none⟩ (.int .i64 q3)).setCell ⟨sb, 1, none⟩ (.slice ao3 (q3 * q3) cap3)) sb #[.int .i64 q3, .slice ao3 (q3 * q3) cap3] 24) := (S5.out.ext hx).sq
  have hlt := S5.out.lt
  have R6 := Lib.hid ((hrow.beside ⟨sb, 0, none⟩ hlt (.int .i64 q3)).beside ⟨sb, 1, none⟩ hlt (.slice ao3 (q3 * q3) cap3)).reads
  clear hlt hrow
  clear hx k2 ka kb M5 S5
  go_wp2_with fail
  refine Calls.mono (check_any q3 ao3 (q3 * q3) cap3 zs _ HZL.out R6.out) ?_
  rintro e w7 ⟨rfl, hx⟩
  rw [signsFaultOf_mat HRM.out.1 HRM.out.2]
  have M7 := Lib.hid (M6.out.carry hx)
  have S7 := Lib.hid (S6.out.ext hx)
  have R7 := Lib.hid (Ext.reads hx R6.out)
  have ka := M7.out.a.two
  clear hx M6 S6 R6 k3 f2 f3
  go_wp2_with fail
  refine Calls.mono (HA.out _ M7.out.ext) ?_
  rintro e w8 ⟨rfl, hx⟩
  have M8 := Lib.hid (M7.out.carry hx)
  have S8 := Lib.hid (S7.out.ext hx)
  have R8 := Lib.hid (Ext.reads hx R7.out)
  have kb := M8.out.b.two
  clear hx M7 S7 R7 ka
  go_wp2_with fail
  refine Calls.mono (HB.out _ M8.out.ext) ?_
  rintro e w9 ⟨rfl, hx⟩
  have M9 := Lib.hid (M8.out.carry hx)
  have S9 := Lib.hid (S8.out.ext hx)
  have R9 := Lib.hid (Ext.reads hx R8.out)
  have k4 := S9.out.two
  clear hx M8 S8 R8 kb
  go_wp2_with fail
  have hex := excess_ok q3 ao3 (q3 * q3) cap3 zs _ HZL.out R9.out HRM.out.1 HRM.out.2
  rw [HSUM.out] at hex
  refine Calls.mono hex ?_
  rintro e w10 ⟨rfl, hx⟩
  clear hex
  have E10 := Lib.hid (M9.out.ext.trans hx)
  clear hx
  go_wp2
  go_ret
  exact ⟨by simp, E10.out⟩

theorem hadaMade_any (k : Int) (_ : -9223372036854775808 ≤ k ∧ k ≤ 9223372036854775807) (p : Int) (_ : -9223372036854775808 ≤ p ∧ p ≤ 9223372036854775807) (a : Int) (ao : Option Addr) (n cap : Nat) (xs : List Int) {w : World} (hx : IntsArg w ao n cap xs) (_ : -9223372036854775808 ≤ a) (_ : a ≤ 9223372036854775807)
    (b : Int) (bo : Option Addr) (n' cap' : Nat) (ys : List Int) (hy : IntsArg w bo n' cap' ys) (_ : -9223372036854775808 ≤ b) (_ : b ≤ 9223372036854775807) :
    Calls Try.prog 7 #[.int .i64 k, .int .i64 p, .agg #[.int .i64 a, .slice ao n cap], .agg #[.int .i64 b, .slice bo n' cap']] w fun e w' => e = .returned (.bool true) ∧ Below w.heap.size w w' := by
  by_cases h : signsFaultOf a xs ≠ 0 ∨ signsFaultOf b ys ≠ 0 ∨ ∃ n m : Nat, a = n ∧ b = m ∧ 24 < n * m
  · by_cases hk : k < 0 ∨ 4 < k
    · by_cases hp : p < 1 ∨ 23 < p ∨ ¬ (p = 3 ∨ p = 7 ∨ p = 11 ∨ p = 19 ∨ p = 23)
      · exact hadaMade_nnn k p a b ao bo n cap n' cap' xs ys w hx.len hx.reads hy.len hy.reads hk hp h
      · obtain ⟨p', rfl⟩ : ∃ p' : Nat, p = p' := ⟨p.toNat, by omega⟩
        exact hadaMade_nyn k p' a b ao bo n cap n' cap' xs ys w hx.len hx.reads hy.len hy.reads hk (by omega) h
    · obtain ⟨k', rfl⟩ : ∃ k' : Nat, k = k' := ⟨k.toNat, by omega⟩
      by_cases hp : p < 1 ∨ 23 < p ∨ ¬ (p = 3 ∨ p = 7 ∨ p = 11 ∨ p = 19 ∨ p = 23)
      · exact hadaMade_ynn k' p a b ao bo n cap n' cap' xs ys w hx.len hx.reads hy.len hy.reads (by omega) hp h
      · obtain ⟨p', rfl⟩ : ∃ p' : Nat, p = p' := ⟨p.toNat, by omega⟩
        exact hadaMade_yyn k' p' a b ao bo n cap n' cap' xs ys w hx.len hx.reads hy.len hy.reads (by omega) (by omega) h
  · have ha : signsFaultOf a xs = 0 := Classical.byContradiction fun e => h (.inl e)
    have hb : signsFaultOf b ys = 0 := Classical.byContradiction fun e => h (.inr (.inl e))
    obtain ⟨s, rfl, hm, ho⟩ := signsFaultOf_zero ha
    obtain ⟨t, rfl, hm', ho'⟩ := signsFaultOf_zero hb
    have hbig : ¬ 24 < s * t := fun e => h (.inr (.inr ⟨s, t, rfl, rfl, e⟩))
    by_cases hk : k < 0 ∨ 4 < k
    · by_cases hp : p < 1 ∨ 23 < p ∨ ¬ (p = 3 ∨ p = 7 ∨ p = 11 ∨ p = 19 ∨ p = 23)
      · exact hadaMade_nny k p s t ao bo n cap n' cap' xs ys w hx.len hx.reads hy.len hy.reads hk hp hm ho hm' ho' hbig
      · obtain ⟨p', rfl⟩ : ∃ p' : Nat, p = p' := ⟨p.toNat, by omega⟩
        exact hadaMade_nyy k p' s t ao bo n cap n' cap' xs ys w hx.len hx.reads hy.len hy.reads hk (by omega) hm ho hm' ho' hbig
    · obtain ⟨k', rfl⟩ : ∃ k' : Nat, k = k' := ⟨k.toNat, by omega⟩
      by_cases hp : p < 1 ∨ 23 < p ∨ ¬ (p = 3 ∨ p = 7 ∨ p = 11 ∨ p = 19 ∨ p = 23)
      · exact hadaMade_yny k' p s t ao bo n cap n' cap' xs ys w hx.len hx.reads hy.len hy.reads (by omega) hp hm ho hm' ho' hbig
      · obtain ⟨p', rfl⟩ : ∃ p' : Nat, p = p' := ⟨p.toNat, by omega⟩
        exact hadaMade_yyy k' p' s t ao bo n cap n' cap' xs ys w hx.len hx.reads hy.len hy.reads (by omega) (by omega) hm ho hm' ho' hbig

end Go.Proofs.Ytkdbdlkkjkiijaa
