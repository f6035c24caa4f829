/- HadaMakes is true at any numbers and squares. -/
import Derived.Test.YtkdbdlkkjkiijaaSylvesterOf
import Derived.Test.YtkdbdlkkjkiijaaSignsProduct
import Derived.Test.YtkdbdlkkjkiijaaSquares
import Derived.Test.YtkdbdlkkjkiijaaArgSquare
import Derived.Outline
namespace Go.Proofs.Ytkdbdlkkjkiijaa
open Go.RowKit

/-- What a function that makes a square answers. -/
def SqAt (f : FuncId) (args : Array Value) (w : World) (m : Int) (n : Nat) (xs : List Int) (e : Int) : Prop :=
  Calls Try.prog f args w fun en w' => ∃ ao cap, en = .returned (.tuple #[.agg #[.int .i64 m, .slice ao n cap], .int .i64 e]) ∧ RowOf 3 w' w.heap.size ao n cap (ints xs) ∧ Ext w w'
theorem sqAt_zero {f : FuncId} {args : Array Value} {w : World} {e : Int} (h : Calls Try.prog f args w fun en w' => en = .returned (.tuple #[.agg #[.int .i64 0, .slice none 0 0], .int .i64 e]) ∧ Ext w w') : SqAt f args w 0 0 [] e :=
  h.mono fun _ _ ⟨h1, h2⟩ => ⟨none, 0, h1, RowOf.nil _ _ _, h2⟩

theorem syl_pair (k : Int) : ∃ (m : Int) (n : Nat) (xs : List Int) (e : Int), xs.length = n ∧ n ≤ 576 ∧ (∀ w, SqAt 19 #[.int .i64 k] w m n xs e) ∧ (∀ w, SqAt 20 #[.int .i64 k] w m n xs e) := by
  by_cases h : k < 0 ∨ 4 < k
  · exact ⟨0, 0, [], 1, rfl, by omega, fun w => sqAt_zero (sylvester_bad k w h), fun w => sqAt_zero (sylvesterOf_bad k w h)⟩
  · obtain ⟨k', rfl⟩ : ∃ k' : Nat, k = k' := ⟨k.toNat, by omega⟩
    have h16 : 2 ^ k' ≤ 2 ^ 4 := Nat.pow_le_pow_right (by omega) (by omega)
    exact ⟨(2 ^ k' : Nat), 2 ^ k' * 2 ^ k', _, 0, tab_length _ _, Nat.le_trans (Nat.mul_le_mul h16 h16) (by decide), fun w => sylvester_ok k' w (by omega), fun w => sylvesterOf_ok k' w (by omega)⟩

theorem pal_pair (p : Int) : ∃ (m : Int) (n : Nat) (xs : List Int) (e : Int), xs.length = n ∧ n ≤ 576 ∧ (∀ w, SqAt 21 #[.int .i64 p] w m n xs e) ∧ (∀ w, SqAt 22 #[.int .i64 p] w m n xs e) := by
  by_cases h : p < 1 ∨ 23 < p
  · exact ⟨0, 0, [], 1, rfl, by omega, fun w => sqAt_zero (paley_range p w h), fun w => sqAt_zero (paleySigns_range p w h)⟩
  · obtain ⟨q, rfl⟩ : ∃ q : Nat, p = q := ⟨p.toNat, by omega⟩
    by_cases h5 : q = 3 ∨ q = 7 ∨ q = 11 ∨ q = 19 ∨ q = 23
    · exact ⟨(q : Int) + 1, (q + 1) * (q + 1), _, 0, tab_length _ _, Nat.le_trans (Nat.mul_le_mul (show q + 1 ≤ 24 by omega) (show q + 1 ≤ 24 by omega)) (by decide), fun w => paley_ok q w h5, fun w => paleySigns_ok q w h5⟩
    · exact ⟨0, 0, [], 4, rfl, by omega, fun w => sqAt_zero (paley_none q w (by omega) (by omega) (by omega) (by omega) (by omega) (by omega) (by omega)), fun w => sqAt_zero (paleySigns_none q w (by omega) (by omega) h5)⟩

theorem prod_pair (n m : Nat) (xs ys : List Int) (hm : IsMat n xs) (ho : Orth n xs) (hm' : IsMat m ys) (ho' : Orth m ys) :
    ∃ (q : Int) (l : Nat) (zs : List Int) (e : Int), zs.length = l ∧ l ≤ 576 ∧ ∀ (ao bo : Option Addr) (len cap len' cap' : Nat) (w : World), xs.length = len → Reads w ao (ints xs) → ys.length = len' → Reads w bo (ints ys) →
      SqAt 23 #[.agg #[.int .i64 n, .slice ao len cap], .agg #[.int .i64 m, .slice bo len' cap']] w q l zs e ∧ SqAt 24 #[.agg #[.int .i64 n, .slice ao len cap], .agg #[.int .i64 m, .slice bo len' cap']] w q l zs e := by
  by_cases h : 24 < n * m
  · exact ⟨0, 0, [], 3, rfl, by omega, fun ao bo len cap len' cap' w hl hr hl' hr' => ⟨sqAt_zero (product_full n m ao bo len cap len' cap' xs ys w hl hr hl' hr' hm ho hm' ho' h), sqAt_zero (signsProduct_full n m ao bo len cap len' cap' w hm.big hm'.big h)⟩⟩
  · exact ⟨(n * m : Nat), (n * m) * (n * m), _, 0, tab_length _ _, Nat.le_trans (Nat.mul_le_mul (show n * m ≤ 24 by omega) (show n * m ≤ 24 by omega)) (by decide), fun ao bo len cap len' cap' w hl hr hl' hr' => ⟨product_ok n m ao bo len cap len' cap' xs ys w hl hr hl' hr' hm ho hm' ho' h, signsProduct_ok n m ao bo len cap len' cap' xs ys w hl hr hl' hr' hm hm' h⟩⟩

/-- The boxes of the arguments. -/
structure MkSt (w wr : World) (a b : Int) (ao bo : Option Addr) (len cap len' cap' : Nat) : Prop where
  ext : Ext w wr
  a : Blk wr w.heap.size #[.int .i64 a, .slice ao len cap] 24
  b : Blk wr (w.heap.size + 1) #[.int .i64 b, .slice bo len' cap'] 24
theorem MkSt.carry {w wr w' : World} {a b : Int} {ao bo : Option Addr} {len cap len' cap' : Nat} (h : MkSt w wr a b ao bo len cap len' cap') (hx : Ext wr w') : MkSt w w' a b ao bo len cap len' cap' := ⟨h.ext.trans hx, h.a.ext hx, h.b.ext hx⟩
theorem MkSt.set {w wr : World} {a b : Int} {ao bo : Option Addr} {len cap len' cap' : Nat} (h : MkSt w wr a b ao bo len cap len' cap') (p : Addr) (hp : w.heap.size + 2 ≤ p.block) (u : Value) : MkSt w (wr.setCell p u) a b ao bo len cap len' cap' :=
  ⟨h.ext.set (by omega) u, h.a.beside p (by omega) u, h.b.beside p (by omega) u⟩
theorem mkSt_start (w : World) (a b : Int) (ao bo : Option Addr) (len cap len' cap' : Nat) : MkSt w ((w.alloc (.cells #[.int .i64 a, .slice ao len cap] 24)).alloc (.cells #[.int .i64 b, .slice bo len' cap'] 24)) a b ao bo len cap len' cap' :=
  ⟨((Ext.refl w).alloc _).alloc _, (Blk.new _ _ _).alloc _, Blk.new' _ _ _ (by simp)⟩
theorem Blk.sq {w : World} {b : Nat} {u v u' v' : Value} {t : TypeId} (h : Blk w b #[u, v] t) : Blk ((w.setCell ⟨b, 0, none⟩ u').setCell ⟨b, 1, none⟩ v') b #[u', v'] t := (h.set 0 u').set 1 v'

set_option maxHeartbeats 4000000 in
theorem hadaMakes_badA (k p : Int) (a b : Int) (ao bo : Option Addr) (len cap len' cap' : Nat) (xs : List Int) (w : World) (hl : xs.length = len) (hr : Reads w ao (ints xs)) (hbad : signsFaultOf a xs ≠ 0) :
    Calls Try.prog 6 #[.int .i64 k, .int .i64 p, .agg #[.int .i64 a, .slice ao len cap], .agg #[.int .i64 b, .slice bo len' cap']] w fun e w' => e = .returned (.bool true) ∧ Below w.heap.size w w' := by
  obtain ⟨m1, n1, xs1, e1, hl1, hb1, hS, hS'⟩ := syl_pair k
  obtain ⟨m2, n2, xs2, e2, hl2, hb2, hP, hP'⟩ := pal_pair p
  have HS := Lib.hid hS
  have HS' := Lib.hid hS'
  have HP := Lib.hid hP
  have HP' := Lib.hid hP'
  have HL1 := Lib.hid hl1
  have HL2 := Lib.hid hl2
  have M0 := Lib.hid (mkSt_start w a b ao bo len cap len' cap')
  have H1 : Hid (∀ w1, Ext w w1 → _) := fun w1 (hx : Ext w w1) => fault_any a ao len cap xs w1 hl (hx.reads hr)
  have H2 : Hid (∀ w1, Ext w w1 → _) := fun w1 (hx : Ext w w1) => product_badA a b ao bo len cap len' cap' xs w1 hl (hx.reads hr) hbad
  obtain ⟨f, hf⟩ : ∃ f, signsFaultOf a xs = f := ⟨_, rfl⟩
  rw [hf] at H1 H2 hbad
  have b0 : (f == 0) = false := by rw [beq_eq_false_iff_ne]; exact hbad
  clear hl hr hf hbad
  clear hl1 hl2 hS hS' hP hP'
  go_enter Try.func6, Try.ntmps6
  go_wp2_with fail
  refine Calls.mono (HS.out _) ?_
  rintro e w1 ⟨ao1, cap1, rfl, hrow, hx⟩
  have M1 := Lib.hid ((M0.out.carry hx).carry ((Ext.refl _).alloc (.cells #[.int .i64 m1, .slice ao1 n1 cap1] 24)))
  have S1 := Lib.hid (Blk.new w1 #[.int .i64 m1, .slice ao1 n1 cap1] 24)
  have R1 := Lib.hid (((Ext.refl w1).alloc (.cells #[.int .i64 m1, .slice ao1 n1 cap1] 24)).reads hrow.reads)
  have hs1 : w.heap.size + 2 ≤ w1.heap.size := by have := hx.size; simpa using this
  clear hx hrow M0
  go_wp2_with fail
  refine Calls.mono (HS'.out _) ?_
  rintro e w2 ⟨ao2, cap2, rfl, hrow, hx⟩
  have M2 := Lib.hid ((M1.out.carry hx).carry ((Ext.refl _).alloc (.cells #[.int .i64 m1, .slice ao2 n1 cap2] 24)))
  have S2 := Lib.hid ((S1.out.ext hx).alloc (.cells #[.int .i64 m1, .slice ao2 n1 cap2] 24))
  have T2 := Lib.hid (Blk.new w2 #[.int .i64 m1, .slice ao2 n1 cap2] 24)
  have R2 := Lib.hid (((Ext.refl w2).alloc (.cells #[.int .i64 m1, .slice ao2 n1 cap2] 24)).reads (hx.reads R1.out))
  have R2' := Lib.hid (((Ext.refl w2).alloc (.cells #[.int .i64 m1, .slice ao2 n1 cap2] 24)).reads hrow.reads)
  have hs2 : w1.heap.size < w2.heap.size := by have := hx.size; simp at this; omega
  have k0 := (S1.out.ext hx).two
  have l0 := (S1.out.ext hx).lt
  clear hx hrow M1 S1 R1
  go_wp2_with fail
  refine Calls.mono (squares_any m1 m1 ao1 ao2 n1 n1 cap1 cap2 xs1 xs1 _ HL1.out HL1.out (by unfold maxLen; omega) (by unfold maxLen; omega) R2.out R2'.out) ?_
  rintro e w3 ⟨rfl, hx⟩
  rw [decide_eq_true (show m1 = m1 ∧ xs1 = xs1 from ⟨rfl, rfl⟩)]
  have M3 := Lib.hid (M2.out.carry hx)
  have S3 := Lib.hid (S2.out.ext hx)
  have T3 := Lib.hid (T2.out.ext hx)
  clear hx M2 S2 T2 R2 R2' k0 l0
  obtain ⟨sb, hsb⟩ : ∃ sb, sb = w1.heap.size := ⟨_, rfl⟩
  obtain ⟨tb, htb⟩ : ∃ tb, tb = w2.heap.size := ⟨_, rfl⟩
  rw [← hsb] at S3 hs1 hs2 ⊢
  rw [← htb] at T3 hs2 ⊢
  have hne : sb ≠ tb := by omega
  have hne' : tb ≠ sb := by omega
  have hs3 : w.heap.size + 2 ≤ tb := by omega
  clear hsb htb hs2
  go_wp2_with fail
  refine Calls.mono (HP.out _) ?_
  rintro e w4 ⟨ao4, cap4, rfl, hrow, hx⟩
  have hlt := S3.out.lt
  have k0 := (S3.out.ext hx).two
  have f0 := (S3.out.ext hx).f 0
  have f1 := (S3.out.ext hx).f 1
  have M4 := Lib.hid (((M3.out.carry hx).set ⟨sb, 0, none⟩ hs1 (.int .i64 m2)).set ⟨sb, 1, none⟩ hs1 (.slice ao4 n2 cap4))
  have S4 : Hid (Blk ((w4.setCell ⟨sb, 0, none⟩ (.int .i64 m2)).setCell ⟨sb, 1, none⟩ (.slice ao4 n2 cap4)) sb #[.int .i64 m2, .slice ao4 n2 cap4] 24) := (S3.out.ext hx).sq
  have T4 := Lib.hid (((T3.out.ext hx).beside ⟨sb, 0, none⟩ hne (.int .i64 m2)).beside ⟨sb, 1, none⟩ hne (.slice ao4 n2 cap4))
  have R4 := Lib.hid ((hrow.beside ⟨sb, 0, none⟩ hlt (.int .i64 m2)).beside ⟨sb, 1, none⟩ hlt (.slice ao4 n2 cap4))
  have ht3 := T3.out.lt
  clear hx hrow M3 S3 T3 hlt
  go_wp2_with fail
  refine Calls.mono (HP'.out _) ?_
  rintro e w5 ⟨ao5, cap5, rfl, hrow, hx⟩
  clear k0 f0 f1
  have hlt := T4.out.lt
  have k0 := (S4.out.ext hx).two
  have k1 := (T4.out.ext hx).two
  have f0 := (T4.out.ext hx).f 0
  have f1 := (T4.out.ext hx).f 1
  have M5 := Lib.hid (((M4.out.carry hx).set ⟨tb, 0, none⟩ hs3 (.int .i64 m2)).set ⟨tb, 1, none⟩ hs3 (.slice ao5 n2 cap5))
  have S5 := Lib.hid (((S4.out.ext hx).beside ⟨tb, 0, none⟩ hne' (.int .i64 m2)).beside ⟨tb, 1, none⟩ hne' (.slice ao5 n2 cap5))
  have T5 : Hid (Blk ((w5.setCell ⟨tb, 0, none⟩ (.int .i64 m2)).setCell ⟨tb, 1, none⟩ (.slice ao5 n2 cap5)) tb #[.int .i64 m2, .slice ao5 n2 cap5] 24) := (T4.out.ext hx).sq
  have R5 := Lib.hid (((hx.row R4.out).beside ⟨tb, 0, none⟩ ht3 (.int .i64 m2)).beside ⟨tb, 1, none⟩ ht3 (.slice ao5 n2 cap5)).reads
  have R5' := Lib.hid ((hrow.beside ⟨tb, 0, none⟩ hlt (.int .i64 m2)).beside ⟨tb, 1, none⟩ hlt (.slice ao5 n2 cap5)).reads
  clear hx hrow M4 S4 T4 hlt ht3 R4
  go_wp2_with fail
  refine Calls.mono (squares_any m2 m2 ao4 ao5 n2 n2 cap4 cap5 xs2 xs2 _ HL2.out HL2.out (by unfold maxLen; omega) (by unfold maxLen; omega) R5.out R5'.out) ?_
  rintro e w6 ⟨rfl, hx⟩
  rw [decide_eq_true (show m2 = m2 ∧ xs2 = xs2 from ⟨rfl, rfl⟩)]
  have M6 := Lib.hid (M5.out.carry hx)
  have S6 := Lib.hid (S5.out.ext hx)
  have T6 := Lib.hid (T5.out.ext hx)
  clear hx M5 S5 T5 R5 R5' k0 k1 f0 f1
  have ka := M6.out.a.two
  have kb := M6.out.b.two
  have ka6 := S6.out.lt
  go_wp2_with fail
  refine Calls.mono (H2.out _ M6.out.ext) ?_
  rintro e w7 ⟨rfl, hx⟩
  clear ka kb ka6
  have k0 := (S6.out.ext hx).two
  have k1 := (T6.out.ext hx).two
  have f0 := (S6.out.ext hx).f 0
  have f1 := (S6.out.ext hx).f 1
  have f2 := (T6.out.ext hx).f 0
  have f3 := (T6.out.ext hx).f 1
  have M7 := Lib.hid (((((M6.out.carry hx).set ⟨sb, 0, none⟩ hs1 (.int .i64 0)).set ⟨sb, 1, none⟩ hs1 (.slice none 0 0)).set ⟨tb, 0, none⟩ hs3 (.int .i64 0)).set ⟨tb, 1, none⟩ hs3 (.slice none 0 0))
  have S7 : Hid (Blk ((((w7.setCell ⟨sb, 0, none⟩ (.int .i64 0)).setCell ⟨sb, 1, none⟩ (.slice none 0 0)).setCell ⟨tb, 0, none⟩ (.int .i64 0)).setCell ⟨tb, 1, none⟩ (.slice none 0 0)) sb #[.int .i64 0, .slice none 0 0] 24) := ((S6.out.ext hx).sq.beside _ hne' _).beside _ hne' _
  have T7 : Hid (Blk ((((w7.setCell ⟨sb, 0, none⟩ (.int .i64 0)).setCell ⟨sb, 1, none⟩ (.slice none 0 0)).setCell ⟨tb, 0, none⟩ (.int .i64 0)).setCell ⟨tb, 1, none⟩ (.slice none 0 0)) tb #[.int .i64 0, .slice none 0 0] 24) := (((T6.out.ext hx).beside _ hne _).beside _ hne _).sq
  have k2 := ((M6.out.carry hx)).a.two
  have k3 := ((M6.out.carry hx)).b.two
  have ne1 : w.heap.size ≠ sb := by omega
  have ne2 : w.heap.size ≠ tb := by omega
  have ne3 : w.heap.size + 1 ≠ sb := by omega
  have ne4 : w.heap.size + 1 ≠ tb := by omega
  clear hx M6 S6 T6
  go_wp2_with fail
  refine Calls.mono (H1.out _ M7.out.ext) ?_
  rintro e w8 ⟨rfl, hx⟩
  have M8 := Lib.hid (M7.out.carry hx)
  clear k0 k1 f0 f1 f2 f3 k2 k3
  have k0 := (S7.out.ext hx).two
  have k1 := (T7.out.ext hx).two
  clear hx
  go_wp2_with fail
  refine Calls.mono (squares_any 0 0 none none 0 0 0 0 [] [] _ rfl rfl (by decide) (by decide) (.inl rfl) (.inl rfl)) ?_
  rintro e w9 ⟨rfl, hx⟩
  have E9 := Lib.hid (M8.out.ext.trans hx)
  clear hx
  go_wp2
  go_ret
  exact ⟨by simp, E9.out⟩

set_option maxHeartbeats 4000000 in
theorem hadaMakes_badB (k p : Int) (a b : Int) (ao bo : Option Addr) (len cap len' cap' : Nat) (xs ys : List Int) (w : World) (hl : xs.length = len) (hr : Reads w ao (ints xs)) (hl' : ys.length = len') (hr' : Reads w bo (ints ys)) (hok : signsFaultOf a xs = 0) (hbad : signsFaultOf b ys ≠ 0) :
    Calls Try.prog 6 #[.int .i64 k, .int .i64 p, .agg #[.int .i64 a, .slice ao len cap], .agg #[.int .i64 b, .slice bo len' cap']] w fun e w' => e = .returned (.bool true) ∧ Below w.heap.size w w' := by
  obtain ⟨m1, n1, xs1, e1, hl1, hb1, hS, hS'⟩ := syl_pair k
  obtain ⟨m2, n2, xs2, e2, hl2, hb2, hP, hP'⟩ := pal_pair p
  have HS := Lib.hid hS
  have HS' := Lib.hid hS'
  have HP := Lib.hid hP
  have HP' := Lib.hid hP'
  have HL1 := Lib.hid hl1
  have HL2 := Lib.hid hl2
  have M0 := Lib.hid (mkSt_start w a b ao bo len cap len' cap')
  have H1 : Hid (∀ w1, Ext w w1 → _) := fun w1 (hx : Ext w w1) => fault_any a ao len cap xs w1 hl (hx.reads hr)
  have H3 : Hid (∀ w1, Ext w w1 → _) := fun w1 (hx : Ext w w1) => fault_any b bo len' cap' ys w1 hl' (hx.reads hr')
  have H2 : Hid (∀ w1, Ext w w1 → _) := fun w1 (hx : Ext w w1) => product_badB a b ao bo len cap len' cap' xs ys w1 hl (hx.reads hr) hl' (hx.reads hr') hok hbad
  obtain ⟨f, hf⟩ : ∃ f, signsFaultOf b ys = f := ⟨_, rfl⟩
  rw [hf] at H3 H2 hbad
  rw [hok] at H1
  have b0 : (f == 0) = false := by rw [beq_eq_false_iff_ne]; exact hbad
  clear hl hr hf hbad hl' hr' hok
  clear hl1 hl2 hS hS' hP hP'
  go_enter Try.func6, Try.ntmps6
  go_wp2_with fail
  refine Calls.mono (HS.out _) ?_
  rintro e w1 ⟨ao1, cap1, rfl, hrow, hx⟩
  have M1 := Lib.hid ((M0.out.carry hx).carry ((Ext.refl _).alloc (.cells #[.int .i64 m1, .slice ao1 n1 cap1] 24)))
  have S1 := Lib.hid (Blk.new w1 #[.int .i64 m1, .slice ao1 n1 cap1] 24)
  have R1 := Lib.hid (((Ext.refl w1).alloc (.cells #[.int .i64 m1, .slice ao1 n1 cap1] 24)).reads hrow.reads)
  have hs1 : w.heap.size + 2 ≤ w1.heap.size := by have := hx.size; simpa using this
  clear hx hrow M0
  go_wp2_with fail
  refine Calls.mono (HS'.out _) ?_
  rintro e w2 ⟨ao2, cap2, rfl, hrow, hx⟩
  have M2 := Lib.hid ((M1.out.carry hx).carry ((Ext.refl _).alloc (.cells #[.int .i64 m1, .slice ao2 n1 cap2] 24)))
  have S2 := Lib.hid ((S1.out.ext hx).alloc (.cells #[.int .i64 m1, .slice ao2 n1 cap2] 24))
  have T2 := Lib.hid (Blk.new w2 #[.int .i64 m1, .slice ao2 n1 cap2] 24)
  have R2 := Lib.hid (((Ext.refl w2).alloc (.cells #[.int .i64 m1, .slice ao2 n1 cap2] 24)).reads (hx.reads R1.out))
  have R2' := Lib.hid (((Ext.refl w2).alloc (.cells #[.int .i64 m1, .slice ao2 n1 cap2] 24)).reads hrow.reads)
  have hs2 : w1.heap.size < w2.heap.size := by have := hx.size; simp at this; omega
  have k0 := (S1.out.ext hx).two
  have l0 := (S1.out.ext hx).lt
  clear hx hrow M1 S1 R1
  go_wp2_with fail
  refine Calls.mono (squares_any m1 m1 ao1 ao2 n1 n1 cap1 cap2 xs1 xs1 _ HL1.out HL1.out (by unfold maxLen; omega) (by unfold maxLen; omega) R2.out R2'.out) ?_
  rintro e w3 ⟨rfl, hx⟩
  rw [decide_eq_true (show m1 = m1 ∧ xs1 = xs1 from ⟨rfl, rfl⟩)]
  have M3 := Lib.hid (M2.out.carry hx)
  have S3 := Lib.hid (S2.out.ext hx)
  have T3 := Lib.hid (T2.out.ext hx)
  clear hx M2 S2 T2 R2 R2' k0 l0
  obtain ⟨sb, hsb⟩ : ∃ sb, sb = w1.heap.size := ⟨_, rfl⟩
  obtain ⟨tb, htb⟩ : ∃ tb, tb = w2.heap.size := ⟨_, rfl⟩
  rw [← hsb] at S3 hs1 hs2 ⊢
  rw [← htb] at T3 hs2 ⊢
  have hne : sb ≠ tb := by omega
  have hne' : tb ≠ sb := by omega
  have hs3 : w.heap.size + 2 ≤ tb := by omega
  clear hsb htb hs2
  go_wp2_with fail
  refine Calls.mono (HP.out _) ?_
  rintro e w4 ⟨ao4, cap4, rfl, hrow, hx⟩
  have hlt := S3.out.lt
  have k0 := (S3.out.ext hx).two
  have f0 := (S3.out.ext hx).f 0
  have f1 := (S3.out.ext hx).f 1
  have M4 := Lib.hid (((M3.out.carry hx).set ⟨sb, 0, none⟩ hs1 (.int .i64 m2)).set ⟨sb, 1, none⟩ hs1 (.slice ao4 n2 cap4))
  have S4 : Hid (Blk ((w4.setCell ⟨sb, 0, none⟩ (.int .i64 m2)).setCell ⟨sb, 1, none⟩ (.slice ao4 n2 cap4)) sb #[.int .i64 m2, .slice ao4 n2 cap4] 24) := (S3.out.ext hx).sq
  have T4 := Lib.hid (((T3.out.ext hx).beside ⟨sb, 0, none⟩ hne (.int .i64 m2)).beside ⟨sb, 1, none⟩ hne (.slice ao4 n2 cap4))
  have R4 := Lib.hid ((hrow.beside ⟨sb, 0, none⟩ hlt (.int .i64 m2)).beside ⟨sb, 1, none⟩ hlt (.slice ao4 n2 cap4))
  have ht3 := T3.out.lt
  clear hx hrow M3 S3 T3 hlt
  go_wp2_with fail
  refine Calls.mono (HP'.out _) ?_
  rintro e w5 ⟨ao5, cap5, rfl, hrow, hx⟩
  clear k0 f0 f1
  have hlt := T4.out.lt
  have k0 := (S4.out.ext hx).two
  have k1 := (T4.out.ext hx).two
  have f0 := (T4.out.ext hx).f 0
  have f1 := (T4.out.ext hx).f 1
  have M5 := Lib.hid (((M4.out.carry hx).set ⟨tb, 0, none⟩ hs3 (.int .i64 m2)).set ⟨tb, 1, none⟩ hs3 (.slice ao5 n2 cap5))
  have S5 := Lib.hid (((S4.out.ext hx).beside ⟨tb, 0, none⟩ hne' (.int .i64 m2)).beside ⟨tb, 1, none⟩ hne' (.slice ao5 n2 cap5))
  have T5 : Hid (Blk ((w5.setCell ⟨tb, 0, none⟩ (.int .i64 m2)).setCell ⟨tb, 1, none⟩ (.slice ao5 n2 cap5)) tb #[.int .i64 m2, .slice ao5 n2 cap5] 24) := (T4.out.ext hx).sq
  have R5 := Lib.hid (((hx.row R4.out).beside ⟨tb, 0, none⟩ ht3 (.int .i64 m2)).beside ⟨tb, 1, none⟩ ht3 (.slice ao5 n2 cap5)).reads
  have R5' := Lib.hid ((hrow.beside ⟨tb, 0, none⟩ hlt (.int .i64 m2)).beside ⟨tb, 1, none⟩ hlt (.slice ao5 n2 cap5)).reads
  clear hx hrow M4 S4 T4 hlt ht3 R4
  go_wp2_with fail
  refine Calls.mono (squares_any m2 m2 ao4 ao5 n2 n2 cap4 cap5 xs2 xs2 _ HL2.out HL2.out (by unfold maxLen; omega) (by unfold maxLen; omega) R5.out R5'.out) ?_
  rintro e w6 ⟨rfl, hx⟩
  rw [decide_eq_true (show m2 = m2 ∧ xs2 = xs2 from ⟨rfl, rfl⟩)]
  have M6 := Lib.hid (M5.out.carry hx)
  have S6 := Lib.hid (S5.out.ext hx)
  have T6 := Lib.hid (T5.out.ext hx)
  clear hx M5 S5 T5 R5 R5' k0 k1 f0 f1
  have ka := M6.out.a.two
  have kb := M6.out.b.two
  have ka6 := S6.out.lt
  go_wp2_with fail
  refine Calls.mono (H2.out _ M6.out.ext) ?_
  rintro e w7 ⟨rfl, hx⟩
  clear ka kb ka6
  have k0 := (S6.out.ext hx).two
  have k1 := (T6.out.ext hx).two
  have f0 := (S6.out.ext hx).f 0
  have f1 := (S6.out.ext hx).f 1
  have f2 := (T6.out.ext hx).f 0
  have f3 := (T6.out.ext hx).f 1
  have M7 := Lib.hid (((((M6.out.carry hx).set ⟨sb, 0, none⟩ hs1 (.int .i64 0)).set ⟨sb, 1, none⟩ hs1 (.slice none 0 0)).set ⟨tb, 0, none⟩ hs3 (.int .i64 0)).set ⟨tb, 1, none⟩ hs3 (.slice none 0 0))
  have S7 : Hid (Blk ((((w7.setCell ⟨sb, 0, none⟩ (.int .i64 0)).setCell ⟨sb, 1, none⟩ (.slice none 0 0)).setCell ⟨tb, 0, none⟩ (.int .i64 0)).setCell ⟨tb, 1, none⟩ (.slice none 0 0)) sb #[.int .i64 0, .slice none 0 0] 24) := ((S6.out.ext hx).sq.beside _ hne' _).beside _ hne' _
  have T7 : Hid (Blk ((((w7.setCell ⟨sb, 0, none⟩ (.int .i64 0)).setCell ⟨sb, 1, none⟩ (.slice none 0 0)).setCell ⟨tb, 0, none⟩ (.int .i64 0)).setCell ⟨tb, 1, none⟩ (.slice none 0 0)) tb #[.int .i64 0, .slice none 0 0] 24) := (((T6.out.ext hx).beside _ hne _).beside _ hne _).sq
  have k2 := ((M6.out.carry hx)).a.two
  have k3 := ((M6.out.carry hx)).b.two
  have ne1 : w.heap.size ≠ sb := by omega
  have ne2 : w.heap.size ≠ tb := by omega
  have ne3 : w.heap.size + 1 ≠ sb := by omega
  have ne4 : w.heap.size + 1 ≠ tb := by omega
  clear hx M6 S6 T6
  go_wp2_with fail
  refine Calls.mono (H1.out _ M7.out.ext) ?_
  rintro e w7' ⟨rfl, hx⟩
  have M7' := Lib.hid (M7.out.carry hx)
  have S7' := Lib.hid (S7.out.ext hx)
  have T7' := Lib.hid (T7.out.ext hx)
  clear k0 k1 f0 f1 f2 f3 k2 k3 hx
  have k3 := M7'.out.b.two
  go_wp2_with fail
  refine Calls.mono (H3.out _ M7'.out.ext) ?_
  rintro e w8 ⟨rfl, hx⟩
  have M8 := Lib.hid (M7'.out.carry hx)
  have k0 := (S7'.out.ext hx).two
  have k1 := (T7'.out.ext hx).two
  clear hx k3
  go_wp2_with fail
  refine Calls.mono (squares_any 0 0 none none 0 0 0 0 [] [] _ rfl rfl (by decide) (by decide) (.inl rfl) (.inl rfl)) ?_
  rintro e w9 ⟨rfl, hx⟩
  have E9 := Lib.hid (M8.out.ext.trans hx)
  clear hx
  go_wp2
  go_ret
  exact ⟨by simp, E9.out⟩

set_option maxHeartbeats 4000000 in
theorem hadaMakes_ok (k p : Int) (n m : Nat) (ao bo : Option Addr) (len cap len' cap' : Nat) (xs ys : List Int) (w : World) (hl : xs.length = len) (hr : Reads w ao (ints xs)) (hl' : ys.length = len') (hr' : Reads w bo (ints ys)) (hm : IsMat n xs) (ho : Orth n xs) (hm' : IsMat m ys) (ho' : Orth m ys) :
    Calls Try.prog 6 #[.int .i64 k, .int .i64 p, .agg #[.int .i64 n, .slice ao len cap], .agg #[.int .i64 m, .slice bo len' cap']] w fun e w' => e = .returned (.bool true) ∧ Below w.heap.size w w' := by
  obtain ⟨m1, n1, xs1, e1, hl1, hb1, hS, hS'⟩ := syl_pair k
  obtain ⟨m2, n2, xs2, e2, hl2, hb2, hP, hP'⟩ := pal_pair p
  have HS := Lib.hid hS
  have HS' := Lib.hid hS'
  have HP := Lib.hid hP
  have HP' := Lib.hid hP'
  have HL1 := Lib.hid hl1
  have HL2 := Lib.hid hl2
  have M0 := Lib.hid (mkSt_start w n m ao bo len cap len' cap')
  have H1 : Hid (∀ w1, Ext w w1 → _) := fun w1 (hx : Ext w w1) => fault_any n ao len cap xs w1 hl (hx.reads hr)
  have H3 : Hid (∀ w1, Ext w w1 → _) := fun w1 (hx : Ext w w1) => fault_any m bo len' cap' ys w1 hl' (hx.reads hr')
  rw [signsFaultOf_mat hm ho] at H1
  rw [signsFaultOf_mat hm' ho'] at H3
  obtain ⟨q, l, zs, e3, hzl, hzb, hpp⟩ := prod_pair n m xs ys hm ho hm' ho'
  have H2 : Hid (∀ w1, Ext w w1 → _) := fun w1 (hx : Ext w w1) => hpp ao bo len cap len' cap' w1 hl (hx.reads hr) hl' (hx.reads hr')
  have HZ := Lib.hid hzl
  clear hl hr hl' hr' hm ho hm' ho' hpp hzl
  clear hl1 hl2 hS hS' hP hP'
  go_enter Try.func6, Try.ntmps6
  go_wp2_with fail
  refine Calls.mono (HS.out _) ?_
  rintro e w1 ⟨ao1, cap1, rfl, hrow, hx⟩
  have M1 := Lib.hid ((M0.out.carry hx).carry ((Ext.refl _).alloc (.cells #[.int .i64 m1, .slice ao1 n1 cap1] 24)))
  have S1 := Lib.hid (Blk.new w1 #[.int .i64 m1, .slice ao1 n1 cap1] 24)
  have R1 := Lib.hid (((Ext.refl w1).alloc (.cells #[.int .i64 m1, .slice ao1 n1 cap1] 24)).reads hrow.reads)
  have hs1 : w.heap.size + 2 ≤ w1.heap.size := by have := hx.size; simpa using this
  clear hx hrow M0
  go_wp2_with fail
  refine Calls.mono (HS'.out _) ?_
  rintro e w2 ⟨ao2, cap2, rfl, hrow, hx⟩
  have M2 := Lib.hid ((M1.out.carry hx).carry ((Ext.refl _).alloc (.cells #[.int .i64 m1, .slice ao2 n1 cap2] 24)))
  have S2 := Lib.hid ((S1.out.ext hx).alloc (.cells #[.int .i64 m1, .slice ao2 n1 cap2] 24))
  have T2 := Lib.hid (Blk.new w2 #[.int .i64 m1, .slice ao2 n1 cap2] 24)
  have R2 := Lib.hid (((Ext.refl w2).alloc (.cells #[.int .i64 m1, .slice ao2 n1 cap2] 24)).reads (hx.reads R1.out))
  have R2' := Lib.hid (((Ext.refl w2).alloc (.cells #[.int .i64 m1, .slice ao2 n1 cap2] 24)).reads hrow.reads)
  have hs2 : w1.heap.size < w2.heap.size := by have := hx.size; simp at this; omega
  have k0 := (S1.out.ext hx).two
  have l0 := (S1.out.ext hx).lt
  clear hx hrow M1 S1 R1
  go_wp2_with fail
  refine Calls.mono (squares_any m1 m1 ao1 ao2 n1 n1 cap1 cap2 xs1 xs1 _ HL1.out HL1.out (by unfold maxLen; omega) (by unfold maxLen; omega) R2.out R2'.out) ?_
  rintro e w3 ⟨rfl, hx⟩
  rw [decide_eq_true (show m1 = m1 ∧ xs1 = xs1 from ⟨rfl, rfl⟩)]
  have M3 := Lib.hid (M2.out.carry hx)
  have S3 := Lib.hid (S2.out.ext hx)
  have T3 := Lib.hid (T2.out.ext hx)
  clear hx M2 S2 T2 R2 R2' k0 l0
  obtain ⟨sb, hsb⟩ : ∃ sb, sb = w1.heap.size := ⟨_, rfl⟩
  obtain ⟨tb, htb⟩ : ∃ tb, tb = w2.heap.size := ⟨_, rfl⟩
  rw [← hsb] at S3 hs1 hs2 ⊢
  rw [← htb] at T3 hs2 ⊢
  have hne : sb ≠ tb := by omega
  have hne' : tb ≠ sb := by omega
  have hs3 : w.heap.size + 2 ≤ tb := by omega
  clear hsb htb hs2
  go_wp2_with fail
  refine Calls.mono (HP.out _) ?_
  rintro e w4 ⟨ao4, cap4, rfl, hrow, hx⟩
  have hlt := S3.out.lt
  have k0 := (S3.out.ext hx).two
  have f0 := (S3.out.ext hx).f 0
  have f1 := (S3.out.ext hx).f 1
  have M4 := Lib.hid (((M3.out.carry hx).set ⟨sb, 0, none⟩ hs1 (.int .i64 m2)).set ⟨sb, 1, none⟩ hs1 (.slice ao4 n2 cap4))
  have S4 : Hid (Blk ((w4.setCell ⟨sb, 0, none⟩ (.int .i64 m2)).setCell ⟨sb, 1, none⟩ (.slice ao4 n2 cap4)) sb #[.int .i64 m2, .slice ao4 n2 cap4] 24) := (S3.out.ext hx).sq
  have T4 := Lib.hid (((T3.out.ext hx).beside ⟨sb, 0, none⟩ hne (.int .i64 m2)).beside ⟨sb, 1, none⟩ hne (.slice ao4 n2 cap4))
  have R4 := Lib.hid ((hrow.beside ⟨sb, 0, none⟩ hlt (.int .i64 m2)).beside ⟨sb, 1, none⟩ hlt (.slice ao4 n2 cap4))
  have ht3 := T3.out.lt
  clear hx hrow M3 S3 T3 hlt
  go_wp2_with fail
  refine Calls.mono (HP'.out _) ?_
  rintro e w5 ⟨ao5, cap5, rfl, hrow, hx⟩
  clear k0 f0 f1
  have hlt := T4.out.lt
  have k0 := (S4.out.ext hx).two
  have k1 := (T4.out.ext hx).two
  have f0 := (T4.out.ext hx).f 0
  have f1 := (T4.out.ext hx).f 1
  have M5 := Lib.hid (((M4.out.carry hx).set ⟨tb, 0, none⟩ hs3 (.int .i64 m2)).set ⟨tb, 1, none⟩ hs3 (.slice ao5 n2 cap5))
  have S5 := Lib.hid (((S4.out.ext hx).beside ⟨tb, 0, none⟩ hne' (.int .i64 m2)).beside ⟨tb, 1, none⟩ hne' (.slice ao5 n2 cap5))
  have T5 : Hid (Blk ((w5.setCell ⟨tb, 0, none⟩ (.int .i64 m2)).setCell ⟨tb, 1, none⟩ (.slice ao5 n2 cap5)) tb #[.int .i64 m2, .slice ao5 n2 cap5] 24) := (T4.out.ext hx).sq
  have R5 := Lib.hid (((hx.row R4.out).beside ⟨tb, 0, none⟩ ht3 (.int .i64 m2)).beside ⟨tb, 1, none⟩ ht3 (.slice ao5 n2 cap5)).reads
  have R5' := Lib.hid ((hrow.beside ⟨tb, 0, none⟩ hlt (.int .i64 m2)).beside ⟨tb, 1, none⟩ hlt (.slice ao5 n2 cap5)).reads
  clear hx hrow M4 S4 T4 hlt ht3 R4
  go_wp2_with fail
  refine Calls.mono (squares_any m2 m2 ao4 ao5 n2 n2 cap4 cap5 xs2 xs2 _ HL2.out HL2.out (by unfold maxLen; omega) (by unfold maxLen; omega) R5.out R5'.out) ?_
  rintro e w6 ⟨rfl, hx⟩
  rw [decide_eq_true (show m2 = m2 ∧ xs2 = xs2 from ⟨rfl, rfl⟩)]
  have M6 := Lib.hid (M5.out.carry hx)
  have S6 := Lib.hid (S5.out.ext hx)
  have T6 := Lib.hid (T5.out.ext hx)
  clear hx M5 S5 T5 R5 R5' k0 k1 f0 f1
  have ka := M6.out.a.two
  have kb := M6.out.b.two
  have ka6 := S6.out.lt
  go_wp2_with fail
  refine Calls.mono ((H2.out _ M6.out.ext).1) ?_
  rintro e w7 ⟨aop, capp, rfl, hrow, hx⟩
  have hlt := ka6
  have hlu := T6.out.lt
  clear ka kb ka6
  have k0 := (S6.out.ext hx).two
  have k1 := (T6.out.ext hx).two
  have f0 := (S6.out.ext hx).f 0
  have f1 := (S6.out.ext hx).f 1
  have f2 := (T6.out.ext hx).f 0
  have f3 := (T6.out.ext hx).f 1
  have M7 := Lib.hid (((((M6.out.carry hx).set ⟨sb, 0, none⟩ hs1 (.int .i64 q)).set ⟨sb, 1, none⟩ hs1 (.slice aop l capp)).set ⟨tb, 0, none⟩ hs3 (.int .i64 0)).set ⟨tb, 1, none⟩ hs3 (.slice none 0 0))
  have S7 : Hid (Blk ((((w7.setCell ⟨sb, 0, none⟩ (.int .i64 q)).setCell ⟨sb, 1, none⟩ (.slice aop l capp)).setCell ⟨tb, 0, none⟩ (.int .i64 0)).setCell ⟨tb, 1, none⟩ (.slice none 0 0)) sb #[.int .i64 q, .slice aop l capp] 24) := ((S6.out.ext hx).sq.beside _ hne' _).beside _ hne' _
  have T7 : Hid (Blk ((((w7.setCell ⟨sb, 0, none⟩ (.int .i64 q)).setCell ⟨sb, 1, none⟩ (.slice aop l capp)).setCell ⟨tb, 0, none⟩ (.int .i64 0)).setCell ⟨tb, 1, none⟩ (.slice none 0 0)) tb #[.int .i64 0, .slice none 0 0] 24) := (((T6.out.ext hx).beside _ hne _).beside _ hne _).sq
  have k2 := ((M6.out.carry hx)).a.two
  have k3 := ((M6.out.carry hx)).b.two
  have ne1 : w.heap.size ≠ sb := by omega
  have ne2 : w.heap.size ≠ tb := by omega
  have ne3 : w.heap.size + 1 ≠ sb := by omega
  have ne4 : w.heap.size + 1 ≠ tb := by omega
  have R7 := Lib.hid ((((hrow.beside ⟨sb, 0, none⟩ hlt (.int .i64 q)).beside ⟨sb, 1, none⟩ hlt (.slice aop l capp)).beside ⟨tb, 0, none⟩ hlu (.int .i64 0)).beside ⟨tb, 1, none⟩ hlu (.slice none 0 0))
  have hw67 := hx.size
  clear hx M6 S6 T6 hrow hlt
  go_wp2_with fail
  refine Calls.mono (H1.out _ M7.out.ext) ?_
  rintro e w7' ⟨rfl, hx⟩
  have M7' := Lib.hid (M7.out.carry hx)
  have S7' := Lib.hid (S7.out.ext hx)
  have T7' := Lib.hid (T7.out.ext hx)
  have R7' := Lib.hid (Ext.row hx R7.out)
  clear k0 k1 f0 f1 f2 f3 k2 k3 hx R7
  have k3 := M7'.out.b.two
  go_wp2_with fail
  refine Calls.mono (H3.out _ M7'.out.ext) ?_
  rintro e w8 ⟨rfl, hx⟩
  have M8 := Lib.hid (M7'.out.carry hx)
  have S8 := Lib.hid (S7'.out.ext hx)
  have T8 := Lib.hid (T7'.out.ext hx)
  have R8 := Lib.hid (Ext.row hx R7'.out)
  clear hx k3 R7' M7' S7' T7'
  have k0 := M8.out.a.two
  have k1 := M8.out.b.two
  go_wp2_with fail
  refine Calls.mono (H2.out _ M8.out.ext).2 ?_
  rintro e w9 ⟨aoq, capq, rfl, hrow, hx⟩
  have hlt := T8.out.lt
  clear k0 k1
  have k0 := (S8.out.ext hx).two
  have k1 := (T8.out.ext hx).two
  have f0 := (T8.out.ext hx).f 0
  have f1 := (T8.out.ext hx).f 1
  have M9 := Lib.hid (((M8.out.carry hx).set ⟨tb, 0, none⟩ hs3 (.int .i64 q)).set ⟨tb, 1, none⟩ hs3 (.slice aoq l capq))
  have S9 := Lib.hid (((S8.out.ext hx).beside ⟨tb, 0, none⟩ hne' (.int .i64 q)).beside ⟨tb, 1, none⟩ hne' (.slice aoq l capq))
  have T9 : Hid (Blk ((w9.setCell ⟨tb, 0, none⟩ (.int .i64 q)).setCell ⟨tb, 1, none⟩ (.slice aoq l capq)) tb #[.int .i64 q, .slice aoq l capq] 24) := (T8.out.ext hx).sq
  have R9 := Lib.hid (((Ext.row hx R8.out).beside ⟨tb, 0, none⟩ hlu (.int .i64 q)).beside ⟨tb, 1, none⟩ hlu (.slice aoq l capq)).reads
  have R9' := Lib.hid ((hrow.beside ⟨tb, 0, none⟩ hlt (.int .i64 q)).beside ⟨tb, 1, none⟩ hlt (.slice aoq l capq)).reads
  clear hx hrow M8 S8 T8 R8
  go_wp2_with fail
  refine Calls.mono (squares_any q q aop aoq l l capp capq zs zs _ HZ.out HZ.out (by unfold maxLen; omega) (by unfold maxLen; omega) R9.out R9'.out) ?_
  rintro e w10 ⟨rfl, hx⟩
  rw [decide_eq_true (show q = q ∧ zs = zs from ⟨rfl, rfl⟩)]
  have E10 := Lib.hid (M9.out.ext.trans hx)
  clear hx
  go_wp2
  go_ret
  exact ⟨by simp, E10.out⟩

theorem hadaMakes_any (k : Int) (_ : -9223372036854775808 ≤ k ∧ k ≤ 9223372036854775807) (p : Int) (_ : -9223372036854775808 ≤ p ∧ p ≤ 9223372036854775807) (a : Int) (ao : Option Addr) (n cap : Nat) (xs : List Int) {w : World} (hx : IntsArg w ao n cap xs) (_ : -9223372036854775808 ≤ a) (_ : a ≤ 9223372036854775807)
    (b : Int) (bo : Option Addr) (n' cap' : Nat) (ys : List Int) (hy : IntsArg w bo n' cap' ys) (_ : -9223372036854775808 ≤ b) (_ : b ≤ 9223372036854775807) :
    Calls Try.prog 6 #[.int .i64 k, .int .i64 p, .agg #[.int .i64 a, .slice ao n cap], .agg #[.int .i64 b, .slice bo n' cap']] w fun e w' => e = .returned (.bool true) ∧ Below w.heap.size w w' := by
  by_cases h : signsFaultOf a xs = 0
  · by_cases h' : signsFaultOf b ys = 0
    · obtain ⟨s, rfl, hm, ho⟩ := signsFaultOf_zero h
      obtain ⟨t, rfl, hm', ho'⟩ := signsFaultOf_zero h'
      exact hadaMakes_ok k p s t ao bo n cap n' cap' xs ys w hx.len hx.reads hy.len hy.reads hm ho hm' ho'
    · exact hadaMakes_badB k p a b ao bo n cap n' cap' xs ys w hx.len hx.reads hy.len hy.reads h h'
  · exact hadaMakes_badA k p a b ao bo n cap n' cap' xs w hx.len hx.reads h

end Go.Proofs.Ytkdbdlkkjkiijaa
