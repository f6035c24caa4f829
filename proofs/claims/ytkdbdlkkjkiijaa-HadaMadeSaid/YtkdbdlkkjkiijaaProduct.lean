/- What hada.Product answers. -/
import Derived.Test.YtkdbdlkkjkiijaaHadaFault
import Derived.Test.YtkdbdlkkjkiijaaFilled
import Derived.BigRegion
import Derived.LoopN
import Derived.Outline
namespace Go.Proofs.Ytkdbdlkkjkiijaa
open Go.RowKit

/-- The product's cells: m is the side of the second. -/
def prodCell (xs ys : List Int) (n m i j : Nat) : Int := nth xs (i / m * n + j / m) * nth ys (i % m * m + j % m)

theorem div_lt {i n m : Nat} (h : i < n * m) : i / m < n := Nat.div_lt_of_lt_mul (by rwa [Nat.mul_comm])

set_option maxHeartbeats 1000000 in
theorem prod1_any (n m i j len cap len' cap' ba oa bb ob pa pn pm pb : Nat) (xs ys : List Int) (w : World) (hx : IsMat n xs) (hy : IsMat m ys) (hi : i < n * m) (hj : j < n * m) (hl : len = n * n) (hl' : len' = m * m)
    (ka : Blk w pa #[.int .i64 n, .slice (some ⟨ba, oa, none⟩) len cap] 24) (kb : Blk w pb #[.int .i64 m, .slice (some ⟨bb, ob, none⟩) len' cap'] 24) (kn : w.cell? ⟨pn, 0, none⟩ = some (.int .i64 n)) (km : w.cell? ⟨pm, 0, none⟩ = some (.int .i64 m))
    (ca : ∀ q, q < len → w.cell? ⟨ba, oa + q, none⟩ = some (.int .i64 (nth xs q))) (cb : ∀ q, q < len' → w.cell? ⟨bb, ob + q, none⟩ = some (.int .i64 (nth ys q))) :
    Calls Try.prog 35 #[.int .i64 i, .int .i64 j, .pointer (some ⟨pa, 0, none⟩), .pointer (some ⟨pm, 0, none⟩), .pointer (some ⟨pn, 0, none⟩), .pointer (some ⟨pb, 0, none⟩)] w fun e w' => e = .returned (.int .i64 (prodCell xs ys n m i j)) ∧ Drawn w w' := by
  have n24 := hx.big
  have m24 := hy.big
  have m1 := hy.one
  have h1 : i / m < n := div_lt hi
  have h2 : j / m < n := div_lt hj
  have h3 : i % m < m := Nat.mod_lt _ m1
  have h4 : j % m < m := Nat.mod_lt _ m1
  have e1 : (i : Int) / m = (i / m : Nat) := by simp
  have e2 : (j : Int) / m = (j / m : Nat) := by simp
  have e3 : (i : Int) % m = (i % m : Nat) := by simp
  have e4 : (j : Int) % m = (j % m : Nat) := by simp
  have HV : Hid (prodCell xs ys n m i j = nth xs (i / m * n + j / m) * nth ys (i % m * m + j % m)) := rfl
  have p1 := place_lt h1 h2
  have p2 := place_lt h3 h4
  rw [← hl] at p1
  rw [← hl'] at p2
  obtain ⟨a, ha⟩ : ∃ a, a = i / m := ⟨_, rfl⟩
  obtain ⟨b, hb⟩ : ∃ b, b = j / m := ⟨_, rfl⟩
  obtain ⟨c, hc⟩ : ∃ c, c = i % m := ⟨_, rfl⟩
  obtain ⟨d, hd⟩ : ∃ d, d = j % m := ⟨_, rfl⟩
  rw [← ha] at h1 e1 p1 HV
  rw [← hb] at h2 e2 p1 HV
  rw [← hc] at h3 e3 p2 HV
  rw [← hd] at h4 e4 p2 HV
  have sq1 := sq_bound n24
  have sq2 := sq_bound m24
  rw [← hl] at sq1
  rw [← hl'] at sq2
  obtain ⟨u, hu⟩ : ∃ u, u = a * n := ⟨_, rfl⟩
  have hu' : (a : Int) * n = u := by rw [hu]; simp
  obtain ⟨v, hv⟩ : ∃ v, v = c * m := ⟨_, rfl⟩
  have hv' : (c : Int) * m = v := by rw [hv]; simp
  rw [← hu] at p1 HV
  rw [← hv] at p2 HV
  have c1 := ca (u + b) p1
  have c2 := cb (v + d) p2
  have s1 := nth_sign hx (u + b) (by rw [← hl]; exact p1)
  have s2 := nth_sign hy (v + d) (by rw [← hl']; exact p2)
  obtain ⟨x, hxx⟩ : ∃ x, nth xs (u + b) = x := ⟨_, rfl⟩
  obtain ⟨y, hyy⟩ : ∃ y, nth ys (v + d) = y := ⟨_, rfl⟩
  rw [hxx] at c1 s1 HV
  rw [hyy] at c2 s2 HV
  have hxy : -1 ≤ x * y ∧ x * y ≤ 1 := by rcases s1 with rfl | rfl <;> rcases s2 with rfl | rfl <;> decide
  obtain ⟨hxy1, hxy2⟩ := hxy
  have k1 := ka.two
  have k2 := kb.two
  clear s1 s2 hxx hyy ca cb ka kb hu hv ha hb hc hd hl hl' hi hj hx hy
  go_enter Try.func35, Try.ntmps35
  go_wp2_with fail
  go_quiet (fail)
  go_wp2
  go_ret
  exact ⟨by rw [HV.out]; rfl, Drawn.drewN _ _⟩

theorem enter_prod1 : ∀ args w, (callFunc 35 args).run Try.prog w = .ok (.enter 35 args) w := fun _ _ => rfl

/-- The world of Product, ahead of its loop. -/
def prodW (w : World) (m m' : Int) (ao bo : Option Addr) (len cap len' cap' : Nat) : World :=
  (((w.alloc (.cells #[.int .i64 m, .slice ao len cap] 24)).alloc (.cells #[.int .i64 m', .slice bo len' cap'] 24)).alloc (.cells #[.int .i64 0, .slice none 0 0] 24)).alloc
    (.cells #[.int .i64 m, .slice ao len cap, .int .i64 m', .slice bo len' cap'] 24)

/-- The worlds of Product. -/
structure ProdSt (w wr : World) (m m' : Int) (ao bo : Option Addr) (len cap len' cap' : Nat) : Prop where
  ext : Ext w wr
  a : Blk wr w.heap.size #[.int .i64 m, .slice ao len cap] 24
  b : Blk wr (w.heap.size + 1) #[.int .i64 m', .slice bo len' cap'] 24
  r : Blk wr (w.heap.size + 1 + 1) #[.int .i64 0, .slice none 0 0] 24
  l : Blk wr (w.heap.size + 1 + 1 + 1) #[.int .i64 m, .slice ao len cap, .int .i64 m', .slice bo len' cap'] 24
theorem ProdSt.carry {w wr w' : World} {m m' : Int} {ao bo : Option Addr} {len cap len' cap' : Nat} (h : ProdSt w wr m m' ao bo len cap len' cap') (hx : Ext wr w') : ProdSt w w' m m' ao bo len cap len' cap' :=
  ⟨h.ext.trans hx, h.a.ext hx, h.b.ext hx, h.r.ext hx, h.l.ext hx⟩
theorem prodSt_start (w : World) (m m' : Int) (ao bo : Option Addr) (len cap len' cap' : Nat) : ProdSt w (prodW w m m' ao bo len cap len' cap') m m' ao bo len cap len' cap' :=
  ⟨((((Ext.refl w).alloc _).alloc _).alloc _).alloc _, (((Blk.new _ _ _).alloc _).alloc _).alloc _, ((Blk.new' _ _ _ (by simp)).alloc _).alloc _, (Blk.new' _ _ _ (by simp)).alloc _, Blk.new' _ _ _ (by simp)⟩

set_option maxHeartbeats 1000000 in
theorem product_badA (m m' : Int) (ao bo : Option Addr) (len cap len' cap' : Nat) (xs : List Int) (w : World) (hl : xs.length = len) (hr : Reads w ao (ints xs)) (hbad : signsFaultOf m xs ≠ 0) :
    Calls Try.prog 23 #[.agg #[.int .i64 m, .slice ao len cap], .agg #[.int .i64 m', .slice bo len' cap']] w fun e w' =>
      e = .returned (.tuple #[.agg #[.int .i64 0, .slice none 0 0], .int .i64 (signsFaultOf m xs)]) ∧ Ext w w' := by
  have HC : Hid (∀ w1, Ext w w1 → _) := fun w1 (hx : Ext w w1) => check_any m ao len cap xs w1 hl (hx.reads hr)
  obtain ⟨f, hf⟩ : ∃ f, signsFaultOf m xs = f := ⟨_, rfl⟩
  rw [hf] at HC hbad ⊢
  have b0 : (f != 0) = true := by rw [bne_iff_ne]; exact hbad
  have H0 : Hid (ProdSt w ((prodW w m m' ao bo len cap len' cap').alloc (.cells #[.int .i64 m, .slice ao len cap] 24)) m m' ao bo len cap len' cap') := (prodSt_start w m m' ao bo len cap len' cap').carry ((Ext.refl _).alloc _)
  clear hl hr hf hbad
  go_enter Try.func23, Try.ntmps23
  go_wp2
  refine wp_loop_rounds 1 ?_
  rw [rounds_succ]
  go_wp2_with fail
  refine Calls.mono (HC.out _ H0.out.ext) ?_
  rintro e w1 ⟨rfl, hx⟩
  have H1 := Lib.hid (H0.out.carry hx)
  have k0 := H1.out.r.two
  have k1 := H1.out.r.f 0
  have k2 := H1.out.r.f 1
  clear hx
  go_wp2
  have HRB := Lib.hid ((H1.out.r.set 0 (.int .i64 0)).set 1 (.slice none 0 0))
  have e0 := HRB.out.c 0 (.int .i64 0) rfl
  have e1 := HRB.out.c 1 (.slice none 0 0) rfl
  refine bodyPost_ret (v := .tuple #[.agg #[.int .i64 0, .slice none 0 0], .int .i64 f]) (by simp [results, Try.results23, go_sem, e0, e1]) rfl ⟨rfl, ?_⟩
  exact (H1.out.ext.set (by simp; omega) _).set (by simp; omega) _

set_option maxHeartbeats 1000000 in
theorem product_badB (m m' : Int) (ao bo : Option Addr) (len cap len' cap' : Nat) (xs ys : List Int) (w : World) (hl : xs.length = len) (hr : Reads w ao (ints xs)) (hl' : ys.length = len') (hr' : Reads w bo (ints ys)) (hok : signsFaultOf m xs = 0) (hbad : signsFaultOf m' ys ≠ 0) :
    Calls Try.prog 23 #[.agg #[.int .i64 m, .slice ao len cap], .agg #[.int .i64 m', .slice bo len' cap']] w fun e w' =>
      e = .returned (.tuple #[.agg #[.int .i64 0, .slice none 0 0], .int .i64 (signsFaultOf m' ys)]) ∧ Ext w w' := by
  have HC : Hid (∀ w1, Ext w w1 → _) := fun w1 (hx : Ext w w1) => check_any m ao len cap xs w1 hl (hx.reads hr)
  have HD : Hid (∀ w1, Ext w w1 → _) := fun w1 (hx : Ext w w1) => check_any m' bo len' cap' ys w1 hl' (hx.reads hr')
  obtain ⟨f, hf⟩ : ∃ f, signsFaultOf m' ys = f := ⟨_, rfl⟩
  rw [hf] at HD hbad ⊢
  rw [hok] at HC
  have b0 : (f != 0) = true := by rw [bne_iff_ne]; exact hbad
  have H0 : Hid (ProdSt w ((prodW w m m' ao bo len cap len' cap').alloc (.cells #[.int .i64 m, .slice ao len cap] 24)) m m' ao bo len cap len' cap') := (prodSt_start w m m' ao bo len cap len' cap').carry ((Ext.refl _).alloc _)
  clear hl hr hf hbad hl' hr' hok
  go_enter Try.func23, Try.ntmps23
  go_wp2
  refine wp_loop_rounds 2 ?_
  rw [rounds_succ]
  go_wp2_with fail
  refine Calls.mono (HC.out _ H0.out.ext) ?_
  rintro e w1 ⟨rfl, hx⟩
  have H1 := Lib.hid (H0.out.carry hx)
  have k0 := H1.out.l.four
  clear hx
  go_wp2
  rw [rounds_succ]
  go_wp2_with fail
  refine Calls.mono (HD.out _ (H1.out.ext.alloc _)) ?_
  rintro e w2 ⟨rfl, hx⟩
  have H2 := Lib.hid (H1.out.carry (((Ext.refl _).alloc _).trans hx))
  clear k0 hx
  have k0 := H2.out.r.two
  have k1 := H2.out.r.f 0
  have k2 := H2.out.r.f 1
  go_wp2
  have HRB := Lib.hid ((H2.out.r.set 0 (.int .i64 0)).set 1 (.slice none 0 0))
  have e0 := HRB.out.c 0 (.int .i64 0) rfl
  have e1 := HRB.out.c 1 (.slice none 0 0) rfl
  refine bodyPost_ret (v := .tuple #[.agg #[.int .i64 0, .slice none 0 0], .int .i64 f]) (by simp [results, Try.results23, go_sem, e0, e1]) rfl ⟨rfl, ?_⟩
  exact (H2.out.ext.set (by simp; omega) _).set (by simp; omega) _

set_option maxHeartbeats 2000000 in
theorem product_full (n m : Nat) (ao bo : Option Addr) (len cap len' cap' : Nat) (xs ys : List Int) (w : World) (hl : xs.length = len) (hr : Reads w ao (ints xs)) (hl' : ys.length = len') (hr' : Reads w bo (ints ys)) (hm : IsMat n xs) (ho : Orth n xs) (hm' : IsMat m ys) (ho' : Orth m ys) (hbig : 24 < n * m) :
    Calls Try.prog 23 #[.agg #[.int .i64 n, .slice ao len cap], .agg #[.int .i64 m, .slice bo len' cap']] w fun e w' =>
      e = .returned (.tuple #[.agg #[.int .i64 0, .slice none 0 0], .int .i64 3]) ∧ Ext w w' := by
  have HC := fun w1 (hx : Ext w w1) => check_any n ao len cap xs w1 hl (hx.reads hr)
  have HD := fun w1 (hx : Ext w w1) => check_any m bo len' cap' ys w1 hl' (hx.reads hr')
  rw [signsFaultOf_mat hm ho] at HC
  rw [signsFaultOf_mat hm' ho'] at HD
  have HC := Lib.hid HC
  have HD := Lib.hid HD
  have H0 : Hid (ProdSt w ((prodW w n m ao bo len cap len' cap').alloc (.cells #[.int .i64 n, .slice ao len cap] 24)) n m ao bo len cap len' cap') := (prodSt_start w n m ao bo len cap len' cap').carry ((Ext.refl _).alloc _)
  have n24 := hm.big
  have m24 := hm'.big
  obtain ⟨N, hN⟩ : ∃ N : Nat, N = n * m := ⟨_, rfl⟩
  have hN' : (n : Int) * m = N := by rw [hN]; simp
  have hN5 : N ≤ 576 := by rw [hN]; exact Nat.mul_le_mul n24 m24
  have HNN := Lib.hid hN
  obtain ⟨ba, oa, rfl, hba, hca⟩ := Reads.int hr (by rw [hm.len]; exact Nat.mul_pos hm.one hm.one)
  obtain ⟨bb, ob, rfl, hbb, hcb⟩ := Reads.int hr' (by rw [hm'.len]; exact Nat.mul_pos hm'.one hm'.one)
  have HA : Hid (∀ w1, Ext w w1 → ∀ pm pn, w1.cell? ⟨pn, 0, none⟩ = some (.int .i64 n) → w1.cell? ⟨pm, 0, none⟩ = some (.int .i64 m) → pn < w1.heap.size → pm < w1.heap.size → Blk w1 w.heap.size #[.int .i64 n, .slice (some ⟨ba, oa, none⟩) len cap] 24 → Blk w1 (w.heap.size + 1) #[.int .i64 m, .slice (some ⟨bb, ob, none⟩) len' cap'] 24 →
      CellOn 35 #[.pointer (some ⟨w.heap.size, 0, none⟩), .pointer (some ⟨pm, 0, none⟩), .pointer (some ⟨pn, 0, none⟩), .pointer (some ⟨w.heap.size + 1, 0, none⟩)] (n * m) (prodCell xs ys n m) w1) := by
    intro w1 hx pm pn hpn hpm lpn lpm ka kb i j hi hj w' hb
    have hb' : Ext w1 w' := hb
    exact prod1_any n m i j len cap len' cap' ba oa bb ob w.heap.size pn pm (w.heap.size + 1) xs ys w' hm hm' hi hj (by rw [← hl]; exact hm.len) (by rw [← hl']; exact hm'.len) (ka.ext hb') (kb.ext hb') (by rw [hb'.cell lpn]; exact hpn) (by rw [hb'.cell lpm]; exact hpm)
      (fun q hq => by rw [(hx.trans hb').cell hba]; exact hca q (by rw [hl]; exact hq)) (fun q hq => by rw [(hx.trans hb').cell hbb]; exact hcb q (by rw [hl']; exact hq))
  clear hl hr hl' hr' hm ho hm' ho' hca hcb
  rw [← hN] at hbig
  clear hN
  go_enter Try.func23, Try.ntmps23
  go_wp2
  refine wp_loop_rounds 3 ?_
  rw [rounds_succ]
  go_wp2_with fail
  refine Calls.mono (HC.out _ H0.out.ext) ?_
  rintro e w1 ⟨rfl, hx⟩
  have H1 := Lib.hid (H0.out.carry hx)
  have k0 := H1.out.l.four
  clear hx
  go_wp2
  rw [rounds_succ]
  go_wp2_with fail
  refine Calls.mono (HD.out _ (H1.out.ext.alloc _)) ?_
  rintro e w2 ⟨rfl, hx⟩
  have H2 := Lib.hid (H1.out.carry (((Ext.refl _).alloc _).trans hx))
  clear k0 hx
  go_wp2
  rw [rounds_succ]
  have k0 := H2.out.a.two
  have k1 := H2.out.b.two
  have l0 := H2.out.a.lt
  have l1 := H2.out.b.lt
  have k2 := H2.out.r.two
  have k3 := H2.out.r.f 0
  have k4 := H2.out.r.f 1
  have l2 := H2.out.r.lt
  have b5 : decide (24 < (N : Int)) = true := decide_eq_true (by omega)
  go_wp2
  go_region
  all_goals go_wp2_with fail
  · have HRB := Lib.hid ((((H2.out.r.set 0 (.int .i64 0)).set 1 (.slice none 0 0)).alloc (.cells #[.int .i64 n] 3)).alloc (.cells #[.int .i64 m] 3))
    have e0 := HRB.out.c 0 (.int .i64 0) rfl
    have e1 := HRB.out.c 1 (.slice none 0 0) rfl
    refine bodyPost_ret (v := .tuple #[.agg #[.int .i64 0, .slice none 0 0], .int .i64 3]) (by simp [results, Try.results23, go_sem, e0, e1]) rfl ?_
    exact ⟨rfl, ((((H2.out.ext.set (p := ⟨w.heap.size + 1 + 1, 0, none⟩) (by simp; omega) _).set (p := ⟨w.heap.size + 1 + 1, 1, none⟩) (by simp; omega) _).alloc _).alloc _).drew⟩
  · have HRB := Lib.hid ((((H2.out.r.set 0 (.int .i64 0)).set 1 (.slice none 0 0)).alloc (.cells #[.int .i64 m] 3)).alloc (.cells #[.int .i64 n] 3))
    have e0 := HRB.out.c 0 (.int .i64 0) rfl
    have e1 := HRB.out.c 1 (.slice none 0 0) rfl
    refine bodyPost_ret (v := .tuple #[.agg #[.int .i64 0, .slice none 0 0], .int .i64 3]) (by simp [results, Try.results23, go_sem, e0, e1]) rfl ?_
    exact ⟨rfl, ((((H2.out.ext.set (p := ⟨w.heap.size + 1 + 1, 0, none⟩) (by simp; omega) _).set (p := ⟨w.heap.size + 1 + 1, 1, none⟩) (by simp; omega) _).alloc _).alloc _).drew⟩

set_option maxHeartbeats 2000000 in
theorem product_ok (n m : Nat) (ao bo : Option Addr) (len cap len' cap' : Nat) (xs ys : List Int) (w : World) (hl : xs.length = len) (hr : Reads w ao (ints xs)) (hl' : ys.length = len') (hr' : Reads w bo (ints ys)) (hm : IsMat n xs) (ho : Orth n xs) (hm' : IsMat m ys) (ho' : Orth m ys) (hbig : ¬ 24 < n * m) :
    Calls Try.prog 23 #[.agg #[.int .i64 n, .slice ao len cap], .agg #[.int .i64 m, .slice bo len' cap']] w fun e w' =>
      ∃ ao' cap', e = .returned (.tuple #[.agg #[.int .i64 (n * m : Nat), .slice ao' ((n * m) * (n * m)) cap'], .int .i64 0]) ∧ RowOf 3 w' w.heap.size ao' ((n * m) * (n * m)) cap' (ints (tab (flat (n * m) (prodCell xs ys n m)) ((n * m) * (n * m)))) ∧ Ext w w' := by
  have HC := fun w1 (hx : Ext w w1) => check_any n ao len cap xs w1 hl (hx.reads hr)
  have HD := fun w1 (hx : Ext w w1) => check_any m bo len' cap' ys w1 hl' (hx.reads hr')
  rw [signsFaultOf_mat hm ho] at HC
  rw [signsFaultOf_mat hm' ho'] at HD
  have HC := Lib.hid HC
  have HD := Lib.hid HD
  have H0 : Hid (ProdSt w ((prodW w n m ao bo len cap len' cap').alloc (.cells #[.int .i64 n, .slice ao len cap] 24)) n m ao bo len cap len' cap') := (prodSt_start w n m ao bo len cap len' cap').carry ((Ext.refl _).alloc _)
  have n24 := hm.big
  have m24 := hm'.big
  obtain ⟨N, hN⟩ : ∃ N : Nat, N = n * m := ⟨_, rfl⟩
  have hN' : (n : Int) * m = N := by rw [hN]; simp
  have hN5 : N ≤ 576 := by rw [hN]; exact Nat.mul_le_mul n24 m24
  have HNN := Lib.hid hN
  obtain ⟨ba, oa, rfl, hba, hca⟩ := Reads.int hr (by rw [hm.len]; exact Nat.mul_pos hm.one hm.one)
  obtain ⟨bb, ob, rfl, hbb, hcb⟩ := Reads.int hr' (by rw [hm'.len]; exact Nat.mul_pos hm'.one hm'.one)
  have HA : Hid (∀ w1, Ext w w1 → ∀ pm pn, w1.cell? ⟨pn, 0, none⟩ = some (.int .i64 n) → w1.cell? ⟨pm, 0, none⟩ = some (.int .i64 m) → pn < w1.heap.size → pm < w1.heap.size → Blk w1 w.heap.size #[.int .i64 n, .slice (some ⟨ba, oa, none⟩) len cap] 24 → Blk w1 (w.heap.size + 1) #[.int .i64 m, .slice (some ⟨bb, ob, none⟩) len' cap'] 24 →
      CellOn 35 #[.pointer (some ⟨w.heap.size, 0, none⟩), .pointer (some ⟨pm, 0, none⟩), .pointer (some ⟨pn, 0, none⟩), .pointer (some ⟨w.heap.size + 1, 0, none⟩)] (n * m) (prodCell xs ys n m) w1) := by
    intro w1 hx pm pn hpn hpm lpn lpm ka kb i j hi hj w' hb
    have hb' : Ext w1 w' := hb
    exact prod1_any n m i j len cap len' cap' ba oa bb ob w.heap.size pn pm (w.heap.size + 1) xs ys w' hm hm' hi hj (by rw [← hl]; exact hm.len) (by rw [← hl']; exact hm'.len) (ka.ext hb') (kb.ext hb') (by rw [hb'.cell lpn]; exact hpn) (by rw [hb'.cell lpm]; exact hpm)
      (fun q hq => by rw [(hx.trans hb').cell hba]; exact hca q (by rw [hl]; exact hq)) (fun q hq => by rw [(hx.trans hb').cell hbb]; exact hcb q (by rw [hl']; exact hq))
  clear hl hr hl' hr' hm ho hm' ho' hca hcb
  rw [← hN] at hbig
  clear hN
  go_enter Try.func23, Try.ntmps23
  go_wp2
  refine wp_loop_rounds 3 ?_
  rw [rounds_succ]
  go_wp2_with fail
  refine Calls.mono (HC.out _ H0.out.ext) ?_
  rintro e w1 ⟨rfl, hx⟩
  have H1 := Lib.hid (H0.out.carry hx)
  have k0 := H1.out.l.four
  clear hx
  go_wp2
  rw [rounds_succ]
  go_wp2_with fail
  refine Calls.mono (HD.out _ (H1.out.ext.alloc _)) ?_
  rintro e w2 ⟨rfl, hx⟩
  have H2 := Lib.hid (H1.out.carry (((Ext.refl _).alloc _).trans hx))
  clear k0 hx
  go_wp2
  rw [rounds_succ]
  have k0 := H2.out.a.two
  have k1 := H2.out.b.two
  have l0 := H2.out.a.lt
  have l1 := H2.out.b.lt
  have k2 := H2.out.r.two
  have k3 := H2.out.r.f 0
  have k4 := H2.out.r.f 1
  have l2 := H2.out.r.lt
  have b5 : decide (24 < (N : Int)) = false := decide_eq_false (by omega)
  go_wp2
  go_region
  all_goals go_wp2_with fail
  · have HW := Lib.hid (H2.out.carry ((((Ext.refl w2).alloc (.cells #[.int .i64 n] 3)).alloc (.cells #[.int .i64 m] 3)).drew))
    have hf := filled_any 35 #[.pointer (some ⟨w.heap.size, 0, none⟩), .pointer (some ⟨w2.heap.size + 1, 0, none⟩), .pointer (some ⟨w2.heap.size, 0, none⟩), .pointer (some ⟨w.heap.size + 1, 0, none⟩)] (n * m) (prodCell xs ys n m) (((w2.alloc (.cells #[.int .i64 n] 3)).alloc (.cells #[.int .i64 m] 3)).drew) (by rw [← HNN.out]; omega)
      (HA.out _ HW.out.ext _ _ (by simp [World.cell?_alloc_at, World.cell?_alloc_past]) (by simp [World.cell?_alloc_at]) (by simp; try omega) (by simp; try omega) HW.out.a HW.out.b) enter_prod1
    rw [← HNN.out] at hf
    have HF := Lib.hid hf
    clear hf
    refine Calls.mono HF.out ?_
    rintro e w3 ⟨ao', cap', rfl, hrow, hx⟩
    have X3 := Lib.hid (HW.out.r.ext hx)
    have E3 := Lib.hid (HW.out.ext.trans hx)
    have R3 := Lib.hid (RowOf.mono (B' := w.heap.size + 1 + 1 + 1) hrow (by simp; omega))
    have k5 := X3.out.two
    have k6 := X3.out.f 0
    have k7 := X3.out.f 1
    clear hrow hx
    obtain ⟨M, hM⟩ : ∃ M : Nat, M = N * N := ⟨_, rfl⟩
    rw [← hM] at R3
    rw [← hM]
    have HM := Lib.hid hM
    clear hM
    go_wp2
    have HRB := Lib.hid ((X3.out.set 0 (.int .i64 N)).set 1 (.slice ao' M cap'))
    have e0 := HRB.out.c 0 (.int .i64 N) rfl
    have e1 := HRB.out.c 1 (.slice ao' M cap') rfl
    refine bodyPost_ret (v := .tuple #[.agg #[.int .i64 N, .slice ao' M cap'], .int .i64 0]) (by simp [results, Try.results23, go_sem, e0, e1]) rfl ?_
    rw [← HNN.out, ← HM.out]
    exact ⟨ao', cap', rfl, ((R3.out.beside ⟨w.heap.size + 1 + 1, 0, none⟩ (by simp) _).beside ⟨w.heap.size + 1 + 1, 1, none⟩ (by simp) _).mono (by omega), (E3.out.set (p := ⟨w.heap.size + 1 + 1, 0, none⟩) (by simp; omega) _).set (p := ⟨w.heap.size + 1 + 1, 1, none⟩) (by simp; omega) _⟩
  · have HW := Lib.hid (H2.out.carry ((((Ext.refl w2).alloc (.cells #[.int .i64 m] 3)).alloc (.cells #[.int .i64 n] 3)).drew))
    have hf := filled_any 35 #[.pointer (some ⟨w.heap.size, 0, none⟩), .pointer (some ⟨w2.heap.size, 0, none⟩), .pointer (some ⟨w2.heap.size + 1, 0, none⟩), .pointer (some ⟨w.heap.size + 1, 0, none⟩)] (n * m) (prodCell xs ys n m) (((w2.alloc (.cells #[.int .i64 m] 3)).alloc (.cells #[.int .i64 n] 3)).drew) (by rw [← HNN.out]; omega)
      (HA.out _ HW.out.ext _ _ (by simp [World.cell?_alloc_at]) (by simp [World.cell?_alloc_at, World.cell?_alloc_past]) (by simp; try omega) (by simp; try omega) HW.out.a HW.out.b) enter_prod1
    rw [← HNN.out] at hf
    have HF := Lib.hid hf
    clear hf
    refine Calls.mono HF.out ?_
    rintro e w3 ⟨ao', cap', rfl, hrow, hx⟩
    have X3 := Lib.hid (HW.out.r.ext hx)
    have E3 := Lib.hid (HW.out.ext.trans hx)
    have R3 := Lib.hid (RowOf.mono (B' := w.heap.size + 1 + 1 + 1) hrow (by simp; omega))
    have k5 := X3.out.two
    have k6 := X3.out.f 0
    have k7 := X3.out.f 1
    clear hrow hx
    obtain ⟨M, hM⟩ : ∃ M : Nat, M = N * N := ⟨_, rfl⟩
    rw [← hM] at R3
    rw [← hM]
    have HM := Lib.hid hM
    clear hM
    go_wp2
    have HRB := Lib.hid ((X3.out.set 0 (.int .i64 N)).set 1 (.slice ao' M cap'))
    have e0 := HRB.out.c 0 (.int .i64 N) rfl
    have e1 := HRB.out.c 1 (.slice ao' M cap') rfl
    refine bodyPost_ret (v := .tuple #[.agg #[.int .i64 N, .slice ao' M cap'], .int .i64 0]) (by simp [results, Try.results23, go_sem, e0, e1]) rfl ?_
    rw [← HNN.out, ← HM.out]
    exact ⟨ao', cap', rfl, ((R3.out.beside ⟨w.heap.size + 1 + 1, 0, none⟩ (by simp) _).beside ⟨w.heap.size + 1 + 1, 1, none⟩ (by simp) _).mono (by omega), (E3.out.set (p := ⟨w.heap.size + 1 + 1, 0, none⟩) (by simp; omega) _).set (p := ⟨w.heap.size + 1 + 1, 1, none⟩) (by simp; omega) _⟩

end Go.Proofs.Ytkdbdlkkjkiijaa
