/- What parterreref3.SignsProduct answers: as hada.Product. -/
import Derived.Test.YtkdbdlkkjkiijaaProduct
import Derived.Test.YtkdbdlkkjkiijaaPaleySigns
namespace Go.Proofs.Ytkdbdlkkjkiijaa
open Go.RowKit

/-- The world of SignsProduct, ahead of its box. -/
def sprodW (w : World) (m m' : Int) (ao bo : Option Addr) (len cap len' cap' : Nat) : World :=
  ((w.alloc (.cells #[.int .i64 m, .slice ao len cap] 24)).alloc (.cells #[.int .i64 m', .slice bo len' cap'] 24)).alloc (.cells #[.int .i64 0, .slice none 0 0] 24)
/-- The worlds of SignsProduct. -/
structure SprodSt (w wr : World) (m m' : Int) (ao bo : Option Addr) (len cap len' cap' : Nat) : Prop where
  ext : Ext w wr
  a : Blk wr w.heap.size #[.int .i64 m, .slice ao len cap] 24
  b : Blk wr (w.heap.size + 1) #[.int .i64 m', .slice bo len' cap'] 24
  r : Blk wr (w.heap.size + 1 + 1) #[.int .i64 0, .slice none 0 0] 24
theorem SprodSt.carry {w wr w' : World} {m m' : Int} {ao bo : Option Addr} {len cap len' cap' : Nat} (h : SprodSt w wr m m' ao bo len cap len' cap') (hx : Ext wr w') : SprodSt w w' m m' ao bo len cap len' cap' :=
  ⟨h.ext.trans hx, h.a.ext hx, h.b.ext hx, h.r.ext hx⟩
theorem sprodSt_start (w : World) (m m' : Int) (ao bo : Option Addr) (len cap len' cap' : Nat) : SprodSt w (sprodW w m m' ao bo len cap len' cap') m m' ao bo len cap len' cap' :=
  ⟨(((Ext.refl w).alloc _).alloc _).alloc _, ((Blk.new _ _ _).alloc _).alloc _, (Blk.new' _ _ _ (by simp)).alloc _, Blk.new' _ _ _ (by simp)⟩

set_option maxHeartbeats 1000000 in
theorem signsProduct_full (n m : Nat) (ao bo : Option Addr) (len cap len' cap' : Nat) (w : World) (n24 : n ≤ 24) (m24 : m ≤ 24) (hbig : 24 < n * m) :
    Calls Try.prog 24 #[.agg #[.int .i64 n, .slice ao len cap], .agg #[.int .i64 m, .slice bo len' cap']] w fun e w' =>
      e = .returned (.tuple #[.agg #[.int .i64 0, .slice none 0 0], .int .i64 3]) ∧ Ext w w' := by
  obtain ⟨N, hN⟩ : ∃ N : Nat, N = n * m := ⟨_, rfl⟩
  have hN' : (n : Int) * m = N := by rw [hN]; simp
  have hN5 : N ≤ 576 := by rw [hN]; exact Nat.mul_le_mul n24 m24
  rw [← hN] at hbig
  have b5 : decide (24 < (N : Int)) = true := decide_eq_true (by omega)
  have H0 := Lib.hid (sprodSt_start w n m ao bo len cap len' cap')
  clear hN
  go_enter Try.func24, Try.ntmps24
  go_wp2
  exact bodyPost_ret (v := .tuple #[.agg #[.int .i64 0, .slice none 0 0], .int .i64 3]) (by simp [results, Try.results24, go_sem]) rfl ⟨rfl, H0.out.ext⟩

set_option maxHeartbeats 2000000 in
theorem signsProduct_ok (n m : Nat) (ao bo : Option Addr) (len cap len' cap' : Nat) (xs ys : List Int) (w : World) (hl : xs.length = len) (hr : Reads w ao (ints xs)) (hl' : ys.length = len') (hr' : Reads w bo (ints ys)) (hm : IsMat n xs) (hm' : IsMat m ys) (hbig : ¬ 24 < n * m) :
    Calls Try.prog 24 #[.agg #[.int .i64 n, .slice ao len cap], .agg #[.int .i64 m, .slice bo len' cap']] w fun e w' =>
      ∃ ao' cap', e = .returned (.tuple #[.agg #[.int .i64 (n * m : Nat), .slice ao' ((n * m) * (n * m)) cap'], .int .i64 0]) ∧ RowOf 3 w' w.heap.size ao' ((n * m) * (n * m)) cap' (ints (tab (flat (n * m) (prodCell xs ys n m)) ((n * m) * (n * m)))) ∧ Ext w w' := by
  have n24 := hm.big
  have m24 := hm'.big
  have m1 := hm'.one
  obtain ⟨N, hN⟩ : ∃ N : Nat, N = n * m := ⟨_, rfl⟩
  have hN' : (n : Int) * m = N := by rw [hN]; simp
  rw [← hN] at hbig
  have b5 : decide (24 < (N : Int)) = false := decide_eq_false (by omega)
  have hN4 : N ≤ 24 := by omega
  have hlen : len = n * n := by rw [← hl]; exact hm.len
  have hlen' : len' = m * m := by rw [← hl']; exact hm'.len
  have sq1 := sq_bound n24
  have sq2 := sq_bound m24
  rw [← hlen] at sq1
  rw [← hlen'] at sq2
  have hz : ((m : Int) == 0) = false := by rw [beq_eq_false_iff_ne]; omega
  obtain ⟨ba, oa, rfl, hba, hca⟩ := Reads.int hr (by rw [hm.len]; exact Nat.mul_pos hm.one hm.one)
  obtain ⟨bb, ob, rfl, hbb, hcb⟩ := Reads.int hr' (by rw [hm'.len]; exact Nat.mul_pos hm'.one hm'.one)
  rw [hl] at hca
  rw [hl'] at hcb
  have HCA := Lib.hid hca
  have HCB := Lib.hid hcb
  have HM := Lib.hid hm
  have HM' := Lib.hid hm'
  have HNN := Lib.hid hN
  have HLA := Lib.hid hlen
  have HLB := Lib.hid hlen'
  have H0 := Lib.hid (sprodSt_start w n m (some ⟨ba, oa, none⟩) (some ⟨bb, ob, none⟩) len cap len' cap')
  have HF : Hid (Filling (sprodW w n m (some ⟨ba, oa, none⟩) (some ⟨bb, ob, none⟩) len cap len' cap') ((sprodW w n m (some ⟨ba, oa, none⟩) (some ⟨bb, ob, none⟩) len cap len' cap').alloc (.cells #[.int .i64 N, .slice none 0 0] 24)) (w.heap.size + 1 + 1 + 1) N 0 (flat N (prodCell xs ys n m)) none 0) := by
    refine ⟨?_, RowOf.nil _ _ _, (Below.refl _ _).alloc (by simp [sprodW]) _⟩
    have h := BoxAt.new (sprodW w n m (some ⟨ba, oa, none⟩) (some ⟨bb, ob, none⟩) len cap len' cap') (.int .i64 N) (.slice none 0 0) 24
    rwa [show (sprodW w n m (some ⟨ba, oa, none⟩) (some ⟨bb, ob, none⟩) len cap len' cap').heap.size = w.heap.size + 1 + 1 + 1 by simp [sprodW]] at h
  have HS0 : Hid ((sprodW w n m (some ⟨ba, oa, none⟩) (some ⟨bb, ob, none⟩) len cap len' cap').heap.size = w.heap.size + 1 + 1 + 1) := by show _ = _; simp [sprodW]
  clear hl hr hl' hr' hm hm' hca hcb hN hlen hlen'
  go_enter Try.func24, Try.ntmps24
  go_wp2
  obtain ⟨w1, hw1⟩ : ∃ w1, w1 = (((w.alloc (.cells #[.int .i64 n, .slice (some ⟨ba, oa, none⟩) len cap] 24)).alloc (.cells #[.int .i64 m, .slice (some ⟨bb, ob, none⟩) len' cap'] 24)).alloc (.cells #[.int .i64 0, .slice none 0 0] 24)).alloc (.cells #[.int .i64 N, .slice none 0 0] 24) := ⟨_, rfl⟩
  obtain ⟨w0, hw0⟩ : ∃ w0, w0 = sprodW w n m (some ⟨ba, oa, none⟩) (some ⟨bb, ob, none⟩) len cap len' cap' := ⟨_, rfl⟩
  have HF0 : Hid (Filling w0 w1 (w.heap.size + 1 + 1 + 1) N 0 (flat N (prodCell xs ys n m)) none 0) := by rw [hw1, hw0]; exact HF.out
  rw [← hw0] at H0 HS0
  rw [← hw1]
  clear hw1 hw0 HF
  obtain ⟨r, hr⟩ : ∃ r, r = w.heap.size + 1 + 1 := ⟨_, rfl⟩
  have HCAR : Hid (∀ (wr : World) (k : Nat) (ao : Option Addr) (cp : Nat), Filling w0 wr (w.heap.size + 1 + 1 + 1) N k (flat N (prodCell xs ys n m)) ao cp → SprodSt w wr n m (some ⟨ba, oa, none⟩) (some ⟨bb, ob, none⟩) len cap len' cap') :=
    fun wr k ao cp hf => H0.out.carry (hf.bel.mono (by rw [HS0.out]; exact Nat.le_refl _))
  rw [← hr] at HF0 HCAR HS0 ⊢
  have HR := Lib.hid hr
  clear hr
  go_loopw [8, 9, 10, 11] (fun a _ _ _ wr => ∃ (i k : Nat) (ao : Option Addr) (cp : Nat), i ≤ N ∧ a = .int .i64 i ∧ Hid (k = i * N) ∧ Filling w0 wr (r + 1) N k (flat N (prodCell xs ys n m)) ao cp) (fun i _ _ _ _ => N - (intOf i).toNat)
  case atStart => exact ⟨0, 0, none, 0, by omega, rfl, (Nat.zero_mul N).symm, HF0.out⟩
  case round =>
    obtain ⟨i, k, ao, cp, hi, rfl, HK, hf⟩ := hrel
    have HF1 := Lib.hid hf
    clear hf
    by_cases hin : i < N
    · go_wp2
      go_loopw [9, 10, 11] (fun b _ _ wr => ∃ (j k' : Nat) (ao : Option Addr) (cp : Nat), j ≤ N ∧ b = .int .i64 j ∧ Hid (k' = i * N + j) ∧ Filling w0 wr (r + 1) N k' (flat N (prodCell xs ys n m)) ao cp) (fun j _ _ _ => N - (intOf j).toNat)
      case atStart => exact ⟨0, k, ao, cp, by omega, rfl, HK, HF1.out⟩
      case round =>
        obtain ⟨j, k', ao2, cp2, hj, rfl, HK2, hf2⟩ := hrel
        have H2 := Lib.hid hf2
        clear hf2
        by_cases hjn : j < N
        · have hm6 : k' ≤ 576 := by
            have h1 : i * N + j < N * N := place_lt hin hjn
            have h2 : N * N ≤ 576 := sq_bound hN4
            have := HK2.out; omega
          have h1 : i / m < n := div_lt (by rw [← HNN.out]; exact hin)
          have h2 : j / m < n := div_lt (by rw [← HNN.out]; exact hjn)
          have h3 : i % m < m := Nat.mod_lt _ m1
          have h4 : j % m < m := Nat.mod_lt _ m1
          have e1 : (i : Int) / m = (i / m : Nat) := by simp
          have e2 : (j : Int) / m = (j / m : Nat) := by simp
          have e3 : (i : Int) % m = (i % m : Nat) := by simp
          have e4 : (j : Int) % m = (j % m : Nat) := by simp
          have HV : Hid (flat N (prodCell xs ys n m) k' = nth xs (i / m * n + j / m) * nth ys (i % m * m + j % m)) := by
            show _ = _; rw [HK2.out, flat_at _ hjn]; rfl
          have p1 := place_lt h1 h2
          have p2 := place_lt h3 h4
          rw [← HLA.out] at p1
          rw [← HLB.out] at p2
          obtain ⟨a, ha⟩ : ∃ a, a = i / m := ⟨_, rfl⟩
          obtain ⟨b, hb⟩ : ∃ b, b = j / m := ⟨_, rfl⟩
          obtain ⟨c, hc⟩ : ∃ c, c = i % m := ⟨_, rfl⟩
          obtain ⟨d, hd⟩ : ∃ d, d = j % m := ⟨_, rfl⟩
          rw [← ha] at h1 e1 p1 HV
          rw [← hb] at h2 e2 p1 HV
          rw [← hc] at h3 e3 p2 HV
          rw [← hd] at h4 e4 p2 HV
          obtain ⟨u, hu⟩ : ∃ u, u = a * n := ⟨_, rfl⟩
          have hu' : (a : Int) * n = u := by rw [hu]; simp
          obtain ⟨v, hv⟩ : ∃ v, v = c * m := ⟨_, rfl⟩
          have hv' : (c : Int) * m = v := by rw [hv]; simp
          rw [← hu] at p1 HV
          rw [← hv] at p2 HV
          have HP := Lib.hid (HCAR.out _ _ _ _ H2.out)
          have c1 := (HP.out.ext.cell hba).trans (HCA.out (u + b) p1)
          have c2 := (HP.out.ext.cell hbb).trans (HCB.out (v + d) p2)
          have s1 := nth_sign HM.out (u + b) (by rw [← HLA.out]; exact p1)
          have s2 := nth_sign HM'.out (v + d) (by rw [← HLB.out]; exact p2)
          obtain ⟨x, hxx⟩ : ∃ x, nth xs (u + b) = x := ⟨_, rfl⟩
          obtain ⟨y, hyy⟩ : ∃ y, nth ys (v + d) = y := ⟨_, rfl⟩
          rw [hxx] at c1 s1 HV
          rw [hyy] at c2 s2 HV
          have hxy : -1 ≤ x * y ∧ x * y ≤ 1 := by rcases s1 with rfl | rfl <;> rcases s2 with rfl | rfl <;> decide
          obtain ⟨hxy1, hxy2⟩ := hxy
          have k1 := HP.out.a.two
          have k2 := HP.out.b.two
          clear s1 s2 hxx hyy hu hv ha hb hc hd
          have k3 := H2.out.box.c1
          have hbs := H2.out.size
          go_wp2_with fail
          go_quiet (fail)
          go_wp2_with fail
          go_quiet (fail)
          go_wp2_with (at_builtin; refine wpList_appInt eInt rfl (.tmp 65) (.tmp 69) rfl (r + 1 + 1) (by rfl) (H2.out.drawn (Drawn.drewN _ _)).row (by rfl) (by omega) (by simpa using hbs) ?_; intro ao4 cap4 w4 hr4 hg4 hb4; have HG := Lib.hid ((H2.out.drawn (Drawn.drewN _ _)).grown2 hg4 hr4 hb4 HV.out); have k4 := HG.out.1.c1; have k5 := HG.out.1.f1; clear hr4 hg4 hb4)
          go_roundw
          case rel => exact ⟨j + 1, k' + 1, ao4, cap4, by omega, by go_num, (by show k' + 1 = i * N + (j + 1); rw [HK2.out]; omega), HG.out.2⟩
          case measure => simp [intOf]; omega
        · obtain rfl : N = j := by omega
          go_wp2
          go_roundw
          case rel => exact ⟨i + 1, k', ao2, cp2, by omega, by go_num, (by show k' = (i + 1) * N; rw [HK2.out, Nat.succ_mul]), H2.out⟩
          case measure => simp [intOf]; omega
    · obtain rfl : N = i := by omega
      have HP := Lib.hid (HCAR.out _ _ _ _ HF1.out)
      have k0 := HF1.out.box.c0
      have k1 := HF1.out.box.c1
      have XR2 : Hid (Blk wr r #[.int .i64 0, .slice none 0 0] 24) := by have h := HP.out.r; rw [← HR.out] at h; exact h
      have k2 := XR2.out.two
      have k3 := XR2.out.f 0
      have k4 := XR2.out.f 1
      go_wp2
      have HRB := Lib.hid ((XR2.out.set 0 (.int .i64 N)).set 1 (.slice ao k cp))
      have e0 := HRB.out.c 0 (.int .i64 N) rfl
      have e1 := HRB.out.c 1 (.slice ao k cp) rfl
      refine bodyPost_ret (v := .tuple #[.agg #[.int .i64 N, .slice ao k cp], .int .i64 0]) (by simp [results, Try.results24, go_sem, e0, e1]) rfl ⟨ao, cp, by rw [← HNN.out, HK.out], ?_, ?_⟩
      · rw [← HNN.out, ← HK.out]
        exact ((HF1.out.row.beside ⟨r, 0, none⟩ (by simp; omega) _).beside ⟨r, 1, none⟩ (by simp; omega) _).mono (by have := HR.out; omega)
      · exact (HP.out.ext.set (by rw [HR.out]; simp; omega) _).set (by rw [HR.out]; simp; omega) _

end Go.Proofs.Ytkdbdlkkjkiijaa
