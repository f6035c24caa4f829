/- What parterreref1.Sum and Product answer. No conditions. -/
import Derived.Test.YtnfonobdfkpkeaaDoorROrder
import Derived.Test.YtnfonobdfkpkeaaDoorTimesMath
import Derived.Test.YtnfonobdfkpkeaaDoorFAdd
namespace Go.Proofs.YtnfonobdfkpkeaaDoor
open Go.RowKit

/-- A row of the call's own that a function tells. -/
structure OwnF (w0 wr : World) (g N cap : Nat) (f : Nat → Int) : Prop where
  ext : Ext w0 wr
  row : RowOf 3 wr w0.heap.size (some ⟨g, 0, none⟩) N cap (ints (tab f N))
theorem OwnF.at {w0 wr : World} {g N cap : Nat} {f : Nat → Int} (h : OwnF w0 wr g N cap f) {j : Nat} (hj : j < N) : wr.cell? ⟨g, j, none⟩ = some (.int .i64 (f j)) := by
  have := h.row.known.2.2.1 j _ (ints_get (tab f N) j (by rw [tab_length]; exact hj))
  rwa [nth_tab f N j hj] at this
theorem OwnF.f {w0 wr : World} {g N cap : Nat} {f : Nat → Int} (h : OwnF w0 wr g N cap f) (j : Nat) : wr.frozen? ⟨g, j, none⟩ = false := h.row.known.2.2.2 j
theorem OwnF.lt {w0 wr : World} {g N cap : Nat} {f : Nat → Int} (h : OwnF w0 wr g N cap f) : w0.heap.size ≤ g ∧ g < wr.heap.size := ⟨h.row.known.1, h.row.known.2.1⟩
theorem OwnF.carry {w0 wr w' : World} {g N cap : Nat} {f : Nat → Int} (h : OwnF w0 wr g N cap f) (hx : Ext wr w') : OwnF w0 w' g N cap f := ⟨h.ext.trans hx, hx.row h.row⟩
theorem OwnF.set {w0 wr : World} {g N cap : Nat} {f : Nat → Int} (h : OwnF w0 wr g N cap f) {j : Nat} (hj : j < N) (v : Int) : OwnF w0 (wr.setCell ⟨g, j, none⟩ (.int .i64 v)) g N cap (upd f j v) :=
  ⟨h.ext.set h.lt.1 _, by rw [← tab_upd f N j v hj]; exact h.row.stored j _⟩
theorem OwnF.drew {w0 wr : World} {g N cap : Nat} {f : Nat → Int} (h : OwnF w0 wr g N cap f) : OwnF w0 wr.drew g N cap f := ⟨h.ext.drew, World.ownsRow.drew h.row⟩
theorem OwnF.congr {w0 wr : World} {g N cap : Nat} {f f' : Nat → Int} (h : OwnF w0 wr g N cap f) (he : ∀ j, j < N → f j = f' j) : OwnF w0 wr g N cap f' := ⟨h.ext, by rw [← tab_congr f f' N he]; exact h.row⟩
theorem OwnF.reads {w0 wr : World} {g N cap : Nat} {f : Nat → Int} (h : OwnF w0 wr g N cap f) : Reads wr (some ⟨g, 0, none⟩) (ints (tab f N)) := h.row.reads
theorem OwnInts.f {w0 wr : World} {v : Value} {f : Nat → Int} {N : Nat} (h : OwnInts w0 wr v (tab f N)) (hN : 0 < N) : ∃ g cap, v = .slice (some ⟨g, 0, none⟩) N cap ∧ OwnF w0 wr g N cap f := by
  obtain ⟨ao, n, cap, rfl, h1, h2⟩ := h
  have hn : n = N := by have := h1.length; rw [ints_length, tab_length] at this; omega
  subst hn
  obtain ⟨g, rfl, _⟩ := h1.opened hN
  exact ⟨g, cap, rfl, h2, h1⟩

set_option maxHeartbeats 4000000 in
set_option maxRecDepth 100000 in
theorem sumOf_any (p k a b : Nat) (ao : Option Addr) (len cap : Nat) (w : World) (h2 : 2 ≤ p) (h61 : p ≤ 61) (hk1 : 1 ≤ k) (hk6 : k ≤ 6) (h64 : p ^ k ≤ 64) (ha : a < 128) (hb : b < 128) :
    Calls Tryd.prog 20 #[.agg #[.int .i64 p, .int .i64 k, .slice ao len cap], .int .i64 a, .int .i64 b] w fun e w' => e = .returned (.int .i64 (addF p k a b : Nat)) ∧ Ext w w' := by
  have HA : Hid (∀ w, _) := fun w => digitsOf_any p a k w h2 h61 ha (by omega)
  have HB : Hid (∀ w, _) := fun w => digitsOf_any p b k w h2 h61 hb (by omega)
  have H0 : Hid (Blk (w.alloc (.cells #[.int .i64 p, .int .i64 k, .slice ao len cap] 24)) w.heap.size #[.int .i64 p, .int .i64 k, .slice ao len cap] 24) := Blk.new _ _ _
  have HX0 : Hid (Ext w (w.alloc (.cells #[.int .i64 p, .int .i64 k, .slice ao len cap] 24))) := (Ext.refl w).alloc _
  go_enter Tryd.func20, Tryd.ntmps20
  go_wp2_with fail
  obtain ⟨w0, hw0⟩ : ∃ w0, w0 = w.alloc (.cells #[.int .i64 p, .int .i64 k, .slice ao len cap] 24) := ⟨_, rfl⟩
  rw [← hw0] at H0 HX0 ⊢
  clear hw0
  refine Calls.mono (HA.out _) ?_
  rintro e w1 ⟨v1, rfl, ho⟩
  obtain ⟨g1, c1, rfl, hof⟩ := ho.f (by omega)
  have O1 := Lib.hid hof
  have F1 := Lib.hid (H0.out.ext hof.ext)
  obtain ⟨t1, t2, t3⟩ := F1.out.three
  clear ho hof
  go_wp2_with fail
  refine Calls.mono (HB.out _) ?_
  rintro e w2 ⟨v2, rfl, ho⟩
  obtain ⟨g2, c2, rfl, hof⟩ := ho.f (by omega)
  have O2 := Lib.hid hof
  have O1' := Lib.hid (O1.out.carry hof.ext)
  have F2 := Lib.hid (F1.out.ext hof.ext)
  have hgg : g1 < g2 := by have := O1.out.lt.2; have := hof.lt.1; omega
  have hwg : w.heap.size < g1 := by have := O1.out.lt.1; have := H0.out.lt; omega
  have HX2 := Lib.hid ((HX0.out.trans O1.out.ext).trans hof.ext)
  clear ho hof t1 t2 t3
  go_wp2
  go_loopw [9] (fun x wr => ∃ i : Nat, i ≤ k ∧ x = .int .i64 i ∧ OwnF w0 wr g1 k c1 (adU p a b i) ∧ (∀ j, j < k → wr.cell? ⟨g2, j, none⟩ = some (.int .i64 (dgI p b j))) ∧ Blk wr w.heap.size #[.int .i64 p, .int .i64 k, .slice ao len cap] 24) (fun x _ => k - (intOf x).toNat)
  case atStart => exact ⟨0, by omega, rfl, O1'.out.congr fun m _ => by unfold adU; rw [if_neg (by omega)], fun j hj => O2.out.at hj, F2.out⟩
  case round =>
    obtain ⟨i, hi, rfl, ho, hy, hf⟩ := hrel
    have HO := Lib.hid ho
    have HY := Lib.hid hy
    have HF := Lib.hid hf
    clear ho hy hf
    obtain ⟨t1, t2, t3⟩ := HF.out.three
    by_cases hik : i < k
    · have t4 := HO.out.at hik
      have t5 := HO.out.f i
      have t6 := HY.out i hik
      rw [show adU p a b i i = dgI p a i from by unfold adU; rw [if_neg (by omega)]] at t4
      have HN : Hid (OwnF w0 (wr.setCell ⟨g1, i, none⟩ (.int .i64 ((dgI p a i + dgI p b i) % p))) g1 k c1 (adU p a b (i + 1)) ∧ (∀ j, j < k → (wr.setCell ⟨g1, i, none⟩ (.int .i64 ((dgI p a i + dgI p b i) % p))).cell? ⟨g2, j, none⟩ = some (.int .i64 (dgI p b j))) ∧ Blk (wr.setCell ⟨g1, i, none⟩ (.int .i64 ((dgI p a i + dgI p b i) % p))) w.heap.size #[.int .i64 p, .int .i64 k, .slice ao len cap] 24) :=
        ⟨(HO.out.set hik _).congr fun m _ => (adU_succ p a b i m).symm, fun j hj => by rw [World.cell?_of_block (w := wr) (Below.heap_setCell wr ⟨g1, i, none⟩ _ g2 (by simp; omega))]; exact HY.out j hj, HF.out.beside _ (by simp; omega) _⟩
      have hx := dgI_dig (p := p) (by omega) a i
      have hy := dgI_dig (p := p) (by omega) b i
      obtain ⟨x, hxx⟩ : ∃ x, dgI p a i = x := ⟨_, rfl⟩
      obtain ⟨y, hyy⟩ : ∃ y, dgI p b i = y := ⟨_, rfl⟩
      rw [hxx] at t4 HN hx
      rw [hyy] at t6 HN hy
      obtain ⟨hx1, hx2⟩ := hx
      obtain ⟨hy1, hy2⟩ := hy
      have hia : (0 : Int) ≤ (i : Int) := by omega
      have hib : (i : Int) < k := by omega
      clear hxx hyy
      obtain ⟨wo, rfl⟩ : ∃ wo : World, wo = wr := ⟨_, rfl⟩
      go_wp2
      go_region
      all_goals
        go_wp2
        exact ⟨⟨i + 1, by omega, by go_num, HN.out.1.drew, fun j hj => HN.out.2.1 j hj, HN.out.2.2.drew⟩, by simp [intOf]; omega⟩
    · obtain rfl : k = i := by omega
      have HNUM := Lib.hid (numberOf_any p k (some ⟨g1, 0, none⟩) c1 (tab (adU p a b k) k) (fun m => (dgt p a m + dgt p b m) % p) wr h2 h61 hk1 hk6 h64 (fun _ => Nat.mod_lt _ (by omega)) (tab_length _ _) (fun m hm => by rw [nth_tab _ _ _ hm]; unfold adU; rw [if_pos hm]) HO.out.reads)
      go_wp2_with fail
      refine Calls.mono HNUM.out ?_
      rintro e w3 ⟨rfl, rfl⟩
      have HX3 := Lib.hid (HX0.out.trans HO.out.ext)
      go_wp2
      go_ret
      exact ⟨rfl, HX3.out⟩

set_option maxHeartbeats 4000000 in
set_option maxRecDepth 100000 in
theorem productOf_any (p k : Nat) (x y : Nat → Int) (ao bo : Option Addr) (cap cap' : Nat) (w : World) (h2 : 2 ≤ p) (h61 : p ≤ 61) (hk1 : 1 ≤ k) (hk6 : k ≤ 6) (hx : Dig p x) (hy : Dig p y) (ra : Reads w ao (ints (tab x k))) (rb : Reads w bo (ints (tab y k))) :
    Calls Tryd.prog 28 #[.slice ao k cap, .slice bo k cap', .int .i64 p] w fun e w' => ∃ g c, e = .returned (.slice (some ⟨g, 0, none⟩) (k + k) c) ∧ OwnF w w' g (k + k) c (prR p k x y k) := by
  obtain ⟨b1, o1, rfl, hb1, hc1⟩ := Reads.int ra (by rw [tab_length]; omega)
  obtain ⟨b2, o2, rfl, hb2, hc2⟩ := Reads.int rb (by rw [tab_length]; omega)
  have HC1 : Hid (∀ j, j < k → w.cell? ⟨b1, o1 + j, none⟩ = some (.int .i64 (x j))) := fun j hj => by rw [hc1 j (by rw [tab_length]; exact hj), nth_tab _ _ _ hj]
  have HC2 : Hid (∀ j, j < k → w.cell? ⟨b2, o2 + j, none⟩ = some (.int .i64 (y j))) := fun j hj => by rw [hc2 j (by rw [tab_length]; exact hj), nth_tab _ _ _ hj]
  have HXD := Lib.hid hx
  have HYD := Lib.hid hy
  obtain ⟨N, hN⟩ : ∃ N, N = k + k := ⟨_, rfl⟩
  have hN' : (k : Int) + (k : Int) = (N : Int) := by omega
  have hmk := mk_ints N (by omega) w
  have hN1 : N ≤ k + k := by omega
  have hN2 : k + k ≤ N := by omega
  rw [← hN]
  clear hN ra rb hc1 hc2 hx hy
  have H0 : Hid (OwnF w (w.alloc (.cells (madeCells #[.int .i64 0] N) 3)) w.heap.size N N (prR p k x y 0)) := ⟨(Ext.refl w).alloc _, by
    have h := RowOf.made w N (by omega) (b := w.heap.size) rfl
    rw [tab_zero] at h
    exact h⟩
  go_enter Tryd.func28, Tryd.ntmps28
  go_wp2
  obtain ⟨g, hg⟩ : ∃ g, g = w.heap.size := ⟨_, rfl⟩
  obtain ⟨w1, hw1⟩ : ∃ w1, w1 = w.alloc (.cells (madeCells #[.int .i64 0] N) 3) := ⟨_, rfl⟩
  rw [← hw1, ← hg] at H0
  rw [← hw1, ← hg]
  clear hw1 hg hmk
  go_loopw [8] (fun a wr => ∃ i : Nat, i ≤ k ∧ a = .int .i64 i ∧ OwnF w wr g N N (prR p k x y i)) (fun a _ => k - (intOf a).toNat)
  case atStart => exact ⟨0, by omega, rfl, H0.out⟩
  case round =>
    obtain ⟨i, hi, rfl, ho⟩ := hrel
    have HO := Lib.hid ho
    clear ho H0
    by_cases hik : i < k
    · obtain ⟨F, hF⟩ : ∃ F, prR p k x y i = F := ⟨_, rfl⟩
      have HFD : Hid (Dig2 p F) := by rw [← hF]; exact prR_dig (by omega) x y i
      have HNX : Hid (prR p k x y (i + 1) = prI p i (x i) y F k) := by rw [← hF]; rfl
      rw [hF] at HO
      clear hF
      obtain ⟨wo, rfl⟩ : ∃ wo : World, wo = wr := ⟨_, rfl⟩
      go_wp2
      have H2 : Hid (OwnF w wo g N N (prI p i (x i) y F 0)) := HO.out
      go_loopw [9] (fun a wr => ∃ j : Nat, j ≤ k ∧ a = .int .i64 j ∧ OwnF w wr g N N (prI p i (x i) y F j)) (fun a _ => k - (intOf a).toNat)
      case atStart => exact ⟨0, by omega, rfl, H2.out⟩
      case round =>
        obtain ⟨j, hj, rfl, ho⟩ := hrel
        have HO2 := Lib.hid ho
        clear ho H2 HO
        by_cases hjk : j < k
        · obtain ⟨q, hq⟩ : ∃ q, i + j = q := ⟨_, rfl⟩
          have hq' : (i : Int) + j = q := by omega
          have t1 := HO2.out.at (j := q) (by omega)
          have t2 := HO2.out.f q
          have t3 := (HO2.out.ext.cell hb1).trans (HC1.out i hik)
          have t4 := (HO2.out.ext.cell hb2).trans (HC2.out j hjk)
          have ho := prI_dig (i := i) (x := x i) (y := y) (by omega) HFD.out j q
          have HN : Hid (OwnF w (wr.setCell ⟨g, q, none⟩ (.int .i64 ((prI p i (x i) y F j q + x i * y j) % p))) g N N (prI p i (x i) y F (j + 1))) := by
            have := HO2.out.set (j := q) (by omega) ((prI p i (x i) y F j q + x i * y j) % p)
            rw [← hq] at this ⊢
            exact this
          have hxb := HXD.out i
          have hyb := HYD.out j
          obtain ⟨o, hoo⟩ : ∃ o, prI p i (x i) y F j q = o := ⟨_, rfl⟩
          obtain ⟨x', hxx⟩ : ∃ x', x i = x' := ⟨_, rfl⟩
          obtain ⟨y', hyy⟩ : ∃ y', y j = y' := ⟨_, rfl⟩
          rw [hoo] at t1 HN ho
          rw [hxx] at t3 HN hxb
          rw [hyy] at t4 HN hyb
          rw [hxx]
          obtain ⟨hx1, hx2⟩ := hxb
          obtain ⟨ho1, ho2⟩ := ho
          obtain ⟨hy1, hy2⟩ := hyb
          have hm1 : 0 ≤ x' * y' := Int.mul_nonneg (by omega) (by omega)
          have hm2 : x' * y' ≤ 61 * 61 := Int.mul_le_mul (by omega) (by omega) (by omega) (by omega)
          obtain ⟨z, hz⟩ : ∃ z, x' * y' = z := ⟨_, rfl⟩
          rw [hz] at hm1 hm2 HN
          have hqa : (0 : Int) ≤ (q : Int) := by omega
          have hqb : (q : Int) < N := by omega
          clear hoo hxx hyy hq
          obtain ⟨wq, rfl⟩ : ∃ wq : World, wq = wr := ⟨_, rfl⟩
          go_wp2
          go_region
          all_goals
            go_wp2
            exact ⟨⟨j + 1, by omega, by go_num, HN.out.drew⟩, by simp [intOf]; omega⟩
        · obtain rfl : k = j := by omega
          go_wp2
          exact ⟨⟨i + 1, by omega, by go_num, by rw [HNX.out]; exact HO2.out⟩, by simp [intOf]; omega⟩
    · obtain rfl : k = i := by omega
      go_wp2
      go_ret
      exact ⟨g, N, rfl, HO.out⟩

end Go.Proofs.YtnfonobdfkpkeaaDoor
