/- What parterreref1.Times answers. No conditions. -/
import Derived.Test.YtnfonobdfkpkeaaDoorRSum
import Derived.Deep.QuietTactic
namespace Go.Proofs.YtnfonobdfkpkeaaDoor
open Go.RowKit

theorem tmod_mod (x : Int) (p : Nat) (hp : 0 < p) : -(p : Int) < x.tmod p ∧ x.tmod p < p ∧ (x.tmod p + p) % p = x % p := by
  have h1 := Int.tmod_lt_of_pos x (show (0 : Int) < p by omega)
  have h2 : -(p : Int) < x.tmod p := by
    exact Int.lt_tmod_of_pos x (show (0 : Int) < p by omega)
  refine ⟨h2, h1, ?_⟩
  have h3 : Cg p (x.tmod p + p) x := ⟨1 - x.tdiv p, by
    have := Int.tmod_add_mul_tdiv x p
    rw [Int.mul_sub]; omega⟩
  exact h3.emod

set_option maxHeartbeats 8000000 in
set_option maxRecDepth 100000 in
theorem timesOf_any (p k a b : Nat) (ao : Option Addr) (cap : Nat) (low : List Int) (w : World) (h2 : 2 ≤ p) (h61 : p ≤ 61) (hk1 : 1 ≤ k) (hk6 : k ≤ 6) (h64 : p ^ k ≤ 64) (ha : a < 128) (hb : b < 128) (hl : low.length = k) (hr : Reads w ao (ints low)) (hld : Dig p (nth low)) :
    Calls Tryd.prog 19 #[.agg #[.int .i64 p, .int .i64 k, .slice ao k cap], .int .i64 a, .int .i64 b] w fun e w' => e = .returned (.int .i64 (mulF p k (nth low) a b : Nat)) ∧ Ext w w' := by
  obtain ⟨bl, ol, rfl, hbl, hcl⟩ := Reads.int hr (by omega)
  have HCL := Lib.hid hcl
  have HL := Lib.hid hl
  have HLD := Lib.hid hld
  have HA : Hid (∀ w, _) := fun w => digitsOf_any p a k w h2 h61 ha (by omega)
  have HB : Hid (∀ w, _) := fun w => digitsOf_any p b k w h2 h61 hb (by omega)
  have H0 : Hid (Blk (w.alloc (.cells #[.int .i64 p, .int .i64 k, .slice (some ⟨bl, ol, none⟩) k cap] 24)) w.heap.size #[.int .i64 p, .int .i64 k, .slice (some ⟨bl, ol, none⟩) k cap] 24) := Blk.new _ _ _
  have HX0 : Hid (Ext w (w.alloc (.cells #[.int .i64 p, .int .i64 k, .slice (some ⟨bl, ol, none⟩) k cap] 24))) := (Ext.refl w).alloc _
  clear hr hcl hl hld
  go_enter Tryd.func19, Tryd.ntmps19
  go_wp2_with fail
  obtain ⟨w0, hw0⟩ : ∃ w0, w0 = w.alloc (.cells #[.int .i64 p, .int .i64 k, .slice (some ⟨bl, ol, none⟩) k cap] 24) := ⟨_, rfl⟩
  rw [← hw0] at H0 HX0 ⊢
  clear hw0
  refine Calls.mono (HA.out _) ?_
  rintro e w1 ⟨v1, rfl, ho⟩
  obtain ⟨g1, c1, rfl, hof⟩ := ho.f (by omega)
  have O1 := Lib.hid hof
  have F1 := Lib.hid (H0.out.ext hof.ext)
  obtain ⟨t1, t2, t3⟩ := F1.out.three
  clear ho hof
  go_wp2_with fail
  refine Calls.mono (HB.out _) ?_
  rintro e w2 ⟨v2, rfl, ho⟩
  obtain ⟨g2, c2, rfl, hof⟩ := ho.f (by omega)
  have O2 := Lib.hid hof
  have O1' := Lib.hid (O1.out.carry hof.ext)
  have F2 := Lib.hid (F1.out.ext hof.ext)
  have HX2 := Lib.hid ((HX0.out.trans O1.out.ext).trans hof.ext)
  clear ho hof t1 t2 t3
  obtain ⟨t1, t2, t3⟩ := F2.out.three
  have HPR := Lib.hid (productOf_any p k (dgI p a) (dgI p b) (some ⟨g1, 0, none⟩) (some ⟨g2, 0, none⟩) c1 c2 w2 h2 h61 hk1 hk6 (dgI_dig (by omega) a) (dgI_dig (by omega) b) O1'.out.reads O2.out.reads)
  go_wp2_with fail
  refine Calls.mono HPR.out ?_
  rintro e w3 ⟨g, cz, rfl, ho⟩
  have O3 := Lib.hid ho
  clear ho t1 t2 t3
  obtain ⟨N, hN⟩ : ∃ N, N = k + k := ⟨_, rfl⟩
  have HNE := Lib.hid hN
  have hN1 : N ≤ k + k := by omega
  have hN2 : k + k ≤ N := by omega
  rw [← hN] at O3
  rw [← hN]
  clear hN HPR
  have hwg : w.heap.size < g := by have := O3.out.lt.1; have := F2.out.lt; omega
  have hz0 := prR_dig (p := p) (k := k) (by omega) (dgI p a) (dgI p b) k
  have HREF : Hid (refZ p k (nth low) a b = rdS p k N (nth low) (prR p k (dgI p a) (dgI p b) k) k) := by show _ = _; rw [HNE.out]; rfl
  obtain ⟨Z, hZ⟩ : ∃ Z, prR p k (dgI p a) (dgI p b) k = Z := ⟨_, rfl⟩
  rw [hZ] at O3 HREF hz0
  have HZ0 := Lib.hid hz0
  clear hZ hz0
  obtain ⟨t1, t2, t3⟩ := (F2.out.ext O3.out.ext).three
  go_wp2
  clear t1 t2 t3
  go_loopw [10] (fun x wr => ∃ c : Nat, c ≤ k ∧ x = .int .i64 ((N : Int) - 1 - c) ∧ OwnF w2 wr g N cz (rdS p k N (nth low) Z c)) (fun x _ => (intOf x + 1).toNat)
  case atStart => exact ⟨0, by omega, by simp, O3.out⟩
  case round =>
    obtain ⟨c, hc, rfl, ho⟩ := hrel
    have HO := Lib.hid ho
    clear ho O3
    obtain ⟨t1, t2, t3⟩ := (F2.out.ext HO.out.ext).three
    by_cases hck : c < k
    · obtain ⟨i, hi⟩ : ∃ i, N - 1 - c = i := ⟨_, rfl⟩
      have hi' : (N : Int) - 1 - c = i := by omega
      have hiN : i < N := by omega
      have hki : k ≤ i := by omega
      obtain ⟨F, hF⟩ : ∃ F, rdS p k N (nth low) Z c = F := ⟨_, rfl⟩
      have HFD : Hid (Dig2 p F) := by rw [← hF]; exact rdS_dig (by omega) HZ0.out c
      have HNX : Hid (rdS p k N (nth low) Z (c + 1) = rdI p k i (F i) (nth low) F k) := by rw [← hF, ← hi]; rfl
      rw [hF] at HO
      have t4 := HO.out.at hiN
      have t5 := HO.out.f i
      have hvb := HFD.out i
      have HO1 := Lib.hid (HO.out.set hiN 0)
      obtain ⟨v, hv⟩ : ∃ v, F i = v := ⟨_, rfl⟩
      rw [hv] at t4 hvb HNX
      obtain ⟨hv1, hv2⟩ := hvb
      have hia : (0 : Int) ≤ (i : Int) := by omega
      have hib : (i : Int) < N := by omega
      have bT : decide (k ≤ i) = true := decide_eq_true hki
      have HJ : Hid ((i : Int) - 1 = (N : Int) - 1 - (c + 1 : Nat)) := by show _ = _; omega
      rw [hi']
      clear hi hi' hF hv
      obtain ⟨wo, rfl⟩ : ∃ wo : World, wo = wr := ⟨_, rfl⟩
      go_wp2
      obtain ⟨wp, hwp⟩ : ∃ wp, wp = wo.setCell ⟨g, i, none⟩ (.int .i64 0) := ⟨_, rfl⟩
      rw [← hwp] at HO1 ⊢
      clear hwp t1 t2 t3 t4 t5
      have H2 : Hid (OwnF w2 wp g N cz (rdI p k i v (nth low) F 0)) := HO1.out
      go_loopw [12] (fun x wr => ∃ j : Nat, j ≤ k ∧ x = .int .i64 j ∧ OwnF w2 wr g N cz (rdI p k i v (nth low) F j)) (fun x _ => k - (intOf x).toNat)
      case atStart => exact ⟨0, by omega, rfl, H2.out⟩
      case round =>
        obtain ⟨j, hj, rfl, ho⟩ := hrel
        have HO2 := Lib.hid ho
        clear ho H2 HO HO1
        obtain ⟨t1, t2, t3⟩ := (F2.out.ext HO2.out.ext).three
        by_cases hjk : j < k
        · have bJ : decide (j < k) = true := decide_eq_true hjk
          obtain ⟨q, hq⟩ : ∃ q, i - k + j = q := ⟨_, rfl⟩
          have hq' : (i : Int) - k + j = q := by omega
          have t4 := HO2.out.at (j := q) (by omega)
          have t5 := HO2.out.f q
          have t6 := ((HX2.out.trans HO2.out.ext).cell hbl).trans (HCL.out j (by rw [HL.out]; exact hjk))
          have hyb := rdI_dig (k := k) (i := i) (c := v) (low := nth low) (by omega) HFD.out j q
          have hlb := HLD.out j
          have HN : Hid (OwnF w2 (wr.setCell ⟨g, q, none⟩ (.int .i64 ((rdI p k i v (nth low) F j q - v * nth low j) % p))) g N cz (rdI p k i v (nth low) F (j + 1))) := by
            have := HO2.out.set (j := q) (by omega) ((rdI p k i v (nth low) F j q - v * nth low j) % p)
            rw [← hq] at this ⊢
            exact this
          obtain ⟨y, hy⟩ : ∃ y, rdI p k i v (nth low) F j q = y := ⟨_, rfl⟩
          obtain ⟨l, hl⟩ : ∃ l, nth low j = l := ⟨_, rfl⟩
          rw [hy] at t4 HN hyb
          rw [hl] at t6 HN hlb
          obtain ⟨hy1, hy2⟩ := hyb
          obtain ⟨hl1, hl2⟩ := hlb
          have hm1 : 0 ≤ v * l := Int.mul_nonneg (by omega) (by omega)
          have hm2 : v * l ≤ 61 * 61 := Int.mul_le_mul (by omega) (by omega) (by omega) (by omega)
          obtain ⟨z, hz⟩ : ∃ z, v * l = z := ⟨_, rfl⟩
          rw [hz] at hm1 hm2 HN
          obtain ⟨ht1, ht2, ht3⟩ := tmod_mod (y - z) p (by omega)
          obtain ⟨t, ht⟩ : ∃ t, (y - z).tmod p = t := ⟨_, rfl⟩
          rw [ht] at ht1 ht2 ht3
          have ht4 : (t + (p : Int)) % p = t % p := by simp
          rw [← ht3, ht4] at HN
          clear ht4
          have hqa : (0 : Int) ≤ (q : Int) := by omega
          have hqb : (q : Int) < N := by omega
          have hja : (0 : Int) ≤ (j : Int) := by omega
          have hjb : (j : Int) < k := by omega
          clear hy hl hq ht3
          obtain ⟨wq, rfl⟩ : ∃ wq : World, wq = wr := ⟨_, rfl⟩
          go_wp2
          go_region
          all_goals
            go_wp2
            exact ⟨⟨j + 1, by omega, by go_num, HN.out.drew⟩, by simp [intOf]; omega⟩
        · have bJ : decide (j < k) = false := decide_eq_false hjk
          obtain rfl : k = j := by omega
          go_wp2
          exact ⟨⟨c + 1, by omega, by rw [HJ.out], by rw [HNX.out]; exact HO2.out⟩, by simp [intOf] <;> omega⟩
    · obtain rfl : k = c := by omega
      have hm : (N : Int) - 1 - k = (k : Int) - 1 := by omega
      rw [hm]
      rw [← HREF.out] at HO
      have hrd : Reads wr (some ⟨g, 0, none⟩) (ints (tab (refZ p k (nth low) a b) k)) := .inr ⟨g, 0, rfl, HO.out.lt.2, fun j u hu => by
        have hj : j < k := by have := (List.getElem?_eq_some_iff.1 hu).1; rwa [ints_length, tab_length] at this
        rw [ints_get _ _ (by rw [tab_length]; exact hj), nth_tab _ _ _ hj] at hu
        rw [Nat.zero_add, ← hu]; exact HO.out.at (by omega)⟩
      have HNUM : Hid (∀ w', Drawn wr w' → Calls Tryd.prog 29 #[.slice (some ⟨g, 0, none⟩) k cz, .int .i64 p] w' fun e w'' => e = .returned (.int .i64 (mulF p k (nth low) a b : Nat)) ∧ Drawn w' w'') := fun w' hd =>
        (numberOf_any p k (some ⟨g, 0, none⟩) cz (tab (refZ p k (nth low) a b) k) (fun m => (refZ p k (nth low) a b m).toNat) w' h2 h61 hk1 hk6 h64 (fun m => by have := refZ_dig (p := p) (k := k) (low := nth low) (by omega) a b m; omega) (tab_length _ _)
          (fun m hm => by rw [nth_tab _ _ _ hm]; have := refZ_dig (p := p) (k := k) (low := nth low) (by omega) a b m; omega) (hd.ext.reads hrd)).mono fun e w'' h => ⟨by rw [h.1, refZ_num (by omega) hk1 a b], by rw [← h.2]; exact Drawn.refl _⟩
      have HXE := Lib.hid (HX2.out.trans HO.out.ext)
      have hcz : N ≤ cz := by
        rcases HO.out.row.2 with ⟨h1, _⟩ | ⟨g', c', cur, h1, _, _, _, h4, _⟩
        · cases h1
        · simp only [Value.slice.injEq] at h1; omega
      have bT : decide ((k : Int) ≤ (k : Int) - 1) = false := decide_eq_false (by omega)
      clear hrd hm
      go_wp2_with fail
      go_quiet ((go_at_call 29; exact Calls.quiet_of (HNUM.out _ (Drawn.drewN _ _))))
      go_wp2
      go_ret
      exact ⟨rfl, HXE.out.drewN _⟩

end Go.Proofs.YtnfonobdfkpkeaaDoor
