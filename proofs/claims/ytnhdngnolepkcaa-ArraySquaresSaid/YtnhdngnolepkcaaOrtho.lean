/- What latin.Orthogonal answers at any two squares. -/
import Derived.Test.YtnhdngnolepkcaaLatinCheck
import Derived.Test.YtnhdngnolepkcaaSquaresLaw
namespace Go.Proofs.Ytnhdngnolepkcaa
open Go.RowKit

/-- What is answered. -/
def OrthoPost (m m' : Int) (xs ys : List Int) (e : Ending) : Prop := ∃ (v : Bool) (c : Int), e = .returned (.tuple #[.bool v, .int .i64 c]) ∧ (c = 0 → ∃ n : Nat, m = n ∧ m' = n ∧ IsLatin n xs ∧ IsLatin n ys ∧ (v = true ↔ Ortho xs ys (n * n)))

/-- Has a pair stood there? -/
def pairSeen (xs ys : List Int) (k q : Nat) : Bool := (List.range k).any fun i => nth xs i == ((q / 8 : Nat) : Int) && nth ys i == ((q % 8 : Nat) : Int)
theorem pairSeen_true {xs ys : List Int} {k c d : Nat} (hd : d < 8) : pairSeen xs ys k (c * 8 + d) = true ↔ ∃ i, i < k ∧ nth xs i = (c : Int) ∧ nth ys i = (d : Int) := by
  unfold pairSeen
  rw [(at8 hd).1, (at8 hd).2]
  simp [List.any_eq_true]
theorem pairSeen_succ {xs ys : List Int} {k c d : Nat} (hd : d < 8) (hx : nth xs k = (c : Int)) (hy : nth ys k = (d : Int)) (q : Nat) : pairSeen xs ys (k + 1) q = if q = c * 8 + d then true else pairSeen xs ys k q := by
  by_cases h : q = c * 8 + d
  · rw [if_pos h, h, pairSeen_true hd]; exact ⟨k, by omega, hx, hy⟩
  · rw [if_neg h]
    unfold pairSeen
    rw [List.range_succ, List.any_append]
    have : ((nth xs k == ((q / 8 : Nat) : Int)) && (nth ys k == ((q % 8 : Nat) : Int))) = false := by
      rw [Bool.and_eq_false_iff, beq_eq_false_iff_ne, beq_eq_false_iff_ne, hx, hy]
      by_cases h1 : c = q / 8
      · right; intro h2; apply h; omega
      · exact .inl (by omega)
    rw [List.any_cons, this]; simp

/-- A round's world. -/
structure OrSt (w wr : World) (B : Nat) (xs ys : List Int) (k : Nat) : Prop where
  ext : Ext w wr
  seen : Blk wr B (bools (pairSeen xs ys k) 64) 38
  orth : Ortho xs ys k
theorem OrSt.start {w w0 : World} (h : Ext w w0) (xs ys : List Int) : OrSt w (w0.alloc (.cells (bools (fun _ => false) 64) 38)) w0.heap.size xs ys 0 := by
  have e1 : bools (pairSeen xs ys 0) 64 = bools (fun _ => false) 64 := bools_congr _ _ _ fun q _ => by simp [pairSeen]
  refine ⟨h.alloc _, ?_, fun i j _ h => by omega⟩
  rw [e1]; exact Blk.new _ _ _
theorem OrSt.drew {w wr : World} {B : Nat} {xs ys : List Int} {k : Nat} (h : OrSt w wr B xs ys k) : OrSt w wr.drew B xs ys k := ⟨h.ext.drew, h.seen.drew, h.orth⟩
theorem OrSt.next {w wr : World} {B : Nat} {xs ys : List Int} {k c d : Nat} (h : OrSt w wr B xs ys k) (hB : w.heap.size ≤ B) (hd : d < 8) (hx : nth xs k = (c : Int)) (hy : nth ys k = (d : Int)) (h1 : pairSeen xs ys k (c * 8 + d) = false) :
    OrSt w (wr.setCell ⟨B, c * 8 + d, none⟩ (.bool true)) B xs ys (k + 1) := by
  refine ⟨h.ext.set hB _, ?_, ?_⟩
  · have := h.seen.set (c * 8 + d) (.bool true)
    rw [bools_set] at this
    rw [bools_congr (pairSeen xs ys (k + 1)) _ 64 (fun q _ => pairSeen_succ hd hx hy q)]
    exact this
  · rintro i j hij hj ⟨e1, e2⟩
    rcases Nat.lt_succ_iff_lt_or_eq.1 hj with h2 | rfl
    · exact h.orth i j hij h2 ⟨e1, e2⟩
    · have := (pairSeen_true (xs := xs) (ys := ys) (k := j) (c := c) hd).2 ⟨i, hij, by rw [e1, hx], by rw [e2, hy]⟩
      rw [h1] at this; simp at this

set_option maxHeartbeats 4000000 in
theorem orthogonal_any (m m' : Int) (ao bo : Option Addr) (len cap len' cap' : Nat) (xs ys : List Int) (w : World) (hl : xs.length = len) (hl' : ys.length = len') (hbig : len ≤ maxLen) (hbig' : len' ≤ maxLen) (ra : Reads w ao (ints xs)) (rb : Reads w bo (ints ys)) :
    Calls Try.prog 5 #[.agg #[.int .i64 m, .slice ao len cap], .agg #[.int .i64 m', .slice bo len' cap']] w fun e w' => OrthoPost m m' xs ys e ∧ Ext w w' := by
  have HC1 : Hid (∀ w', Ext w w' → _) := fun w' hx => latinCheck_any m ao len cap xs w' hl (hx.reads ra)
  have HC2 : Hid (∀ w', Ext w w' → _) := fun w' hx => latinCheck_any m' bo len' cap' ys w' hl' (hx.reads rb)
  have HE : Hid (Ext w ((w.alloc (.cells #[.int .i64 m, .slice ao len cap] 24)).alloc (.cells #[.int .i64 m', .slice bo len' cap'] 24))) := ext_box2 _ _ _ _ _
  have HB1 : Hid (Blk ((w.alloc (.cells #[.int .i64 m, .slice ao len cap] 24)).alloc (.cells #[.int .i64 m', .slice bo len' cap'] 24)) w.heap.size #[.int .i64 m, .slice ao len cap] 24) := (Blk.new _ _ _).alloc _
  have HB2 : Hid (Blk ((w.alloc (.cells #[.int .i64 m, .slice ao len cap] 24)).alloc (.cells #[.int .i64 m', .slice bo len' cap'] 24)) (w.heap.size + 1) #[.int .i64 m', .slice bo len' cap'] 24) := Blk.new' _ _ _ (by simp)
  obtain ⟨w0, hw0⟩ : ∃ w0, w0 = (w.alloc (.cells #[.int .i64 m, .slice ao len cap] 24)).alloc (.cells #[.int .i64 m', .slice bo len' cap'] 24) := ⟨_, rfl⟩
  rw [← hw0] at HE HB1 HB2
  have RA := Lib.hid ra
  have RB := Lib.hid rb
  have HL := Lib.hid hl
  have HL' := Lib.hid hl'
  clear ra rb hl hl'
  unfold maxLen at hbig hbig'
  obtain ⟨c1, hc1⟩ : ∃ c, latinFaultOf m xs = c := ⟨_, rfl⟩
  obtain ⟨c2, hc2⟩ : ∃ c, latinFaultOf m' ys = c := ⟨_, rfl⟩
  rw [hc1] at HC1
  rw [hc2] at HC2
  have H1 := Lib.hid hc1
  have H2 := Lib.hid hc2
  clear hc1 hc2
  have k1 := HB1.out.two
  have k2 := HB2.out.two
  have hw0' := Lib.hid hw0
  by_cases z1 : c1 = 0
  · subst z1
    obtain ⟨n, rfl, hX⟩ := latinFaultOf_zero H1.out
    by_cases z2 : c2 = 0
    · subst z2
      obtain ⟨n', rfl, hY⟩ := latinFaultOf_zero H2.out
      have HX := Lib.hid hX
      have HY := Lib.hid hY
      have h8 := hX.big
      have h1 := hX.one
      have h8' := hY.big
      have hlen : len = n * n := by rw [← HL.out]; exact hX.len
      have h64 : len ≤ 64 := by rw [hlen]; exact Nat.mul_le_mul h8 h8
      have HLN := Lib.hid hlen
      have hpos : 0 < len := by rw [hlen]; exact Nat.mul_pos h1 h1
      clear hX hY hlen
      by_cases hnn : n = n'
      · subst hnn
        obtain ⟨b, off, rfl, hb, hc⟩ := Reads.int RA.out (by rw [HL.out]; exact hpos)
        have hl2 : len' = len := by rw [← HL'.out, HLN.out]; exact HY.out.len
        subst hl2
        obtain ⟨b', off', rfl, hb', hc'⟩ := Reads.int RB.out (by rw [HL'.out]; exact hpos)
        have HCA := Lib.hid hc
        have HCB := Lib.hid hc'
        have bn : ((n : Int) != (n : Int)) = false := by simp
        clear hc hc'
        go_enter Try.func5, Try.ntmps5
        go_wp2_with fail
        rw [← hw0]
        clear hw0
        refine Calls.mono (HC1.out _ HE.out) ?_
        rintro e w1 ⟨rfl, hx⟩
        have k3 := (HB1.out.ext hx).two
        have k4 := (HB2.out.ext hx).two
        have HX1 := Lib.hid (HE.out.trans hx)
        have HN1 := Lib.hid hx
        clear hx k1 k2
        go_wp2_with fail
        refine Calls.mono (HC2.out _ HX1.out) ?_
        rintro e w2 ⟨rfl, hx⟩
        have k5 := (HB1.out.ext (HN1.out.trans hx)).two
        have k6 := (HB2.out.ext (HN1.out.trans hx)).two
        have HX2 := Lib.hid (HX1.out.trans hx)
        have G1 := Lib.hid (HB1.out.ext (HN1.out.trans hx))
        have G2 := Lib.hid (HB2.out.ext (HN1.out.trans hx))
        clear hx k3 k4
        have hlt2 : w.heap.size + 1 < w2.heap.size := G2.out.lt
        have k7 : ∀ o, (w2.alloc o).cell? ⟨w.heap.size, 1, none⟩ = some (.slice (some ⟨b, off, none⟩) len' cap) := fun o => (G1.out.alloc o).two.2
        go_wp2
        rw [falses]
        have H0 := Lib.hid (OrSt.start HX2.out xs ys)
        obtain ⟨B, hBB⟩ : ∃ B, B = w2.heap.size := ⟨_, rfl⟩
        obtain ⟨w3, hw3⟩ : ∃ w3, w3 = w2.alloc (.cells (bools (fun _ => false) 64) 38) := ⟨_, rfl⟩
        have HX3 : Hid (Ext w2 w3) := by show Ext w2 w3; rw [hw3]; exact (Ext.refl w2).alloc _
        rw [← hw3] at H0 ⊢
        rw [← hBB] at H0 hlt2 ⊢
        have HBB := Lib.hid hBB
        clear hw3 hBB k5 k6 k7
        go_loopw [30] (fun a wr => ∃ k : Nat, k ≤ len' ∧ a = .int .i64 k ∧ OrSt w wr B xs ys k ∧ Ext w2 wr) (fun a _ => len' - (intOf a).toNat)
        case atStart => exact ⟨0, by omega, rfl, H0.out, HX3.out⟩
        case round =>
          obtain ⟨k, hk, rfl, hst, hx3⟩ := hrel
          have HS := Lib.hid hst
          have HX4 := Lib.hid hx3
          clear hst hx3 H0
          by_cases hlt : k < len'
          · have k0 := (HS.out.ext.cell hb).trans (HCA.out k (by rw [HL.out]; exact hlt))
            have k0' := (HS.out.ext.cell hb').trans (HCB.out k (by rw [HL'.out]; exact hlt))
            obtain ⟨k7, k8⟩ := (G2.out.ext HX4.out).two
            have hx0 := HX.out.at k (by have := HLN.out; omega)
            have hy0 := HY.out.at k (by have := HLN.out; omega)
            obtain ⟨c, hcc⟩ : ∃ c : Nat, nth xs k = c := ⟨(nth xs k).toNat, by omega⟩
            obtain ⟨d, hdd⟩ : ∃ d : Nat, nth ys k = d := ⟨(nth ys k).toNat, by omega⟩
            rw [hcc] at k0 hx0
            rw [hdd] at k0' hy0
            have hc8 : c < 8 := by omega
            have hd8 : d < 8 := by omega
            have HR1 := HS.out.seen.c (c * 8 + d) _ (bools_get _ 64 _ (by omega))
            have HF1 := HS.out.seen.f (c * 8 + d)
            have HN : Hid (pairSeen xs ys k (c * 8 + d) = false → OrSt w (wr.setCell ⟨B, c * 8 + d, none⟩ (.bool true)) B xs ys (k + 1)) := fun e => HS.out.next (by omega) hd8 hcc hdd e
            have HYE : Hid (pairSeen xs ys k (c * 8 + d) = true → ¬ Ortho xs ys (n * n)) := fun h ho => by
              obtain ⟨i, i1, i2, i3⟩ := (pairSeen_true hd8).1 h
              exact ho i k i1 (by have := HLN.out; omega) ⟨by rw [i2, hcc], by rw [i3, hdd]⟩
            have HXN : Hid (Ext w2 (wr.setCell ⟨B, c * 8 + d, none⟩ (.bool true))) := HX4.out.set (by rw [HBB.out]; exact Nat.le_refl _) _
            clear hcc hdd hx0 hy0
            have x0 := HS.out.seen.lt
            cases hb1 : pairSeen xs ys k (c * 8 + d) with
            | true =>
              rw [hb1] at HR1
              have HNO := Lib.hid (HYE.out hb1)
              clear hb1
              go_wp2
              exact bodyPost_ret (v := .tuple #[.bool false, .int .i64 0]) (by simp [results, Try.results5, go_sem]) rfl ⟨⟨false, 0, rfl, fun _ => ⟨n, rfl, rfl, HX.out, HY.out, by simp [HNO.out]⟩⟩, HS.out.ext⟩
            | false =>
              rw [hb1] at HR1
              have HNX := Lib.hid (HN.out hb1)
              clear hb1
              go_wp2
              go_roundw
              case rel => exact ⟨k + 1, by omega, by go_num, HNX.out, HXN.out⟩
              case measure => simp [intOf]; omega
          · obtain rfl : len' = k := by omega
            go_wp2
            exact bodyPost_ret (v := .tuple #[.bool true, .int .i64 0]) (by simp [results, Try.results5, go_sem]) rfl ⟨⟨true, 0, rfl, fun _ => ⟨n, rfl, rfl, HX.out, HY.out, by simp [← HLN.out, HS.out.orth]⟩⟩, HS.out.ext⟩
      · have bn : ((n : Int) != (n' : Int)) = true := by rw [bne_iff_ne]; omega
        clear hnn
        go_enter Try.func5, Try.ntmps5
        go_wp2_with fail
        rw [← hw0]
        clear hw0
        refine Calls.mono (HC1.out _ HE.out) ?_
        rintro e w1 ⟨rfl, hx⟩
        have k3 := (HB1.out.ext hx).two
        have k4 := (HB2.out.ext hx).two
        have HX1 := Lib.hid (HE.out.trans hx)
        have HN1 := Lib.hid hx
        clear hx k1 k2
        go_wp2_with fail
        refine Calls.mono (HC2.out _ HX1.out) ?_
        rintro e w2 ⟨rfl, hx⟩
        have k5 := (HB1.out.ext (HN1.out.trans hx)).two
        have k6 := (HB2.out.ext (HN1.out.trans hx)).two
        have HX2 := Lib.hid (HX1.out.trans hx)
        have G1 := Lib.hid (HB1.out.ext (HN1.out.trans hx))
        have G2 := Lib.hid (HB2.out.ext (HN1.out.trans hx))
        clear hx k3 k4
        go_wp2
        exact bodyPost_ret (v := .tuple #[.bool false, .int .i64 2]) (by simp [results, Try.results5, go_sem]) rfl ⟨⟨false, 2, rfl, fun h => by cases h⟩, HX2.out⟩
    · have b2 : (c2 != 0) = true := by rw [bne_iff_ne]; exact z2
      have HZ := Lib.hid z2
      clear z2
      go_enter Try.func5, Try.ntmps5
      go_wp2_with fail
      rw [← hw0]
      clear hw0
      refine Calls.mono (HC1.out _ HE.out) ?_
      rintro e w1 ⟨rfl, hx⟩
      have k3 := (HB1.out.ext hx).two
      have k4 := (HB2.out.ext hx).two
      have HX1 := Lib.hid (HE.out.trans hx)
      have HN1 := Lib.hid hx
      clear hx k1 k2
      go_wp2_with fail
      refine Calls.mono (HC2.out _ HX1.out) ?_
      rintro e w2 ⟨rfl, hx⟩
      have k5 := (HB1.out.ext (HN1.out.trans hx)).two
      have k6 := (HB2.out.ext (HN1.out.trans hx)).two
      have HX2 := Lib.hid (HX1.out.trans hx)
      have G1 := Lib.hid (HB1.out.ext (HN1.out.trans hx))
      have G2 := Lib.hid (HB2.out.ext (HN1.out.trans hx))
      clear hx k3 k4
      go_wp2
      exact bodyPost_ret (v := .tuple #[.bool false, .int .i64 c2]) (by simp [results, Try.results5, go_sem]) rfl ⟨⟨false, c2, rfl, fun h => absurd h HZ.out⟩, HX2.out⟩
  · have b1 : (c1 != 0) = true := by rw [bne_iff_ne]; exact z1
    have HZ := Lib.hid z1
    clear z1
    go_enter Try.func5, Try.ntmps5
    go_wp2_with fail
    rw [← hw0]
    clear hw0
    refine Calls.mono (HC1.out _ HE.out) ?_
    rintro e w1 ⟨rfl, hx⟩
    have k3 := (HB1.out.ext hx).two
    have k4 := (HB2.out.ext hx).two
    have HX1 := Lib.hid (HE.out.trans hx)
    have HN1 := Lib.hid hx
    clear hx k1 k2
    go_wp2
    exact bodyPost_ret (v := .tuple #[.bool false, .int .i64 c1]) (by simp [results, Try.results5, go_sem]) rfl ⟨⟨false, c1, rfl, fun h => absurd h HZ.out⟩, HX1.out⟩

end Go.Proofs.Ytnhdngnolepkcaa
