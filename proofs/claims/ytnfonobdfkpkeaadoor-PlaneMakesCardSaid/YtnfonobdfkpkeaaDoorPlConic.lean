/- What plane.Conic answers. Condition: primes. -/
import Derived.Test.YtnfonobdfkpkeaaDoorPlMake
namespace Go.Proofs.YtnfonobdfkpkeaaDoor
open Go.RowKit
set_option linter.unusedVariables false

set_option maxHeartbeats 1000000 in
theorem plConic_bad (p k : Int) (ao : Option Addr) (len cap : Nat) (w : World) (c : Int) (hc : c ≠ 0)
    (ho : ∀ W, Ext w W → Calls Tryd.prog 13 #[.agg #[.int .i64 p, .int .i64 k, .slice ao len cap]] W fun e w' => e = .returned (.tuple #[.int .i64 0, .int .i64 c]) ∧ Ext W w') :
    Calls Tryd.prog 6 #[.agg #[.int .i64 p, .int .i64 k, .slice ao len cap]] w fun e w' => e = .returned (.tuple #[.slice none 0 0, .int .i64 c]) ∧ Ext w w' := by
  have E := Lib.hid (ext_box w #[.int .i64 p, .int .i64 k, .slice ao len cap] 24)
  have HO := Lib.hid (ho _ E.out)
  have b0 : (c != 0) = true := by rw [bne_iff_ne]; exact hc
  clear ho hc
  go_enter Tryd.func6, Tryd.ntmps6
  go_wp2_with fail
  refine Calls.mono HO.out ?_
  rintro e w1 ⟨rfl, hx⟩
  have E1 := Lib.hid (E.out.trans hx)
  clear hx
  go_wp2
  exact bodyPost_ret (v := .tuple #[.slice none 0 0, .int .i64 c]) (by simp [results, Tryd.results6, go_sem]) rfl ⟨rfl, E1.out⟩

set_option maxHeartbeats 8000000 in
set_option maxRecDepth 100000 in
theorem plConic_ok (p k : Nat) (ao : Option Addr) (cap : Nat) (low : List Int) (w : World) (hP : Primes w) (hF : IsField p k low) (hr : Reads w ao (ints low)) (h5 : p ^ k ≤ 5) :
    Calls Tryd.prog 6 #[.agg #[.int .i64 p, .int .i64 k, .slice ao k cap]] w fun e w' => ∃ co cn cc, e = .returned (.tuple #[.slice co cn cc, .int .i64 0]) ∧ (selTo (onB p k low) (triL (p ^ k)).length).length = cn ∧ Reads w' co (ints (selTo (onB p k low) (triL (p ^ k)).length)) ∧ Ext w w' := by
  have hq2 : 2 ≤ p ^ k := two_le_ord hF
  have HO : Hid (∀ W, Ext w W → _) := fun W (h : Ext w W) => plOpen_field p k ao cap low W (hP.ext h) hF (h.reads hr) _ 0 (.inr ⟨h5, rfl, rfl⟩)
  have HT : Hid (∀ W, _) := fun W => triples_any (p ^ k) hq2 h5 W
  have HM1 : Hid (∀ W i, Ext w W → i < (triL (p ^ k)).length → _) := fun W i (h : Ext w W) hi => fieldMul_ok p k _ _ ao k cap low W (hP.ext h) hF hF.len (h.reads hr) (triAt_lt (p ^ k) hq2 hi).2.1 (triAt_lt (p ^ k) hq2 hi).2.1
  have HM2 : Hid (∀ W i, Ext w W → i < (triL (p ^ k)).length → _) := fun W i (h : Ext w W) hi => fieldMul_ok p k _ _ ao k cap low W (hP.ext h) hF hF.len (h.reads hr) (triAt_lt (p ^ k) hq2 hi).1 (triAt_lt (p ^ k) hq2 hi).2.2
  have HMB : Hid (∀ i, onB p k low i = (mulF p k (nth low) (pY (p ^ k) (triAt (p ^ k) i)) (pY (p ^ k) (triAt (p ^ k) i)) == mulF p k (nth low) (pX (p ^ k) (triAt (p ^ k) i)) (pZ (p ^ k) (triAt (p ^ k) i)))) := fun i => rfl
  obtain ⟨hm1, hm31⟩ := triL_len (p ^ k) hq2 h5
  have HOP : Hid (∀ {w0 W v}, OwnTri (p ^ k) w0 W v (tri (p ^ k) (p ^ k * p ^ k * p ^ k)) → _) := fun h => OwnTri.opened h hm1
  obtain ⟨MB, hMB⟩ : ∃ MB, onB p k low = MB := ⟨_, rfl⟩
  obtain ⟨mu, hmu⟩ : ∃ mu, mulF p k (nth low) = mu := ⟨_, rfl⟩
  rw [hMB, hmu] at HMB
  rw [hmu] at HM1 HM2
  rw [hMB]
  obtain ⟨q, hq⟩ : ∃ q, p ^ k = q := ⟨_, rfl⟩
  rw [hq] at HO HT HM1 HM2 HMB hq2 HOP hm1 hm31 h5 ⊢
  have HTC : Hid (∀ g W, TriCells q g W → ∀ i, i < (triL q).length → _) := fun g W h i hi => h i hi
  obtain ⟨m, hm⟩ : ∃ m, (triL q).length = m := ⟨_, rfl⟩
  rw [hm] at HM1 HM2 hm1 hm31 HOP HTC ⊢
  have HSL : Hid (∀ j, selTo MB (j + 1) = if MB j = true then selTo MB j ++ [(j : Int)] else selTo MB j) := fun j => rfl
  have HS0 : Hid (selTo MB 0 = []) := rfl
  have HSN : Hid (∀ j, (selTo MB j).length ≤ j) := fun j => selTo_len _ j
  clear hP hF hr hMB hmu hq hm
  have E := Lib.hid (ext_box w #[.int .i64 p, .int .i64 k, .slice ao k cap] 24)
  have F := Lib.hid (Blk.new w #[.int .i64 p, .int .i64 k, .slice ao k cap] 24)
  go_enter Tryd.func6, Tryd.ntmps6
  go_wp2_with fail
  refine Calls.mono (HO.out _ E.out) ?_
  rintro e w1 ⟨rfl, hx⟩
  have E1 := Lib.hid (E.out.trans hx)
  have F1 := Lib.hid (F.out.ext hx)
  clear hx
  go_wp2_with fail
  refine Calls.mono (HT.out w1) ?_
  rintro e w2 ⟨v, rfl, htr⟩
  obtain ⟨g, tc, rfl, hg1, hg2, htc, hx⟩ := HOP.out htr
  have E2 := Lib.hid (E1.out.trans hx)
  have F2 := Lib.hid (F1.out.ext hx)
  have TC2 := Lib.hid htc
  have HG2 := Lib.hid hg2
  clear htr htc hx hg1 hg2
  go_wp2
  go_loopg [6, 24] m (fun r y x wx => ∃ j : Nat, j + r = m ∧ x = .int .i64 j ∧ OwnInts w2 wx y (selTo MB j))
  case atStart => exact ⟨0, by omega, rfl, by rw [HS0.out]; exact OwnInts.nil (Ext.refl _)⟩
  case round =>
    obtain ⟨j, hjm, rfl, bo3, n3, bc3, rfl, hrow, hx⟩ := hrel
    have HR := Lib.hid hrow
    have HX := Lib.hid hx
    have hlen : (selTo MB j).length = n3 := by have h1 := hrow.length; rwa [ints_length] at h1
    have hl3 : n3 ≤ j := by have h2 := HSN.out j; omega
    have HLN := Lib.hid hlen
    clear hrow hx hlen
    cases gk with
    | zero =>
      obtain rfl : m = j := by omega
      go_wp2
      exact bodyPost_ret (v := .tuple #[.slice bo3 n3 bc3, .int .i64 0]) (by simp [results, Tryd.results6, go_sem]) rfl ⟨bo3, n3, bc3, rfl, HLN.out, HR.out.reads, E2.out.trans HX.out⟩
    | succ r2 =>
      have hjl : (j : Int) < (m : Int) := by omega
      have hjl' : j < m := by omega
      obtain ⟨t0, t1, t2⟩ := HTC.out g wr (TC2.out.ext HX.out HG2.out) j hjl'
      have HX' : Hid (Ext w2 (wr.alloc (.cells #[.int .i64 (pX q (triAt q j) : Nat), .int .i64 (pY q (triAt q j) : Nat), .int .i64 (pZ q (triAt q j) : Nat)] 45))) := HX.out.alloc _
      have HPj := Lib.hid (HM1.out (wr.alloc (.cells #[.int .i64 (pX q (triAt q j) : Nat), .int .i64 (pY q (triAt q j) : Nat), .int .i64 (pZ q (triAt q j) : Nat)] 45)) j (E2.out.trans HX'.out) hjl')
      have HQj : Hid (∀ W, Ext w W → _) := fun W h => HM2.out W j h hjl'
      have HMj := Lib.hid (HMB.out j)
      have HSj := Lib.hid (HSL.out j)
      have kf := ((F2.out.ext HX.out).alloc (.cells #[.int .i64 (pX q (triAt q j) : Nat), .int .i64 (pY q (triAt q j) : Nat), .int .i64 (pZ q (triAt q j) : Nat)] 45)).three
      have TB := Lib.hid (Blk.new wr #[.int .i64 (pX q (triAt q j) : Nat), .int .i64 (pY q (triAt q j) : Nat), .int .i64 (pZ q (triAt q j) : Nat)] 45)
      obtain ⟨A, hA⟩ : ∃ A, pX q (triAt q j) = A := ⟨_, rfl⟩
      obtain ⟨B, hB⟩ : ∃ B, pY q (triAt q j) = B := ⟨_, rfl⟩
      obtain ⟨C, hC⟩ : ∃ C, pZ q (triAt q j) = C := ⟨_, rfl⟩
      rw [hA, hB, hC] at HPj HX' kf TB
      rw [hA, hC] at HQj
      rw [hA, hB, hC] at HMj
      rw [hA] at t0
      rw [hB] at t1
      rw [hC] at t2
      obtain ⟨d, hd⟩ : ∃ d, mu B B = d := ⟨_, rfl⟩
      obtain ⟨d2, hd2⟩ : ∃ d2, mu A C = d2 := ⟨_, rfl⟩
      rw [hd] at HPj HMj
      rw [hd2] at HQj HMj
      obtain ⟨t, ht⟩ : ∃ t, MB j = t := ⟨_, rfl⟩
      rw [ht] at HMj HSj
      have hd0 : ((d : Int) == (d2 : Int)) = t := by
        rw [HMj.out, Bool.eq_iff_iff, beq_iff_eq, beq_iff_eq]; omega
      clear hA hB hC hd hd2 ht HMj
      have HD0 := Lib.hid hd0
      clear hd0
      go_wp2_with fail
      refine Calls.mono HPj.out ?_
      rintro e w5 ⟨rfl, hx5⟩
      have HX5 := Lib.hid (HX'.out.trans hx5)
      have k5 := (F2.out.ext HX5.out).three
      have j5 := (TB.out.ext hx5).three
      have HR5 := Lib.hid (((ext_box wr #[.int .i64 (A : Int), .int .i64 (B : Int), .int .i64 (C : Int)] 45).trans hx5).row HR.out)
      have HQ5 := Lib.hid (HQj.out w5 (E2.out.trans HX5.out))
      clear hx5 kf t0 t1 t2
      go_wp2_with fail
      refine Calls.mono HQ5.out ?_
      rintro e w6 ⟨rfl, hx6⟩
      have HX6 := Lib.hid (HX5.out.trans hx6)
      have HR6 := Lib.hid (Ext.row hx6 HR5.out)
      have hs6 := HX6.out.size
      have hd0 := HD0.out
      clear hx6 k5 j5
      cases t with
      | true =>
        rw [if_pos rfl] at HSj
        go_wp2_with (at_builtin; refine wpList_appInt eInt rfl (.tmp 50) (.tmp 52) rfl w2.heap.size (by rfl) HR6.out (by rfl) (by omega) hs6 ?_; intro ao4 cap4 w4 hr4 hg4 hb4; have HR4 := Lib.hid hr4; have HB4 := Lib.hid (hb4 _ _ HX6.out (Nat.le_refl _)); clear hr4 hg4 hb4)
        go_roundg r2
        case measure => omega
        case rel => exact ⟨j + 1, by omega, by go_num, ao4, n3 + 1, cap4, rfl, by rw [HSj.out, ints_append, ints_one]; exact HR4.out, HB4.out⟩
      | false =>
        rw [if_neg (by simp)] at HSj
        go_wp2
        go_roundg r2
        case measure => omega
        case rel => exact ⟨j + 1, by omega, by go_num, bo3, n3, bc3, rfl, by rw [HSj.out]; exact HR6.out, HX6.out⟩

end Go.Proofs.YtnfonobdfkpkeaaDoor
