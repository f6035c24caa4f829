/- Rows of triples that are read; what parterreref3.ConicOf answers. Condition: a field of an order of at most 5. -/
import Derived.Test.YtnfonobdfkpkeaaDoorPlMake
import Derived.Deep.RegionHeld3
namespace Go.Proofs.YtnfonobdfkpkeaaDoor
open Go.RowKit
set_option linter.unusedVariables false

/-- The elements of a triple. -/
def cmp3 (q c : Nat) : Nat → Nat
  | 0 => pX q c
  | 1 => pY q c
  | _ => pZ q c
theorem row_tri (q i : Nat) (hi : i < (triL q).length) : row (triRows q (q * q * q)) i = trRow q (triAt q i) := by
  unfold row triRows triAt
  unfold triL at hi ⊢
  rw [List.getD_eq_getElem?_getD, List.getElem?_map, List.getElem?_eq_getElem hi, List.getD_eq_getElem?_getD, List.getElem?_eq_getElem hi]
  rfl
theorem triRows_cnt (q : Nat) : (triRows q (q * q * q)).length = (triL q).length := by unfold triRows triL; rw [List.length_map]
theorem nth_trRow (q c kk : Nat) (hk : kk < 3) : nth (trRow q c) kk = (cmp3 q c kk : Nat) := by
  have : kk = 0 ∨ kk = 1 ∨ kk = 2 := by omega
  rcases this with rfl | rfl | rfl <;> rfl

theorem rowsTri {q : Nat} {W : World} {ao : Option Addr} (h : ReadsL W ao (triRows q (q * q * q))) (hm : 1 ≤ (triL q).length) :
    ∃ b off, ao = some ⟨b, off, none⟩ ∧ ∀ W', Ext W W' → ∀ i, i < (triL q).length → ∃ br orr c, W'.cell? ⟨b, off + i, none⟩ = some (.slice (some ⟨br, orr, none⟩) 3 c) ∧ ∀ kk, kk < 3 → W'.cell? ⟨br, orr + kk, none⟩ = some (.int .i64 (cmp3 q (triAt q i) kk : Nat)) := by
  obtain ⟨b, off, rfl, hb, hc⟩ := h.row (by rw [triRows_cnt]; omega)
  refine ⟨b, off, rfl, fun W' hx i hi => ?_⟩
  obtain ⟨a, c, h1, h2, _⟩ := hc i (by rw [triRows_cnt]; exact hi)
  rw [row_tri q i hi] at h1 h2
  obtain ⟨br, orr, rfl, hbr, hcr⟩ := h2.int (by show 0 < 3; omega)
  refine ⟨br, orr, c, (hx.cell hb).trans h1, fun kk hk => ?_⟩
  rw [hx.cell hbr, hcr kk hk, nth_trRow q _ kk hk]

theorem size_field (p k : Nat) (ao : Option Addr) (len cap : Nat) (low : List Int) (w : World) (hF : IsField p k low) :
    Calls Tryd.prog 12 #[.agg #[.int .i64 p, .int .i64 k, .slice ao len cap]] w fun e w' => e = .returned (.int .i64 (p ^ k : Nat)) ∧ Ext w w' := by
  have h := size_any p k ao len cap w
  rw [hF.fault.2] at h
  exact h

set_option maxHeartbeats 8000000 in
set_option maxRecDepth 100000 in
theorem conicOf_any (p k : Nat) (ao : Option Addr) (cap : Nat) (low : List Int) (w : World) (hF : IsField p k low) (hr : Reads w ao (ints low)) (h5 : p ^ k ≤ 5) :
    Calls Tryd.prog 9 #[.agg #[.int .i64 p, .int .i64 k, .slice ao k cap]] w fun e w' => ∃ co cn cc, e = .returned (.slice co cn cc) ∧ (selTo (onB p k low) (triL (p ^ k)).length).length = cn ∧ Reads w' co (ints (selTo (onB p k low) (triL (p ^ k)).length)) ∧ Ext w w' := by
  have hq2 : 2 ≤ p ^ k := two_le_ord hF
  have HSZ : Hid (∀ W, _) := fun W => size_field p k ao k cap low W hF
  have HT : Hid (∀ W, _) := fun W => refTriples_any (p ^ k) hq2 h5 W
  have h64 := hF.big
  have HTI : Hid (∀ W a b, Ext w W → a < 128 → b < 128 → _) := fun W a b (hx : Ext w W) ha hb => timesOf_any p k a b ao cap low W hF.p2 hF.p61 hF.k1 hF.k6 h64 ha hb hF.len (hx.reads hr) hF.dig
  have HLT : Hid (∀ i, i < (triL (p ^ k)).length → pX (p ^ k) (triAt (p ^ k) i) < 128 ∧ pY (p ^ k) (triAt (p ^ k) i) < 128 ∧ pZ (p ^ k) (triAt (p ^ k) i) < 128) := fun i hi => by
    obtain ⟨a, b, c⟩ := triAt_lt (p ^ k) hq2 hi; exact ⟨by omega, by omega, by omega⟩
  have HMB : Hid (∀ i, onB p k low i = (mulF p k (nth low) (pY (p ^ k) (triAt (p ^ k) i)) (pY (p ^ k) (triAt (p ^ k) i)) == mulF p k (nth low) (pX (p ^ k) (triAt (p ^ k) i)) (pZ (p ^ k) (triAt (p ^ k) i)))) := fun i => rfl
  obtain ⟨hm1, hm31⟩ := triL_len (p ^ k) hq2 h5
  have HRT : Hid (∀ {W ao}, ReadsL W ao (triRows (p ^ k) (p ^ k * p ^ k * p ^ k)) → _) := fun h => rowsTri h hm1
  have HCN : Hid ((triRows (p ^ k) (p ^ k * p ^ k * p ^ k)).length = (triL (p ^ k)).length) := triRows_cnt _
  obtain ⟨MB, hMB⟩ : ∃ MB, onB p k low = MB := ⟨_, rfl⟩
  obtain ⟨mu, hmu⟩ : ∃ mu, mulF p k (nth low) = mu := ⟨_, rfl⟩
  rw [hMB, hmu] at HMB
  rw [hmu] at HTI
  rw [hMB]
  obtain ⟨q, hq⟩ : ∃ q, p ^ k = q := ⟨_, rfl⟩
  rw [hq] at HSZ HT HLT HMB hq2 HRT HCN hm1 hm31 h5 ⊢
  obtain ⟨m, hm⟩ : ∃ m, (triL q).length = m := ⟨_, rfl⟩
  rw [hm] at HLT HRT HCN hm1 hm31 ⊢
  have HSL : Hid (∀ j, selTo MB (j + 1) = if MB j = true then selTo MB j ++ [(j : Int)] else selTo MB j) := fun j => rfl
  have HS0 : Hid (selTo MB 0 = []) := rfl
  have HSN : Hid (∀ j, (selTo MB j).length ≤ j) := fun j => selTo_len _ j
  clear hF hr hMB hmu hq hm h64
  have E := Lib.hid (ext_box w #[.int .i64 p, .int .i64 k, .slice ao k cap] 24)
  have F := Lib.hid (Blk.new w #[.int .i64 p, .int .i64 k, .slice ao k cap] 24)
  go_enter Tryd.func9, Tryd.ntmps9
  go_wp2_with fail
  refine Calls.mono (HSZ.out _) ?_
  rintro e w1 ⟨rfl, hx⟩
  have E1 := Lib.hid (E.out.trans hx)
  have F1 := Lib.hid (F.out.ext hx)
  clear hx
  go_wp2_with fail
  refine Calls.mono (HT.out w1) ?_
  rintro e w2 ⟨v, rfl, uo, un, uc, rfl, htb, hx⟩
  have hun := htb.length
  rw [HCN.out] at hun
  obtain rfl := hun
  obtain ⟨b, off, rfl, hrt⟩ := HRT.out htb.readsL
  have HR3 := Lib.hid hrt
  have E2 := Lib.hid (E1.out.trans hx)
  have F2 := Lib.hid (F1.out.ext hx)
  clear htb hx hrt
  go_wp2
  go_loopg [5, 6] m (fun r y x wx => ∃ j : Nat, j + r = m ∧ x = .int .i64 j ∧ OwnInts w2 wx y (selTo MB j))
  case atStart => exact ⟨0, by omega, rfl, by rw [HS0.out]; exact OwnInts.nil (Ext.refl _)⟩
  case round =>
    obtain ⟨j, hjm, rfl, bo3, n3, bc3, rfl, hrow, hx⟩ := hrel
    have HR := Lib.hid hrow
    have HX := Lib.hid hx
    have hlen : (selTo MB j).length = n3 := by have h1 := hrow.length; rwa [ints_length] at h1
    have hl3 : n3 ≤ j := by have h2 := HSN.out j; omega
    have HLN := Lib.hid hlen
    clear hrow hx hlen
    cases gk with
    | zero =>
      obtain rfl : m = j := by omega
      go_wp2
      go_ret
      exact ⟨bo3, n3, bc3, rfl, HLN.out, HR.out.reads, E2.out.trans HX.out⟩
    | succ r2 =>
      have hjl : (j : Int) < (m : Int) := by omega
      have hjl' : j < m := by omega
      obtain ⟨br, orr, cc, t0, t1⟩ := HR3.out wr HX.out j hjl'
      have HX0 := Lib.hid HX.out
      have hS : ∀ W, Ext wr W → W.cell? ⟨w.heap.size, 0, none⟩ = some (.int .i64 p) ∧ W.cell? ⟨w.heap.size, 1, none⟩ = some (.int .i64 k) ∧ W.cell? ⟨w.heap.size, 2, none⟩ = some (.slice ao k cap) ∧ W.cell? ⟨b, off + j, none⟩ = some (.slice (some ⟨br, orr, none⟩) 3 cc) ∧ W.cell? ⟨br, orr, none⟩ = some (.int .i64 (pX q (triAt q j) : Nat)) ∧ W.cell? ⟨br, orr + 1, none⟩ = some (.int .i64 (pY q (triAt q j) : Nat)) ∧ W.cell? ⟨br, orr + 2, none⟩ = some (.int .i64 (pZ q (triAt q j) : Nat)) := fun W h => by
        have hk := ((F2.out.ext HX.out).ext h).three
        have key : ∀ {a : Addr} {v : Value}, wr.cell? a = some v → W.cell? a = some v := fun {a v} hc => (Below.cell h (World.block_lt_of_cell? wr _ hc)).trans hc
        exact ⟨hk.1, hk.2.1, hk.2.2, key t0, key (t1 0 (by omega)), key (t1 1 (by omega)), key (t1 2 (by omega))⟩
      have HS := Lib.hid hS
      obtain ⟨hl1, hl2, hl4⟩ := HLT.out j hjl'
      have HM1 : Hid (∀ W, Ext w W → _) := fun W h => HTI.out W _ _ h hl2 hl2
      have HM2 : Hid (∀ W, Ext w W → _) := fun W h => HTI.out W _ _ h hl1 hl4
      have HMj := Lib.hid (HMB.out j)
      have HSj := Lib.hid (HSL.out j)
      obtain ⟨A, hA⟩ : ∃ A, pX q (triAt q j) = A := ⟨_, rfl⟩
      obtain ⟨B, hB⟩ : ∃ B, pY q (triAt q j) = B := ⟨_, rfl⟩
      obtain ⟨C, hC⟩ : ∃ C, pZ q (triAt q j) = C := ⟨_, rfl⟩
      rw [hA, hB, hC] at HS HMj
      rw [hB] at HM1
      rw [hA, hC] at HM2
      obtain ⟨d, hd⟩ : ∃ d, mu B B = d := ⟨_, rfl⟩
      obtain ⟨d2, hd2⟩ : ∃ d2, mu A C = d2 := ⟨_, rfl⟩
      rw [hd] at HM1 HMj
      rw [hd2] at HM2 HMj
      obtain ⟨t, ht⟩ : ∃ t, MB j = t := ⟨_, rfl⟩
      rw [ht] at HMj HSj
      have hd0 : ((d : Int) == (d2 : Int)) = t := by
        rw [HMj.out, Bool.eq_iff_iff, beq_iff_eq, beq_iff_eq]; omega
      have HD0 := Lib.hid hd0
      have EX := Lib.hid (E2.out.trans HX.out)
      clear hA hB hC hd hd2 ht HMj hd0 t0 t1 hS
      have kk := HS.out wr (Ext.refl _)
      go_upto_region 7 with fail
      go_region_held3 (fun w' => w'.cell? ⟨w.heap.size, 0, none⟩ = some (.int .i64 p) ∧ w'.cell? ⟨w.heap.size, 1, none⟩ = some (.int .i64 k) ∧ w'.cell? ⟨w.heap.size, 2, none⟩ = some (.slice ao k cap) ∧ w'.cell? ⟨b, off + j, none⟩ = some (.slice (some ⟨br, orr, none⟩) 3 cc) ∧ w'.cell? ⟨br, orr, none⟩ = some (.int .i64 (A : Int)) ∧ w'.cell? ⟨br, orr + 1, none⟩ = some (.int .i64 (B : Int)) ∧ w'.cell? ⟨br, orr + 2, none⟩ = some (.int .i64 (C : Int))) (first | (refine HS.out _ ?_; (repeat (first | exact Ext.refl _ | exact HX5.out | refine Ext.drew ?_)); done))
        ((first | (go_at_call 19; refine Calls.mono (HM1.out _ EX.out.drew) ?_; rintro e w5 ⟨rfl, hx5⟩; have HX5 := Lib.hid ((Ext.refl wr).drew.trans hx5); clear hx5) | fail))
      all_goals
        have EX5 := Lib.hid (EX.out.trans HX5.out)
        have HR5 := Lib.hid (Ext.row HX5.out HR.out)
        have HX25 := Lib.hid (HX.out.trans HX5.out)
        clear kk
        have kk := HS.out w5 HX5.out
        go_upto_region 8 with fail
        go_region_held3 (fun w' => w'.cell? ⟨w.heap.size, 0, none⟩ = some (.int .i64 p) ∧ w'.cell? ⟨w.heap.size, 1, none⟩ = some (.int .i64 k) ∧ w'.cell? ⟨w.heap.size, 2, none⟩ = some (.slice ao k cap) ∧ w'.cell? ⟨b, off + j, none⟩ = some (.slice (some ⟨br, orr, none⟩) 3 cc) ∧ w'.cell? ⟨br, orr, none⟩ = some (.int .i64 (A : Int)) ∧ w'.cell? ⟨br, orr + 1, none⟩ = some (.int .i64 (B : Int)) ∧ w'.cell? ⟨br, orr + 2, none⟩ = some (.int .i64 (C : Int))) (first | (refine HS.out _ ?_; (repeat (first | exact Ext.refl _ | exact HX5.out | exact HX6.out | refine Ext.drew ?_)); done))
          ((first | (go_at_call 19; refine Calls.mono (HM2.out _ EX5.out.drew) ?_; rintro e w6 ⟨rfl, hx6⟩; have HX56 := Lib.hid ((Ext.refl w5).drew.trans hx6); have HX6 := Lib.hid (HX5.out.trans HX56.out); clear hx6) | fail))
        all_goals
          have HR6 := Lib.hid (Ext.row HX56.out HR5.out)
          have HX26 := Lib.hid (HX.out.trans HX6.out)
          have hs6 := HX26.out.size
          have hd0 := HD0.out
          clear kk
          cases t with
          | true =>
            rw [if_pos rfl] at HSj
            go_wp2_with (at_builtin; refine wpList_appInt eInt rfl (.tmp 50) (.tmp 52) rfl w2.heap.size (by rfl) HR6.out (by rfl) (by omega) hs6 ?_; intro ao4 cap4 w4 hr4 hg4 hb4; have HR4 := Lib.hid hr4; have HB4 := Lib.hid (hb4 _ _ HX26.out (Nat.le_refl _)); clear hr4 hg4 hb4)
            go_roundg r2
            case measure => omega
            case rel => exact ⟨j + 1, by omega, by go_num, ao4, n3 + 1, cap4, rfl, by rw [HSj.out, ints_append, ints_one]; exact HR4.out, HB4.out⟩
          | false =>
            rw [if_neg (by simp)] at HSj
            go_wp2
            go_roundg r2
            case measure => omega
            case rel => exact ⟨j + 1, by omega, by go_num, bo3, n3, bc3, rfl, by rw [HSj.out]; exact HR6.out, HX26.out⟩

end Go.Proofs.YtnfonobdfkpkeaaDoor
