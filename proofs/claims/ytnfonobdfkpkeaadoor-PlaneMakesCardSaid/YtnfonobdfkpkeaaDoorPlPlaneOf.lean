/- What parterreref3.PlaneOf answers. Condition: a field of an order of at most 5. -/
import Derived.Test.YtnfonobdfkpkeaaDoorPlRef
namespace Go.Proofs.YtnfonobdfkpkeaaDoor
open Go.RowKit
set_option linter.unusedVariables false

/-- Two rows, place by place, added up as far as kk. -/
def dotUp (ad mu : Nat → Nat → Nat) (u v : Nat → Nat) : Nat → Nat
  | 0 => 0
  | kk + 1 => ad (dotUp ad mu u v kk) (mu (u kk) (v kk))
theorem dotUp_three (p k : Nat) (low : List Int) (q c d : Nat) : dot3 p k low (pX q c) (pY q c) (pZ q c) (pX q d) (pY q d) (pZ q d) = dotUp (addF p k) (mulF p k (nth low)) (cmp3 q c) (cmp3 q d) 3 := rfl

/-- The worlds in which the blocks are made. -/
structure RfSt (w w2 wr : World) (fs : Array Value) (m ob : Nat) (Q : Nat → Nat → Bool) (i : Nat) (bo : Option Addr) (bc : Nat) : Prop where
  ext : Ext w wr
  ext2 : Ext w2 wr
  fld : Blk wr w.heap.size fs 24
  res : Blk wr (w.heap.size + 1) #[.int .i64 0, .slice none 0 0] 29
  out : Blk wr ob #[.int .i64 m, .slice bo i bc] 29
  tbl : Tbl wr (fun b => ob < b) (ob + 1) bo i bc (blksTo Q m i)
  w_ob : w.heap.size + 1 < ob
  w2_ob : w2.heap.size ≤ ob
theorem RfSt.carry {w w2 wr w' : World} {fs : Array Value} {m ob : Nat} {Q : Nat → Nat → Bool} {i : Nat} {bo : Option Addr} {bc : Nat} (h : RfSt w w2 wr fs m ob Q i bo bc) (hx : Ext wr w') : RfSt w w2 w' fs m ob Q i bo bc :=
  ⟨h.ext.trans hx, h.ext2.trans hx, h.fld.ext hx, h.res.ext hx, h.out.ext hx, h.tbl.ext hx, h.w_ob, h.w2_ob⟩
theorem RfSt.grown {w w2 wr w' : World} {fs : Array Value} {m ob : Nat} {Q : Nat → Nat → Bool} {i : Nat} {bo bo' : Option Addr} {bc bc' : Nat} (h : RfSt w w2 wr fs m ob Q i bo bc)
    (ht : Tbl w' (fun b => ob < b) (ob + 1) bo' (i + 1) bc' (blksTo Q m i ++ [selTo (Q i) m])) (hg : wr.grownBy w' (Value.slice bo i bc).ownBlock) (hb : ∀ B0 w0, Below B0 w0 wr → B0 ≤ ob + 1 → Below B0 w0 w') :
    Blk w' ob #[.int .i64 m, .slice bo i bc] 29 ∧ RfSt w w2 (w'.setCell ⟨ob, 1, none⟩ (.slice bo' (i + 1) bc')) fs m ob Q (i + 1) bo' bc' := by
  have hne : ∀ c, c ≤ ob → some c ≠ (Value.slice bo i bc).ownBlock := fun c hc e => by have := (h.tbl.block c e.symm).1; omega
  have ho := h.out.grown hg (hne ob (by omega))
  have hwo := h.w_ob
  have hwo2 := h.w2_ob
  have hx : Ext w w' := hb _ _ h.ext (by omega)
  have hx2 : Ext w2 w' := hb _ _ h.ext2 (by omega)
  exact ⟨ho, hx.set (by show w.heap.size ≤ ob; omega) _, hx2.set (by show w2.heap.size ≤ ob; omega) _, ((h.fld.grown hg (hne _ (by omega))).beside _ (by show ob ≠ w.heap.size; omega) _), ((h.res.grown hg (hne _ (by omega))).beside _ (by show ob ≠ w.heap.size + 1; omega) _), ho.set 1 _, ht.beside _ (by simp) (by simp) _, h.w_ob, h.w2_ob⟩

set_option maxHeartbeats 16000000 in
set_option maxRecDepth 100000 in
theorem planeOf_any (p k : Nat) (ao : Option Addr) (cap : Nat) (low : List Int) (w : World) (hF : IsField p k low) (hr : Reads w ao (ints low)) (h5 : p ^ k ≤ 5) :
    Calls Tryd.prog 8 #[.agg #[.int .i64 p, .int .i64 k, .slice ao k cap]] w fun e w' => ∃ bo bc, e = .returned (.agg #[.int .i64 ((triL (p ^ k)).length : Nat), .slice bo (triL (p ^ k)).length bc]) ∧ ReadsL w' bo (blksTo (meetB p k low) (triL (p ^ k)).length (triL (p ^ k)).length) ∧ Ext w w' := by
  have hq2 : 2 ≤ p ^ k := two_le_ord hF
  have hp0 : 0 < p := by have := hF.p2; omega
  have HSZ : Hid (∀ W, _) := fun W => size_field p k ao k cap low W hF
  have HT : Hid (∀ W, _) := fun W => refTriples_any (p ^ k) hq2 h5 W
  have h64 := hF.big
  have HTI : Hid (∀ W a b, Ext w W → a < 128 → b < 128 → _) := fun W a b (hx : Ext w W) ha hb => timesOf_any p k a b ao cap low W hF.p2 hF.p61 hF.k1 hF.k6 h64 ha hb hF.len (hx.reads hr) hF.dig
  have HSU : Hid (∀ W a b, a < 128 → b < 128 → _) := fun W a b ha hb => sumOf_any p k a b ao k cap W hF.p2 hF.p61 hF.k1 hF.k6 h64 ha hb
  have HLT : Hid (∀ i, i < (triL (p ^ k)).length → ∀ kk, cmp3 (p ^ k) (triAt (p ^ k) i) kk < 128) := fun i hi kk => by
    obtain ⟨a, b, c⟩ := triAt_lt (p ^ k) hq2 hi
    unfold cmp3; split <;> omega
  have HML : Hid (∀ u v, mulF p k (nth low) u v < 128) := fun u v => Nat.lt_of_lt_of_le (mulF_lt hp0 u v) (by omega)
  have HAL : Hid (∀ u v, addF p k u v < 128) := fun u v => Nat.lt_of_lt_of_le (addF_lt hp0 u v) (by omega)
  have HMB : Hid (∀ i j, meetB p k low i j = (dotUp (addF p k) (mulF p k (nth low)) (cmp3 (p ^ k) (triAt (p ^ k) i)) (cmp3 (p ^ k) (triAt (p ^ k) j)) 3 == 0)) := fun i j => rfl
  obtain ⟨hm1, hm31⟩ := triL_len (p ^ k) hq2 h5
  have HRT : Hid (∀ {W ao}, ReadsL W ao (triRows (p ^ k) (p ^ k * p ^ k * p ^ k)) → _) := fun h => rowsTri h hm1
  have HCN : Hid ((triRows (p ^ k) (p ^ k * p ^ k * p ^ k)).length = (triL (p ^ k)).length) := triRows_cnt _
  obtain ⟨MB, hMB⟩ : ∃ MB, meetB p k low = MB := ⟨_, rfl⟩
  obtain ⟨mu, hmu⟩ : ∃ mu, mulF p k (nth low) = mu := ⟨_, rfl⟩
  obtain ⟨ad, had⟩ : ∃ ad, addF p k = ad := ⟨_, rfl⟩
  rw [hMB, hmu, had] at HMB
  rw [hmu] at HTI HML
  rw [had] at HSU HAL
  rw [hMB]
  obtain ⟨q, hq⟩ : ∃ q, p ^ k = q := ⟨_, rfl⟩
  rw [hq] at HSZ HT HLT HMB hq2 HRT HCN hm1 hm31 h5 ⊢
  obtain ⟨m, hm⟩ : ∃ m, (triL q).length = m := ⟨_, rfl⟩
  rw [hm] at HLT HRT HCN hm1 hm31 ⊢
  clear hF hr hMB hmu had hq hm h64 hp0
  have E : Hid (Ext w ((w.alloc (.cells #[.int .i64 p, .int .i64 k, .slice ao k cap] 24)).alloc (.cells #[.int .i64 0, .slice none 0 0] 29))) := ((Ext.refl w).alloc _).alloc _
  have F : Hid (Blk ((w.alloc (.cells #[.int .i64 p, .int .i64 k, .slice ao k cap] 24)).alloc (.cells #[.int .i64 0, .slice none 0 0] 29)) w.heap.size #[.int .i64 p, .int .i64 k, .slice ao k cap] 24) := (Blk.new w _ _).alloc _
  have X : Hid (Blk ((w.alloc (.cells #[.int .i64 p, .int .i64 k, .slice ao k cap] 24)).alloc (.cells #[.int .i64 0, .slice none 0 0] 29)) (w.heap.size + 1) #[.int .i64 0, .slice none 0 0] 29) := Blk.new' _ _ _ (by simp)
  have kF := F.out.three
  go_enter Tryd.func8, Tryd.ntmps8
  go_wp2_with fail
  refine Calls.mono (HSZ.out _) ?_
  rintro e w1 ⟨rfl, hx⟩
  have E1 := Lib.hid (E.out.trans hx)
  have F1 := Lib.hid (F.out.ext hx)
  have X1 := Lib.hid (X.out.ext hx)
  clear hx kF
  go_wp2_with fail
  refine Calls.mono (HT.out w1) ?_
  rintro e w2 ⟨v, rfl, uo, un, uc, rfl, htb, hx⟩
  have hun := htb.length
  rw [HCN.out] at hun
  obtain rfl := hun
  obtain ⟨b, off, rfl, hrt⟩ := HRT.out htb.readsL
  have HR3 := Lib.hid hrt
  have hw1 := X1.out.lt
  have hw2 := hx.size
  have HST : Hid (RfSt w w2 (w2.alloc (.cells #[.int .i64 m, .slice none 0 0] 29)) #[.int .i64 p, .int .i64 k, .slice ao k cap] m w2.heap.size MB 0 none 0) :=
    ⟨(E1.out.trans hx).alloc _, (Ext.refl w2).alloc _, (F1.out.ext hx).alloc _, (X1.out.ext hx).alloc _, Blk.new _ _ _, Tbl.nil _ _ _, by omega, by omega⟩
  obtain ⟨ob, hob⟩ : ∃ ob, w2.heap.size = ob := ⟨_, rfl⟩
  have HOB := Lib.hid hob
  clear htb hx hrt hob
  go_wp2
  rw [HOB.out] at HST
  try rw [HOB.out]
  obtain ⟨wA, hwA⟩ : ∃ wA, wA = w2.alloc (.cells #[.int .i64 m, .slice none 0 0] 29) := ⟨_, rfl⟩
  rw [← hwA] at HST ⊢
  clear hwA hw1 hw2
  go_loopg [6] m (fun r x wr => ∃ (i : Nat) (bo : Option Addr) (bc : Nat), i + r = m ∧ x = .int .i64 i ∧ RfSt w w2 wr #[.int .i64 p, .int .i64 k, .slice ao k cap] m ob MB i bo bc)
  case atStart => exact ⟨0, none, 0, by omega, rfl, HST.out⟩
  case round =>
    obtain ⟨i, bo, bc, him, rfl, hst⟩ := hrel
    have HS := Lib.hid hst
    clear hst HST
    cases gk with
    | zero =>
      obtain rfl : m = i := by omega
      have k0 := HS.out.out.two
      have k1 := HS.out.res.two
      have k2 := HS.out.res.f 0
      have k3 := HS.out.res.f 1
      go_wp2
      have HRB := Lib.hid ((HS.out.res.set 0 (.int .i64 (m : Int))).set 1 (.slice bo m bc))
      have e0 := HRB.out.c 0 (.int .i64 (m : Int)) rfl
      have e1 := HRB.out.c 1 (.slice bo m bc) rfl
      refine bodyPost_ret (v := .agg #[.int .i64 (m : Int), .slice bo m bc]) (by simp [results, Tryd.results8, go_sem, e0, e1]) rfl ⟨bo, bc, rfl, ?_, ?_⟩
      · have hwo := HS.out.w_ob
        exact ((HS.out.tbl.beside ⟨w.heap.size + 1, 0, none⟩ (by show w.heap.size + 1 < ob + 1; omega) (by show ¬ ob < w.heap.size + 1; omega) (.int .i64 (m : Int))).beside ⟨w.heap.size + 1, 1, none⟩ (by show w.heap.size + 1 < ob + 1; omega) (by show ¬ ob < w.heap.size + 1; omega) (.slice bo m bc)).readsL
      · exact (HS.out.ext.set (p := ⟨w.heap.size + 1, 0, none⟩) (by simp) _).set (p := ⟨w.heap.size + 1, 1, none⟩) (by simp) _
    | succ r1 =>
      have hil : (i : Int) < (m : Int) := by omega
      have hil' : i < m := by omega
      have HSL : Hid (∀ j, selTo (MB i) (j + 1) = if MB i j = true then selTo (MB i) j ++ [(j : Int)] else selTo (MB i) j) := fun j => rfl
      have HS0 : Hid (selTo (MB i) 0 = []) := rfl
      have HSN : Hid (∀ j, (selTo (MB i) j).length ≤ j) := fun j => selTo_len _ j
      obtain ⟨wo, rfl⟩ : ∃ wo : World, wo = wr := ⟨_, rfl⟩
      go_wp2
      go_loopg [7, 8] m (fun r y x wx => ∃ j : Nat, j + r = m ∧ x = .int .i64 j ∧ OwnInts wo wx y (selTo (MB i) j))
      case atStart => exact ⟨0, by omega, rfl, by rw [HS0.out]; exact OwnInts.nil (Ext.refl _)⟩
      case round =>
        obtain ⟨j, hjm, rfl, bo3, n3, bc3, rfl, hrow, hx⟩ := hrel
        have HR := Lib.hid hrow
        have HX := Lib.hid hx
        have hl3 : n3 ≤ j := by have h1 := hrow.length; rw [ints_length] at h1; have h2 := HSN.out j; omega
        have hBw := hx.size
        clear hrow hx
        cases gk with
        | zero =>
          obtain rfl : m = j := by omega
          have HST2 := Lib.hid (HS.out.carry HX.out)
          have hobw : ob < wo.heap.size := HS.out.out.lt
          have HIN : Hid (InnerX wr (fun b => ob < b) (Value.slice bo i bc).ownBlock (.slice bo3 n3 bc3) (selTo (MB i) m)) := HR.out.innerX _ _ (fun b hb => by omega) (fun b hb => (HS.out.tbl.block b hb).2) (by unfold maxLen; omega)
          have k0 := HST2.out.out.two
          have hobw2 : ob + 1 ≤ wr.heap.size := by omega
          go_wp2_with (at_builtin; refine wpList_appRow rfl (.tmp 62) (.tmp 64) rfl (fun b => ob < b) (ob + 1) (by rfl) HST2.out.tbl (by rfl) HIN.out (by omega) hobw2 ?_; intro ao4 cap4 w4 hr4 hg4 hb4; have HG := Lib.hid (HST2.out.grown hr4 hg4 hb4); have k1 := HG.out.1.two; have k2 := HG.out.1.f 1; clear hr4 hg4 hb4)
          go_roundg r1
          case measure => omega
          case rel => exact ⟨i + 1, ao4, cap4, by omega, by go_num, HG.out.2⟩
        | succ r2 =>
          have hjl : (j : Int) < (m : Int) := by omega
          have hjl' : j < m := by omega
          have HMj := Lib.hid (HMB.out i j)
          have HSj := Lib.hid (HSL.out j)
          obtain ⟨U, hU⟩ : ∃ U, cmp3 q (triAt q i) = U := ⟨_, rfl⟩
          obtain ⟨V, hV⟩ : ∃ V, cmp3 q (triAt q j) = V := ⟨_, rfl⟩
          have HLU : Hid (∀ kk, U kk < 128) := by have := HLT.out i hil'; rw [hU] at this; exact this
          have HLV : Hid (∀ kk, V kk < 128) := by have := HLT.out j hjl'; rw [hV] at this; exact this
          have HRI : Hid (∀ W', Ext w2 W' → ∃ br orr c, W'.cell? ⟨b, off + i, none⟩ = some (.slice (some ⟨br, orr, none⟩) 3 c) ∧ ∀ kk, kk < 3 → W'.cell? ⟨br, orr + kk, none⟩ = some (.int .i64 (U kk : Nat))) := fun W' h => by have := HR3.out W' h i hil'; rw [hU] at this; exact this
          have HRJ : Hid (∀ W', Ext w2 W' → ∃ br orr c, W'.cell? ⟨b, off + j, none⟩ = some (.slice (some ⟨br, orr, none⟩) 3 c) ∧ ∀ kk, kk < 3 → W'.cell? ⟨br, orr + kk, none⟩ = some (.int .i64 (V kk : Nat))) := fun W' h => by have := HR3.out W' h j hjl'; rw [hV] at this; exact this
          rw [hU, hV] at HMj
          have HD0 : Hid (dotUp ad mu U V 0 = 0) := rfl
          have HDS : Hid (∀ kk, dotUp ad mu U V (kk + 1) = ad (dotUp ad mu U V kk) (mu (U kk) (V kk))) := fun kk => rfl
          have HDL : Hid (∀ kk, dotUp ad mu U V kk < 128) := fun kk => by
            cases kk with
            | zero => show 0 < 128; omega
            | succ kk => exact HAL.out _ _
          obtain ⟨DU, hDU⟩ : ∃ DU, dotUp ad mu U V = DU := ⟨_, rfl⟩
          rw [hDU] at HMj HD0 HDS HDL
          clear hU hV hDU
          obtain ⟨wj, rfl⟩ : ∃ wj : World, wj = wr := ⟨_, rfl⟩
          go_wp2
          go_loopg [9, 10] 3 (fun r s x wx => ∃ kk : Nat, kk + r = 3 ∧ x = .int .i64 kk ∧ s = .int .i64 (DU kk : Nat) ∧ Ext wj wx)
          case atStart => exact ⟨0, by omega, rfl, by rw [HD0.out]; rfl, Ext.refl _⟩
          case round =>
            obtain ⟨kk, hk3, rfl, rfl, hx⟩ := hrel
            have HX3 := Lib.hid hx
            have hdl := HDL.out kk
            clear hx
            cases gk with
            | zero =>
              obtain rfl : kk = 3 := by omega
              obtain ⟨d, hd⟩ : ∃ d, DU 3 = d := ⟨_, rfl⟩
              rw [hd] at HMj hdl ⊢
              obtain ⟨t, ht⟩ : ∃ t, MB i j = t := ⟨_, rfl⟩
              rw [ht] at HMj HSj
              have hd0 : ((d : Int) == 0) = t := by rw [HMj.out, Bool.eq_iff_iff, beq_iff_eq, beq_iff_eq]; omega
              have HX5 := Lib.hid (HX.out.trans HX3.out)
              have HR5 := Lib.hid (Ext.row HX3.out HR.out)
              have hs5 := HX5.out.size
              clear hd ht HMj
              cases t with
              | true =>
                rw [if_pos rfl] at HSj
                go_wp2_with (at_builtin; refine wpList_appInt eInt rfl (.tmp 57) (.tmp 59) rfl wo.heap.size (by rfl) HR5.out (by rfl) (by omega) hs5 ?_; intro ao4 cap4 w4 hr4 hg4 hb4; have HR4 := Lib.hid hr4; have HB4 := Lib.hid (hb4 _ _ HX5.out (Nat.le_refl _)); clear hr4 hg4 hb4)
                go_roundg r2
                case measure => omega
                case rel => exact ⟨j + 1, by omega, by go_num, ao4, n3 + 1, cap4, rfl, by rw [HSj.out, ints_append, ints_one]; exact HR4.out, HB4.out⟩
              | false =>
                rw [if_neg (by simp)] at HSj
                go_wp2
                go_roundg r2
                case measure => omega
                case rel => exact ⟨j + 1, by omega, by go_num, bo3, n3, bc3, rfl, by rw [HSj.out]; exact HR5.out, HX5.out⟩
            | succ r3 =>
              have hkl : (kk : Int) < 3 := by omega
              have hkl' : kk < 3 := by omega
              have hst2 := HS.out.carry (HX.out.trans HX3.out)
              obtain ⟨br, orr, cc, t0, t1⟩ := HRI.out wr hst2.ext2
              obtain ⟨br2, orr2, cc2, t2, t3⟩ := HRJ.out wr hst2.ext2
              have EX := Lib.hid hst2.ext
              have FX := Lib.hid hst2.fld
              have hS : ∀ W, Ext wr W → W.cell? ⟨w.heap.size, 0, none⟩ = some (.int .i64 p) ∧ W.cell? ⟨w.heap.size, 1, none⟩ = some (.int .i64 k) ∧ W.cell? ⟨w.heap.size, 2, none⟩ = some (.slice ao k cap) ∧ W.cell? ⟨b, off + i, none⟩ = some (.slice (some ⟨br, orr, none⟩) 3 cc) ∧ W.cell? ⟨br, orr + kk, none⟩ = some (.int .i64 (U kk : Nat)) ∧ W.cell? ⟨b, off + j, none⟩ = some (.slice (some ⟨br2, orr2, none⟩) 3 cc2) ∧ W.cell? ⟨br2, orr2 + kk, none⟩ = some (.int .i64 (V kk : Nat)) := fun W h => by
                have hk := (hst2.fld.ext h).three
                have key : ∀ {a : Addr} {v : Value}, wr.cell? a = some v → W.cell? a = some v := fun {a v} hc => (Below.cell h (World.block_lt_of_cell? wr _ hc)).trans hc
                exact ⟨hk.1, hk.2.1, hk.2.2, key t0, key (t1 kk hkl'), key t2, key (t3 kk hkl')⟩
              have HSS := Lib.hid hS
              have HDK := Lib.hid (HDS.out kk)
              have HDB := HDL.out (kk + 1)
              have HM1 : Hid (∀ W, Ext w W → _) := fun W h => HTI.out W (U kk) (V kk) h (HLU.out kk) (HLV.out kk)
              have hmb := HML.out (U kk) (V kk)
              obtain ⟨A, hA⟩ : ∃ A, U kk = A := ⟨_, rfl⟩
              obtain ⟨B, hB⟩ : ∃ B, V kk = B := ⟨_, rfl⟩
              rw [hA, hB] at HSS HDK HM1 hmb
              obtain ⟨d, hd⟩ : ∃ d, mu A B = d := ⟨_, rfl⟩
              rw [hd] at HDK HM1 hmb
              obtain ⟨s, hs⟩ : ∃ s, DU kk = s := ⟨_, rfl⟩
              rw [hs] at HDK hdl ⊢
              have HSC : Hid (∀ W, _) := fun W => HSU.out W s d hdl hmb
              obtain ⟨s2, hs2⟩ : ∃ s2, DU (kk + 1) = s2 := ⟨_, rfl⟩
              rw [← HDK.out, hs2] at HSC
              rw [hs2] at HDB
              have HS2 := Lib.hid hs2
              clear hA hB hd hs hs2 hst2 t0 t1 t2 t3 hS
              have kw := HSS.out wr (Ext.refl _)
              go_upto_region 15 with fail
              go_region_held3 (fun w' => w'.cell? ⟨w.heap.size, 0, none⟩ = some (.int .i64 p) ∧ w'.cell? ⟨w.heap.size, 1, none⟩ = some (.int .i64 k) ∧ w'.cell? ⟨w.heap.size, 2, none⟩ = some (.slice ao k cap) ∧ w'.cell? ⟨b, off + i, none⟩ = some (.slice (some ⟨br, orr, none⟩) 3 cc) ∧ w'.cell? ⟨br, orr + kk, none⟩ = some (.int .i64 (A : Int)) ∧ w'.cell? ⟨b, off + j, none⟩ = some (.slice (some ⟨br2, orr2, none⟩) 3 cc2) ∧ w'.cell? ⟨br2, orr2 + kk, none⟩ = some (.int .i64 (B : Int))) (first | (refine HSS.out _ ?_; (repeat (first | exact Ext.refl _ | exact HX5.out | refine Ext.drew ?_)); done))
                ((first | (go_at_call 19; refine Calls.mono (HM1.out _ EX.out.drew) ?_; rintro e w5 ⟨rfl, hx5⟩; have HX5 := Lib.hid ((Ext.refl wr).drew.trans hx5); clear hx5) | fail))
              all_goals
                clear kw
                have k5 := (FX.out.ext HX5.out).three
                go_wp2_with fail
                refine Calls.mono (HSC.out w5) ?_
                rintro e w6 ⟨rfl, hx6⟩
                have HX6 := Lib.hid ((HX3.out.trans HX5.out).trans hx6)
                clear hx6 k5
                go_wp2
                go_roundg r3
                case measure => omega
                case rel => exact ⟨kk + 1, by omega, by go_num, by rw [HS2.out], HX6.out⟩

end Go.Proofs.YtnfonobdfkpkeaaDoor
