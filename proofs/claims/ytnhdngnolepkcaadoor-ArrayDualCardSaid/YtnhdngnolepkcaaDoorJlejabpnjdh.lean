/- What is normal to rows, as the program finds it. No conditions but the room and where the basis' rows begin. -/
import Derived.Test.YtnhdngnolepkcaaDoorJcjilpgjace
import Derived.Test.YtnhdngnolepkcaaDoorJdkilobdlmh
namespace Go.Proofs.YtnhdngnolepkcaaDoor
open Go.RowKit

/-- A normal row by a free column, as far as a row of the basis. -/
def nvTo (p k c : Nat) (B : List (Nat → Nat)) (P : Nat → Nat) : Nat → Nat → Nat
  | 0, j => if j = c then 1 else 0
  | i + 1, j => if j = P i then negF p k (fAt B i c) else nvTo p k c B P i j
def isFree (m : Nat) (P : Nat → Nat) (c : Nat) : Bool := !(tab (fun i => ((P i : Nat) : Int)) m).contains (c : Int)
def nvsTo (p k : Nat) (B : List (Nat → Nat)) (P : Nat → Nat) : Nat → List (Nat → Nat)
  | 0 => []
  | c + 1 => if isFree B.length P c = true then nvsTo p k B P c ++ [nvTo p k c B P B.length] else nvsTo p k B P c
theorem nvsTo_len (p k : Nat) (B : List (Nat → Nat)) (P : Nat → Nat) : ∀ c, (nvsTo p k B P c).length ≤ c
  | 0 => Nat.le_refl _
  | c + 1 => by
    have := nvsTo_len p k B P c
    unfold nvsTo
    split
    · simp; omega
    · omega
theorem nvTo_lt {p k c : Nat} {B : List (Nat → Nat)} {P : Nat → Nat} (h2 : 2 ≤ p) (hk : 1 ≤ k) : ∀ i j, nvTo p k c B P i j < p ^ k
  | 0, j => by
    have := one_lt_pow' h2 hk
    unfold nvTo; split <;> omega
  | i + 1, j => by
    unfold nvTo; split
    · exact negF_lt (by omega) _
    · exact nvTo_lt h2 hk i j
theorem nvsTo_lt {p k n : Nat} {B : List (Nat → Nat)} {P : Nat → Nat} (h2 : 2 ≤ p) (hk : 1 ≤ k) : ∀ c, AllLt (p ^ k) n (nvsTo p k B P c)
  | 0 => fun f hf => by cases hf
  | c + 1 => fun f hf j hj => by
    unfold nvsTo at hf
    split at hf
    · rcases List.mem_append.1 hf with hf | hf
      · exact nvsTo_lt h2 hk c f hf j hj
      · obtain rfl : f = _ := by simpa using hf
        exact nvTo_lt h2 hk _ _
    · exact nvsTo_lt h2 hk c f hf j hj

/-- The world of the inner loop: a row of the call's own, told by a function. -/
theorem OwnF.nat {w0 wr : World} {g N cap : Nat} {f f' : Nat → Nat} (h : OwnF w0 wr g N cap (fun j => ((f j : Nat) : Int))) (he : ∀ j, j < N → f j = f' j) : OwnF w0 wr g N cap (fun j => ((f' j : Nat) : Int)) := h.congr fun j hj => by rw [he j hj]

set_option maxHeartbeats 4000000 in
set_option maxRecDepth 100000 in
theorem normal_any (p k n b : Nat) (low : List Int) (ao : Option Addr) (len cap : Nat) (rows : List (Nat → Nat)) (P : Nat → Nat) (w : World) (hF : IsField p k low) (hb : RoomAt w b p k low n) (hn1 : 1 ≤ n) (hn6 : n ≤ 6) (hlen : rows.length = len) (hbig : len ≤ 100) (hlt : AllLt (p ^ k) n rows)
    (hP : ∀ i, i < (basN p k low n rows).length → leadOf n (fAt (basN p k low n rows) i) = (P i : Nat) ∧ P i < n) (hr : ReadsL w ao (rowsN n rows)) :
    Calls Tryd.prog 36 #[.pointer (some ⟨b, 0, none⟩), .slice ao len cap] w fun e w' => ∃ (bo : Option Addr) (bcap : Nat),
      e = .returned (.slice bo (basN p k low n (nvsTo p k (basN p k low n rows) P n)).length bcap) ∧ ReadsL w' bo (rowsN n (basN p k low n (nvsTo p k (basN p k low n rows) P n))) ∧ Ext w w' := by
  have HBA := Lib.hid (basis_any p k n b low ao len cap rows w hF hb hn1 hn6 hlen hbig hlt hr)
  have hp0 : 0 < p := by have := hF.p2; omega
  have hBL : (basN p k low n rows).length ≤ n := (redN_len p k low rows n).2
  have hBT : AllLt (p ^ k) n (basN p k low n rows) := (redN_lt hp0 hlt n).2
  obtain ⟨B, hB⟩ : ∃ B, basN p k low n rows = B := ⟨_, rfl⟩
  rw [hB] at HBA hP hBL hBT ⊢
  have HB2 : Hid (∀ (xo : Option Addr) (xc : Nat) (W : World), Ext w W → ReadsL W xo (rowsN n (nvsTo p k B P n)) → _) := fun xo xc W (hx : Ext w W) h => basis_any p k n b low xo (nvsTo p k B P n).length xc (nvsTo p k B P n) W hF (hb.ext hx) hn1 hn6 rfl (by have := nvsTo_len p k B P n; omega) (nvsTo_lt hF.p2 hF.k1 n) h
  have HIX : Hid (∀ (W : World) (x : Nat) (ar : Option Addr) (ac : Nat), x < p ^ k → Reads W ar (ints (addR p k (p ^ k) x)) → _) := fun W x ar ac (_ : x < p ^ k) hrd => index_any ar (p ^ k) ac (addR p k (p ^ k) x) 0 W (tab_length _ _) (by have := hF.big; unfold maxLen; omega) hrd
  have HNG : Hid (∀ x, idxFrom (fun y => (0 : Int) == y) (addR p k (p ^ k) x) 0 = (negF p k x : Nat)) := fun x => neg_at hF x
  have HB := Lib.hid hb
  have HP := Lib.hid hP
  have HBT := Lib.hid hBT
  have HNL : Hid (∀ c, (nvsTo p k B P c).length ≤ c) := nvsTo_len p k B P
  have h64 := hF.big
  obtain ⟨m, hm⟩ : ∃ m, B.length = m := ⟨_, rfl⟩
  have HM := Lib.hid hm
  rw [hm] at HBA HP hBL
  have HLE : Hid (tab (fun i => leadOf n (fAt B i)) m = tab (fun i => ((P i : Nat) : Int)) m) := tab_congr _ _ _ fun i hi => (HP.out i hi).1
  clear hF hb hP hr hlt hBT hB hm hlen hbig
  go_enter Tryd.func36, Tryd.ntmps36
  go_wp2_with fail
  refine Calls.mono HBA.out ?_
  rintro e w1 ⟨bo, bcap, rfl, hrd, hx⟩
  have HX1 := Lib.hid hx
  have HR1 := Lib.hid hrd
  have HLD := leads_any n bo m bcap B w1 HM.out (by omega) (by omega) hrd
  rw [HLE.out] at HLD
  have HLD := Lib.hid HLD
  clear hx hrd
  go_wp2_with fail
  refine Calls.mono HLD.out ?_
  rintro e w2 ⟨v, rfl, fo, fl, fc, rfl, hfr, hfx⟩
  obtain rfl : m = fl := by have := hfr.length; rw [ints_length, tab_length] at this; omega
  have HX2 := Lib.hid (HX1.out.trans hfx)
  have HR2 := Lib.hid (HR1.out.ext hfx)
  have HF2 := Lib.hid hfr.reads
  obtain ⟨xo, xm, xs, xi, x1, x2, x3, x4, k1, _, _, _⟩ := (HB.out.ext HX2.out).ex
  have k1 := k1.c 3 _ rfl
  have HTB0 : Hid (OwnTbl w2 w2 (.slice none 0 0) (rowsN n (nvsTo p k B P 0))) := OwnTbl.nil (Ext.refl _)
  clear hfr hfx
  go_wp2
  go_loopg [7, 21] n (fun g x y wr => ∃ c : Nat, c + g = n ∧ y = .int .i64 c ∧ OwnTbl w2 wr x (rowsN n (nvsTo p k B P c)))
  case atStart => exact ⟨0, by omega, rfl, HTB0.out⟩
  case round =>
    obtain ⟨c, hcg, rfl, hown⟩ := hrel
    obtain ⟨ta, tn, tc, rfl, htb, htx⟩ := hown
    have HT := Lib.hid htb
    have HTX := Lib.hid htx
    have hnl := HNL.out c
    have htn : (nvsTo p k B P c).length = tn := by have := htb.length; rwa [rowsN_length] at this
    clear htb htx HTB0 k1
    cases gk with
    | zero =>
      have hcz : ¬ ((c : Int) < (n : Int)) := by omega
      have HC9 := HB2.out ta tc wr (HX2.out.trans HTX.out) (by have := HT.out.readsL; rwa [show c = n by omega] at this)
      rw [show (nvsTo p k B P n).length = tn by rw [← show c = n by omega]; exact htn] at HC9
      have HC9 := Lib.hid HC9
      go_wp2_with fail
      refine Calls.mono HC9.out ?_
      rintro e w9 ⟨bo9, bc9, rfl, hrd9, hx9⟩
      have HE := Lib.hid ((HX2.out.trans HTX.out).trans hx9)
      have HRR := Lib.hid hrd9
      clear hx9 hrd9
      go_wp2
      go_ret
      exact ⟨bo9, bc9, rfl, HRR.out, HE.out⟩
    | succ g1 =>
      have hcl : (c : Int) < (n : Int) := by omega
      have HCO := Lib.hid (contains_any fo m fc (tab (fun i => ((P i : Nat) : Int)) m) c wr (tab_length _ _) (by unfold maxLen; omega) (HTX.out.reads HF2.out))
      have HSTP : Hid (nvsTo p k B P (c + 1) = if (!(tab (fun i => ((P i : Nat) : Int)) m).contains (c : Int)) = true then nvsTo p k B P c ++ [nvTo p k c B P m] else nvsTo p k B P c) := by show _ = _; rw [← HM.out]; rfl
      obtain ⟨ct, hct⟩ : ∃ ct, (tab (fun i => ((P i : Nat) : Int)) m).contains (c : Int) = ct := ⟨_, rfl⟩
      rw [hct] at HCO HSTP
      have HCT := Lib.hid hct
      clear hct
      cases ct with
      | true =>
        go_wp2_with fail
        refine Calls.mono HCO.out ?_
        rintro e w5 ⟨rfl, rfl⟩
        go_wp2
        go_roundg g1
        case measure => omega
        case rel => exact ⟨c + 1, by omega, by go_num, ta, tn, tc, rfl, by rw [HSTP.out]; exact HT.out, HTX.out⟩
      | false =>
        go_wp2_with fail
        refine Calls.mono HCO.out ?_
        rintro e w5 ⟨rfl, rfl⟩
        have hmk := mk_ints n (by omega) w5
        obtain ⟨xo, xm, xs, xi, x1, x2, x3, x4, k1, _, _, _⟩ := (HB.out.ext (HX2.out.trans HTX.out)).ex
        have k1 := k1.c 3 _ rfl
        have h0 : OwnF w5 (w5.alloc (.cells (madeCells #[.int .i64 0] n) 3)) w5.heap.size n n (fun _ => 0) := ⟨(Ext.refl _).alloc _, by rw [← tab_zero]; exact RowOf.made w5 n (by omega) rfl⟩
        have t1 := h0.at (j := c) (by omega)
        have t2 := h0.f c
        have HOW : Hid (OwnF w5 (w5.alloc (.cells ((madeCells #[.int .i64 0] n).setIfInBounds c (.int .i64 1)) 3)) w5.heap.size n n (fun j => ((nvTo p k c B P 0 j : Nat) : Int))) := by
          have h1 := h0.set (j := c) (by omega) 1
          rw [World.setCell_alloc_at _ _ _ _ _ rfl] at h1
          exact h1.congr fun j hj => by unfold upd nvTo; split <;> rfl
        clear h0
        go_wp2
        obtain ⟨wm, hwm⟩ : ∃ wm, wm = w5.alloc (.cells ((madeCells #[.int .i64 0] n).setIfInBounds c (.int .i64 1)) 3) := ⟨_, rfl⟩
        rw [← hwm] at HOW ⊢
        obtain ⟨rb, hrb⟩ : ∃ rb, rb = w5.heap.size := ⟨_, rfl⟩
        rw [← hrb] at HOW ⊢
        clear hmk hwm k1 t1 t2 hrb
        go_loopg [37] m (fun g2 x wy => ∃ i : Nat, i + g2 = m ∧ x = .int .i64 i ∧ OwnF w5 wy rb n n (fun j => ((nvTo p k c B P i j : Nat) : Int)))
        case atStart => exact ⟨0, by omega, rfl, HOW.out⟩
        case round =>
          obtain ⟨i, hig, rfl, how⟩ := hrel
          have HO := Lib.hid how
          have hszo := how.ext.size
          have hsz2 := HTX.out.size
          clear how HOW
          cases gk with
          | zero =>
            have hiz : ¬ ((i : Int) < (m : Int)) := by omega
            obtain rfl : i = m := by omega
            have HRW : Hid (RowOf 3 wr w5.heap.size (some ⟨rb, 0, none⟩) n n (ints (nrow (nvTo p k c B P i) n))) := HO.out.row
            have HXY := Lib.hid HO.out.ext
            go_wp2_with (at_builtin; (refine wpList_appRow (w := wr) rfl (.tmp 60) (.tmp 62) rfl (fun b => w2.heap.size ≤ b) w2.heap.size (by rfl) (HT.out.ext HXY.out) (by rfl) (HRW.out.innerX _ _ (fun b hb => by omega) (fun b hb => (HT.out.block b hb).2) (by unfold maxLen; omega)) (by omega) (by omega) ?_; intro ao4 cap4 w4 hr4 hg4 hb4; have HR4 := Lib.hid hr4; have HB4 := Lib.hid (hb4 _ _ (HTX.out.trans HXY.out) (Nat.le_refl _)); clear hr4 hg4 hb4))
            go_roundg g1
            case measure => omega
            case rel => exact ⟨c + 1, by omega, by go_num, ao4, tn + 1, cap4, rfl, by rw [HSTP.out, if_pos (show (!false) = true from rfl)]; unfold rowsN at HR4 ⊢; rw [List.map_append]; exact HR4.out, HB4.out⟩
          | succ g2 =>
            have hil : (i : Int) < (m : Int) := by omega
            have hlt : i < m := by omega
            have HE := Lib.hid (HTX.out.trans HO.out.ext)
            obtain ⟨bm0, om0, rfl, _, hrw⟩ := HR2.out.row (by rw [rowsN_length, HM.out]; omega)
            obtain ⟨ra, rc, q1, hrd, _⟩ := hrw i (by rw [rowsN_length, HM.out]; omega)
            rw [row_rowsN n B (by rw [HM.out]; exact hlt)] at q1 hrd
            rw [nrow_length] at q1
            obtain ⟨br, orr, rfl, _, hcr⟩ := Reads.int hrd (by rw [nrow_length]; omega)
            have q2 := hcr c (by rw [nrow_length]; omega)
            rw [nth_nrow _ (by omega : c < n)] at q2
            obtain ⟨bf, off, rfl, _, hcf⟩ := Reads.int HF2.out (by rw [tab_length]; omega)
            have q3 := hcf i (by rw [tab_length]; exact hlt)
            rw [nth_tab _ _ _ hlt] at q3
            have hx := HBT.out.at (show i < B.length by rw [HM.out]; exact hlt) c (by omega)
            obtain ⟨so, sc, q4, hadd⟩ := (HB.out.ext HX2.out).addAt
            obtain ⟨x, hxx⟩ : ∃ x, fAt B i c = x := ⟨_, rfl⟩
            have HXX := Lib.hid hxx
            rw [hxx] at q2 hx
            obtain ⟨bs, os, ats, asc, rfl, q5, q6, _⟩ := hadd x hx
            have HIXX : Hid (∀ W, Ext w2 W → _) := fun W (hx' : Ext w2 W) => HIX.out W x ats asc hx (hx'.reads q6)
            have HNGX := HNG.out x
            obtain ⟨pi, hpi⟩ : ∃ pi, P i = pi := ⟨_, rfl⟩
            have hpn := (HP.out i hlt).2
            rw [hpi] at q3 hpn
            obtain ⟨q, hq⟩ : ∃ q, p ^ k = q := ⟨_, rfl⟩
            rw [HNGX] at HIXX
            rw [hq] at q4 q5 HIXX hx
            have d1 : (x : Int) < (q : Int) := by omega
            have d2 : (pi : Int) < (n : Int) := by omega
            obtain ⟨ng, hng⟩ : ∃ ng, negF p k x = ng := ⟨_, rfl⟩
            rw [hng] at HIXX
            have HNX : Hid (∀ j, upd (fun j => ((nvTo p k c B P i j : Nat) : Int)) pi ng j = ((nvTo p k c B P (i + 1) j : Nat) : Int)) := fun j => by
              show (if j = pi then (ng : Int) else _) = ((if j = P i then negF p k (fAt B i c) else nvTo p k c B P i j : Nat) : Int)
              rw [hpi, hxx, hng]
              split <;> rfl
            have HS : Hid (∀ W, Ext w2 W → W.cell? ⟨bm0, om0 + i, none⟩ = some (.slice (some ⟨br, orr, none⟩) n rc) ∧ W.cell? ⟨br, orr + c, none⟩ = some (.int .i64 x) ∧ W.cell? ⟨bf, off + i, none⟩ = some (.int .i64 pi) ∧ W.cell? ⟨b, 6, none⟩ = some (.slice (some ⟨bs, os, none⟩) q sc) ∧ W.cell? ⟨bs, os + x, none⟩ = some (.slice ats q asc)) := fun W h => by
              have key : ∀ c o u, w2.cell? ⟨c, o, none⟩ = some u → W.cell? ⟨c, o, none⟩ = some u := fun c o u hu => (h.cell (World.block_lt_of_cell? w2 _ hu)).trans hu
              exact ⟨key _ _ _ q1, key _ _ _ q2, key _ _ _ q3, key _ _ _ q4, key _ _ _ q5⟩
            have kk := (HS.out wr HE.out).1
            have HRBL : Hid (w2.heap.size ≤ rb) := Nat.le_trans hsz2 HO.out.lt.1
            clear hrw hcr hcf hadd q1 q2 q3 q4 q5 q6 hxx hpi hq hng HNGX
            go_upto_region 13 with fail
            go_region_held3 (fun w' => w'.cell? ⟨bm0, om0 + i, none⟩ = some (.slice (some ⟨br, orr, none⟩) n rc) ∧ w'.cell? ⟨br, orr + c, none⟩ = some (.int .i64 x) ∧ w'.cell? ⟨bf, off + i, none⟩ = some (.int .i64 pi) ∧ w'.cell? ⟨b, 6, none⟩ = some (.slice (some ⟨bs, os, none⟩) q sc) ∧ w'.cell? ⟨bs, os + x, none⟩ = some (.slice ats q asc)) (first | (refine HS.out _ ?_; first | exact HE.out.drew | exact HE.out | exact (HE.out.set HRBL.out _).drew | exact HE.out.set HRBL.out _ | exact HE.out.drew.set HRBL.out _))
              ((first | (go_at_call 61; refine Calls.mono (HIXX.out _ HE.out.drew) ?_; rintro e w5 ⟨rfl, rfl⟩; have t1 := (HO.out.drew).at hpn; have t2 := (HO.out.drew).f pi) | fail))
            all_goals
              go_wp2
              go_roundg g2
              case measure => omega
              case rel => exact ⟨i + 1, by omega, by go_num, by first | exact ((HO.out.drew).set hpn _).congr fun j _ => HNX.out j | exact ((HO.out.set hpn _).drew).congr fun j _ => HNX.out j⟩

end Go.Proofs.YtnhdngnolepkcaaDoor
