/- What the basis of rows is. No conditions but the room. -/
import Derived.Test.YtnhdngnolepkcaaDoorJgipkdfejpf
import Derived.Deep.LoopGhost
import Derived.Deep.DeepCutAuto
import Derived.Outline
namespace Go.Proofs.YtnhdngnolepkcaaDoor
open Go.RowKit

set_option maxHeartbeats 4000000 in
set_option maxRecDepth 100000 in
theorem basis_any (p k n b : Nat) (low : List Int) (ao : Option Addr) (len cap : Nat) (rows : List (Nat → Nat)) (w : World) (hF : IsField p k low) (hb : RoomAt w b p k low n) (hn1 : 1 ≤ n) (hn6 : n ≤ 6) (hlen : rows.length = len) (hbig : len ≤ 100) (hlt : AllLt (p ^ k) n rows)
    (hr : ReadsL w ao (rowsN n rows)) :
    Calls Tryd.prog 44 #[.pointer (some ⟨b, 0, none⟩), .slice ao len cap] w fun e w' => ∃ (bo : Option Addr) (bcap : Nat), e = .returned (.slice bo (basN p k low n rows).length bcap) ∧ ReadsL w' bo (rowsN n (basN p k low n rows)) ∧ Ext w w' := by
  obtain ⟨vs0, hr0, hrows⟩ := hr
  have hvl : vs0.length = len := by rw [hrows.1, rowsN_length, hlen]
  have hone : ∀ v ∈ vs0, v.oneCell' = true := fun v hv => by
    obtain ⟨j, hj, rfl⟩ := List.mem_iff_getElem.1 hv
    obtain ⟨a, c, e, _⟩ := hrows.2 j _ (List.getElem?_eq_getElem hj)
    rw [e]; rfl
  have HCL := Lib.hid (clone_rows ao len cap vs0 w hvl (by omega) hone hr0)
  have HS0 := Lib.hid hr0
  have HR0 := Lib.hid hrows
  have hp0 : 0 < p := by have := hF.p2; omega
  have h64 := hF.big
  have HLT : Hid (∀ c, AllLt (p ^ k) n (redN p k low rows c).1 ∧ AllLt (p ^ k) n (redN p k low rows c).2) := redN_lt hp0 hlt
  have HLN : Hid (∀ c, (redN p k low rows c).1.length ≤ len ∧ (redN p k low rows c).2.length ≤ c) := fun c => by rw [← hlen]; exact redN_len p k low rows c
  have HIV : Hid (∀ a, a ≠ 0 → a < p ^ k → invI p k low (p ^ k) a = (invN p k low a : Nat) ∧ invN p k low a < p ^ k) := fun a h0 h1 => ⟨(invI_at hF h0 h1).1, (invI_at hF h0 h1).2.1⟩
  have HSC : Hid (∀ (a : Nat) (fo : Option Addr) (fc : Nat) (f : Nat → Nat) (W : World), Ext w W → (∀ j, j < n → f j < p ^ k) → a < p ^ k → Reads W fo (ints (nrow f n)) → _) := fun a fo fc f W (hx : Ext w W) hf ha hrd => scale_any p k n b n a low fo fc f W (hb.ext hx) (by omega) hf ha hrd
  have HLS : Hid (∀ (a : Nat) (fo go : Option Addr) (fc gc : Nat) (f g : Nat → Nat) (W : World), Ext w W → (∀ j, j < n → f j < p ^ k) → (∀ j, j < n → g j < p ^ k) → a < p ^ k → Reads W fo (ints (nrow f n)) → Reads W go (ints (nrow g n)) → _) := fun a fo go fc gc f g W (hx : Ext w W) hf hg ha h1 h2 => less_any p k n b n a low fo go fc gc f g W hF (hb.ext hx) (by omega) hf hg ha h1 h2
  have HB := Lib.hid hb
  have HL0 : Hid (redN p k low rows 0 = (rows, [])) := rfl
  have HST : Hid (∀ c, redN p k low rows (c + 1) = stepN p k low c (redN p k low rows c)) := fun c => rfl
  obtain ⟨q, hq⟩ : ∃ q, p ^ k = q := ⟨_, rfl⟩
  have HQ := Lib.hid hq
  rw [hq] at HLT HIV HSC HLS h64
  clear hr0 hrows hvl hone hF hb hlt hq
  go_enter Tryd.func44, Tryd.ntmps44
  go_wp2_with fail
  go_step3
  go_wp2_with fail
  refine Calls.mono HCL.out ?_
  rintro e w1 ⟨ao1, cap1, rfl, hrow, hx⟩
  have HLO : Hid (LO w w1 n ao1 len cap1 none 0 0 rows []) := LO.start HS0.out HR0.out hrow hx
  obtain ⟨fo, mo, so, io, fc, mc, sc, ic, k1, _, _, _⟩ := (HB.out.ext hx).ex
  have k1 := k1.c 3 _ rfl
  clear hrow hx
  go_wp2
  go_step3
  go_wp2
  go_loopg [5, 6, 21] n (fun g x y z wr => ∃ (c : Nat) (ao bo : Option Addr) (m cap l bcap : Nat), c + g = n ∧ z = .int .i64 c ∧ x = .slice ao m cap ∧ y = .slice bo l bcap ∧ LO w wr n ao m cap bo l bcap (redN p k low rows c).1 (redN p k low rows c).2)
  case atStart => exact ⟨0, ao1, none, len, cap1, 0, 0, by omega, rfl, rfl, rfl, by rw [HL0.out]; exact HLO.out⟩
  case round =>
    obtain ⟨c, la, oa, m, lc, l, oc, hcg, rfl, rfl, rfl, hlo⟩ := hrel
    have HO := Lib.hid hlo
    have HLNC := HLN.out c
    have HM := hlo.llen
    have HN := hlo.olen
    clear hlo HLO k1
    obtain ⟨L, hL⟩ : ∃ L, (redN p k low rows c).1 = L := ⟨_, rfl⟩
    obtain ⟨M, hM⟩ : ∃ M, (redN p k low rows c).2 = M := ⟨_, rfl⟩
    have HRC : Hid (redN p k low rows c = (L, M)) := by show _ = _; rw [← hL, ← hM]
    have HAL := Lib.hid (HLT.out c).1
    have HAM0 := Lib.hid (HLT.out c).2
    rw [hL] at HO HLNC HM HAL
    rw [hM] at HO HLNC HN HAM0
    clear hL hM
    cases gk with
    | zero =>
      have hcz : ¬ ((c : Int) < (n : Int)) := by omega
      have HOUT := HO.out.swap
      obtain ⟨us, hu1, hu2⟩ := HO.out.out
      have HRL : Hid (ReadsL wr oa (rowsN n M)) := ⟨us, hu1.reads, hu2.1, fun j v hv => (hu2.2 j v hv).inner⟩
      have HBN : Hid (basN p k low n rows = M) := by show _ = _; unfold basN; rw [show n = c by omega, HRC.out]
      have HEX := Lib.hid HO.out.ext
      clear hu1 hu2 HOUT
      go_wp2
      try rw [Exit.noGoto_ret]
      go_ret
      rw [HBN.out, HN]
      exact ⟨oa, oc, rfl, HRL.out, HEX.out⟩
    | succ g1 =>
      have hcl : (c : Int) < (n : Int) := by omega
      have HSTC := HST.out c
      rw [HRC.out] at HSTC
      have HSTC := Lib.hid HSTC
      go_wp2
      go_loopg [5, 6, 26] m (fun g2 y5 y6 x wy => ∃ i : Nat, i + g2 = m ∧ x = .int .i64 i ∧ y5 = .slice la m lc ∧ y6 = .slice oa l oc ∧ wr = wy ∧ Hid (∀ j, j < i → fAt L j c = 0))
      case atStart => exact ⟨0, by omega, rfl, rfl, rfl, rfl, fun j hj => by omega⟩
      case round =>
        obtain ⟨i, hig, rfl, rfl, rfl, rfl, HZ⟩ := hrel
        cases gk with
        | zero =>
          have hiz : ¬ ((i : Int) < (m : Int)) := by omega
          have HNX : Hid (redN p k low rows (c + 1) = (L, M)) := by
            show _ = _
            rw [HSTC.out]; unfold stepN
            rw [pivN_none (fun j hj => HZ.out j (by omega))]
          go_wp2
          go_roundg g1
          case measure => omega
          case rel => exact ⟨c + 1, la, oa, m, lc, l, oc, by omega, by go_num, rfl, rfl, by rw [HNX.out]; exact HO.out⟩
        | succ g2 =>
          have hil : (i : Int) < (m : Int) := by omega
          obtain ⟨g0, ra, rc, rfl, hg1, hg2, q1, _, hrd⟩ := HO.out.rowAt (show i < m by omega)
          obtain ⟨br, orr, rfl, hbr, hcr⟩ := Reads.int hrd (by rw [nrow_length]; omega)
          have q2 := hcr c (by rw [nrow_length]; omega)
          rw [nth_nrow _ (by omega : c < n)] at q2
          have hfl := HAL.out.at (show i < L.length by omega)
          have hfc := hfl c (by omega)
          obtain ⟨x, hx⟩ : ∃ x, fAt L i c = x := ⟨_, rfl⟩
          have HXX := Lib.hid hx
          rw [hx] at q2 hfc
          have HRD := Lib.hid hrd
          have HFL := Lib.hid hfl
          clear hx hrd hfl hcr
          by_cases h0 : x = 0
          · have d1 : ((x : Int) == 0) = true := by rw [h0]; rfl
            have H0 := Lib.hid h0
            clear h0
            go_wp2
            go_roundg g2
            case measure => omega
            case rel => exact ⟨i + 1, by omega, by go_num, rfl, rfl, rfl, fun j hj => by
              rcases Nat.lt_succ_iff_lt_or_eq.1 hj with h | rfl
              · exact HZ.out j h
              · rw [HXX.out]; exact H0.out⟩
          · have d1 : ((x : Int) == 0) = false := by rw [beq_eq_false_iff_ne]; omega
            obtain ⟨hiv, hivl⟩ := HIV.out x h0 hfc
            have HPV : Hid (pivN c L = some i) := pivN_is (by omega) (by rw [HXX.out]; exact h0) HZ.out
            clear h0
            obtain ⟨ld, hld⟩ : ∃ ld, leadN p k low c (fAt L i) = ld := ⟨_, rfl⟩
            have HLDB : Hid (∀ j, j < n → ld j < q) := fun j _ => by rw [← hld, ← HQ.out]; exact leadN_lt hp0 c _ j
            have HSCI : Hid (∀ W, Ext wr W → Calls Tryd.prog 62 #[.pointer (some ⟨b, 0, none⟩), .slice (some ⟨br, orr, none⟩) n rc, .int .i64 (invN p k low x : Nat)] W fun e w' => ∃ v, e = .returned v ∧ OwnInts wr w' v (nrow ld n)) := fun W hx =>
              (HSC.out (invN p k low x) (some ⟨br, orr, none⟩) rc (fAt L i) W (HO.out.ext.trans hx) HFL.out hivl (hx.reads HRD.out)).mono fun e w' ⟨v, he, ho⟩ => ⟨v, he, by rw [← hld]; have h9 := OwnInts.back hx ho; unfold leadN; rw [HXX.out]; exact h9⟩
            obtain ⟨iv, hivx⟩ : ∃ iv, invN p k low x = iv := ⟨_, rfl⟩
            rw [hivx] at hiv hivl HSCI
            obtain ⟨fo, mo, so, io, fc, mc, sc, ic, r1, _, _, r4⟩ := (HB.out.ext HO.out.ext).ex
            rw [HQ.out] at r1 r4
            have r7 := r1.c 7 _ rfl
            obtain ⟨bi, oi, rfl, hbi, hci⟩ := Reads.int r4 (by rw [tab_length]; omega)
            have r8 := hci x (by rw [tab_length]; exact hfc)
            rw [nth_tab _ _ _ hfc, hiv] at r8
            have HS3 : Hid (∀ W, Ext wr W → W.cell? ⟨br, orr + c, none⟩ = some (.int .i64 x) ∧ W.cell? ⟨b, 7, none⟩ = some (.slice (some ⟨bi, oi, none⟩) q ic) ∧ W.cell? ⟨bi, oi + x, none⟩ = some (.int .i64 iv)) := fun W h => by
              have key : ∀ c o u, wr.cell? ⟨c, o, none⟩ = some u → W.cell? ⟨c, o, none⟩ = some u := fun c o u hu => (h.cell (World.block_lt_of_cell? wr _ hu)).trans hu
              exact ⟨key _ _ _ q2, key _ _ _ r7, key _ _ _ r8⟩
            have HHD : Hid (∃ hh, hh = lessN p k low ld c) := ⟨_, rfl⟩
            have HNXT : Hid (redN p k low rows (c + 1) = ((L.eraseIdx i).map (lessN p k low ld c), M.map (lessN p k low ld c) ++ [ld])) := by
              show _ = _
              rw [HSTC.out]; unfold stepN
              rw [HPV.out, ← hld]
            clear hld hivx hci r1 r4 r7 r8
            go_upto_region 10 with fail
            go_cut [10] (fun s10 wx => OwnInts wr wx s10 (nrow ld n))
            case first =>
              go_region_held3 (fun w' => w'.cell? ⟨br, orr + c, none⟩ = some (.int .i64 x) ∧ w'.cell? ⟨b, 7, none⟩ = some (.slice (some ⟨bi, oi, none⟩) q ic) ∧ w'.cell? ⟨bi, oi + x, none⟩ = some (.int .i64 iv)) (first | (refine HS3.out _ ?_; first | exact (Ext.refl _).drew | exact HX5.out))
                ((first | (go_at_call 62; refine Calls.mono (HSCI.out _ ((Ext.refl _).drew)) ?_; rintro e w5 ⟨v5, rfl, ho5⟩; have HO5 := Lib.hid ho5; have HX5 : Hid (Ext wr w5) := (by obtain ⟨_, _, _, _, _, h⟩ := ho5; exact h); clear ho5) | fail))
              all_goals
                go_wp2_with fail
                go_meet
                exact HO5.out
            case rest =>
              obtain ⟨ldo, ldn, ldc, rfl, hlr, hlx⟩ := hcut
              obtain rfl : n = ldn := by have := hlr.length; rw [ints_length, nrow_length] at this; omega
              have HO2 := HO.out.carry hlx
              obtain ⟨vs, hvs1, hvs2⟩ := HO2.left
              have hone2 : ∀ v ∈ vs, v.oneCell' = true := fun v hv => by
                obtain ⟨j, hj, rfl⟩ := List.mem_iff_getElem.1 hv
                obtain ⟨a, c, e, _⟩ := hvs2.2 j _ (List.getElem?_eq_getElem hj)
                rw [e]; rfl
              have HDEL := Lib.hid (delete_rows m i g0 lc w.heap.size vs wc (by have := hvs1.length; omega) (by omega) (by omega) hone2 hvs1)
              have HLDO : Hid (∀ b9, (Value.slice ldo n ldc).ownBlock = some b9 → wr.heap.size ≤ b9) := fun b9 h9 => (hlr.block b9 h9).1
              have HOB : Hid (∀ b9, (Value.slice oa l oc).ownBlock = some b9 → b9 < wr.heap.size) := fun b9 h9 => (HO.out.swap.left.elim fun us h => (h.1.block b9 h9).2)
              have HG0 : Hid (g0 < wr.heap.size) := hg2
              have HDLO : Hid (∀ W', RowOf 22 W' w.heap.size (some ⟨g0, 0, none⟩) (m - 1) lc (vs.take i ++ vs.drop (i + 1)) → wc.grownBy W' (some g0) → LO w W' n (some ⟨g0, 0, none⟩) (m - 1) lc oa l oc (L.eraseIdx i) M) := fun W' h1 h2 => LO.del HO2 ⟨hvs1, hvs2⟩ (by omega) h1 h2
              have HLR := Lib.hid hlr
              have hwx := hlx.size
              have HX9 := Lib.hid hlx
              obtain ⟨hh, hhd⟩ : ∃ hh, lessN p k low ld c = hh := ⟨_, rfl⟩
              rw [hhd] at HNXT
              have HHD : Hid (hh = lessN p k low ld c) := hhd.symm
              obtain ⟨L1, hL1⟩ : ∃ L1, L.eraseIdx i = L1 := ⟨_, rfl⟩
              rw [hL1] at HNXT HDLO
              have HL1L : Hid (L1.length = m - 1) := by show _ = _; rw [← hL1, List.length_eraseIdx, if_pos (by omega)]; omega
              have HML : Hid (M.length = l) := HN
              have HAL1 : Hid (∀ j, j < m - 1 → ∀ a, a < n → fAt L1 j a < q) := fun j hj a ha => HAL.out _ (List.mem_of_mem_eraseIdx (show fAt L1 j ∈ L.eraseIdx i by rw [hL1]; exact fAt_mem (by rw [HL1L.out]; exact hj))) a ha
              have HAM : Hid (∀ j, j < l → ∀ a, a < n → fAt M j a < q) := fun j hj a ha => HAM0.out _ (fAt_mem (by rw [HML.out]; exact hj)) a ha
              clear hlr hlx HO2 hvs1 hvs2 hone2 hhd hL1
              obtain ⟨wo, rfl⟩ : ∃ wo : World, wo = wr := ⟨_, rfl⟩
              go_wp2_with fail
              refine Calls.mono HDEL.out ?_
              rintro e w2 ⟨rfl, hdr, hdg⟩
              have HT0 := Lib.hid (HDLO.out w2 hdr hdg)
              have HTD0 : Hid (RowOf 3 w2 wo.heap.size ldo n ldc (ints (nrow ld n))) := HLR.out.kept fun b9 h9 => hdg.block b9 (HLR.out.block b9 h9).2 fun e => by have := HLDO.out b9 h9; have := HG0.out; cases e; omega
              have hs2 := hdg.size
              have HT1 := Lib.hid (HT0.out.carry (ext_box w2 #[.slice (some ⟨g0, 0, none⟩) (m - 1) lc, .slice oa l oc] 25))
              have HTD1 := Lib.hid ((ext_box w2 #[.slice (some ⟨g0, 0, none⟩) (m - 1) lc, .slice oa l oc] 25).row HTD0.out)
              have HTB1 := Lib.hid (Blk.new w2 #[.slice (some ⟨g0, 0, none⟩) (m - 1) lc, .slice oa l oc] 25)
              clear hdr hdg
              go_wp2
              obtain ⟨bx, hbx⟩ : ∃ bx, w2.heap.size = bx := ⟨_, rfl⟩
              obtain ⟨w3, hw3⟩ : ∃ w3, w3 = w2.alloc (.cells #[.slice (some ⟨g0, 0, none⟩) (m - 1) lc, .slice oa l oc] 25) := ⟨_, rfl⟩
              rw [← hw3] at HT1 HTD1 HTB1
              rw [hbx] at HTB1
              rw [← hw3, hbx]
              have HBX : Hid (wo.heap.size ≤ bx) := by show _ ≤ _; omega
              clear hw3 hbx hs2
              go_loopg [58] 2 (fun g y wx => (g = 2 ∧ y = .int .i64 0 ∧ LO w wx n (some ⟨g0, 0, none⟩) (m - 1) lc oa l oc L1 M ∧ RowOf 3 wx wo.heap.size ldo n ldc (ints (nrow ld n)) ∧ Blk wx bx #[.slice (some ⟨g0, 0, none⟩) (m - 1) lc, .slice oa l oc] 25) ∨
                (g = 1 ∧ y = .int .i64 1 ∧ LO w wx n (some ⟨g0, 0, none⟩) (m - 1) lc oa l oc (L1.map hh) M ∧ RowOf 3 wx wo.heap.size ldo n ldc (ints (nrow ld n)) ∧ Blk wx bx #[.slice (some ⟨g0, 0, none⟩) (m - 1) lc, .slice oa l oc] 25) ∨
                (g = 0 ∧ y = .int .i64 2 ∧ LO w wx n (some ⟨g0, 0, none⟩) (m - 1) lc oa l oc (L1.map hh) (M.map hh) ∧ RowOf 3 wx wo.heap.size ldo n ldc (ints (nrow ld n)) ∧ Blk wx bx #[.slice (some ⟨g0, 0, none⟩) (m - 1) lc, .slice oa l oc] 25))
              case atStart => exact .inl ⟨rfl, rfl, HT1.out, HTD1.out, HTB1.out⟩
              case round =>
                rcases hrel with ⟨rfl, rfl, ht, htd, htb⟩ | ⟨rfl, rfl, ht, htd, htb⟩ | ⟨rfl, rfl, ht, htd, htb⟩
                · have HT := Lib.hid ht
                  have HTD := Lib.hid htd
                  have HTB := Lib.hid htb
                  have t1 := htb.two
                  clear ht htd htb HT1 HTD1 HTB1 HT0 HTD0
                  go_wp2
                  go_loopg [64] (m - 1) (fun g3 x wx => ∃ j : Nat, j + g3 = (m - 1) ∧ x = .int .i64 j ∧ LO w wx n (some ⟨g0, 0, none⟩) (m - 1) lc oa l oc (part hh L1 j) M ∧ RowOf 3 wx wo.heap.size ldo n ldc (ints (nrow ld n)) ∧ Blk wx bx #[.slice (some ⟨g0, 0, none⟩) (m - 1) lc, .slice oa l oc] 25)
                  case atStart => exact ⟨0, by omega, rfl, by rw [part_zero]; exact HT.out, HTD.out, HTB.out⟩
                  case round =>
                    obtain ⟨j, hjg, rfl, hlo, hld, hbx⟩ := hrel
                    have HJ := Lib.hid hlo
                    have HJD := Lib.hid hld
                    have HJB := Lib.hid hbx
                    clear hlo hld hbx
                    cases gk with
                    | zero =>
                      have hjz : ¬ ((j : Int) < (((m - 1 : Nat) : Int))) := by omega
                      have HPA : Hid (part hh L1 j = L1.map hh) := by
                        show _ = _
                        rw [show j = L1.length by have := HL1L.out; omega]; exact part_all hh L1
                      have HJ2 := HJ.out
                      rw [HPA.out] at HJ2
                      have HJ2 := Lib.hid HJ2
                      go_wp2
                      go_roundg 1
                      case measure => omega
                      case rel => exact .inr (.inl ⟨rfl, rfl, HJ2.out, HJD.out, HJB.out⟩)
                    | succ g3 =>
                      have hjl : (j : Int) < (((m - 1 : Nat) : Int)) := by omega
                      obtain ⟨gg, ra, rc, hgg, hg1, hg2, q1, q2, hrd⟩ := LO.rowAt HJ.out (show j < (m - 1) by omega)
                      obtain rfl : g0 = gg := by simpa using hgg
                      rw [part_at hh L1 (by have := HL1L.out; omega)] at hrd
                      obtain ⟨br, orr, hre, _, hcr⟩ := Reads.int hrd (by rw [nrow_length]; omega)
                      subst hre
                      have q3 := hcr c (by rw [nrow_length]; omega)
                      rw [nth_nrow _ (by omega : c < n)] at q3
                      have hoc := HAL1.out j (show j < (m - 1) by omega) c (by omega)
                      have HCALL := Lib.hid (HLS.out (fAt L1 j c) (some ⟨br, orr, none⟩) ldo rc ldc (fAt L1 j) ld wr HJ.out.ext (HAL1.out j (show j < (m - 1) by omega)) HLDB.out hoc hrd HJD.out.reads)
                      have HNX : Hid ((part hh L1 j).set j (hh (fAt L1 j)) = part hh L1 (j + 1)) := part_set hh L1 (by have := HL1L.out; omega)
                      have HHH : Hid (hh (fAt L1 j) = fun i => addF p k (fAt L1 j i) (mulF p k (nth low) (negF p k (fAt L1 j c)) (ld i))) := by show _ = _; rw [HHD.out]; rfl
                      obtain ⟨xc, hxc⟩ : ∃ xc, fAt L1 j c = xc := ⟨_, rfl⟩
                      rw [hxc] at q3 HCALL HHH hoc
                      clear hcr hrd hxc
                      go_wp2_with fail
                      refine Calls.mono HCALL.out ?_
                      rintro e w6 ⟨v6, rfl, vo, vk, vc, rfl, ho6r⟩
                      have hx6 : Ext wr w6 := ho6r.2
                      have ho6 : OwnInts wr w6 (.slice vo vk vc) _ := ⟨vo, vk, vc, rfl, ho6r⟩
                      rw [← HHH.out] at ho6
                      have HFR := Lib.hid (LO.fresh HJ.out ho6 (by rw [nrow_length]; unfold maxLen; omega))
                      have HJ6 := Lib.hid (LO.carry HJ.out hx6)
                      have HD6 := Lib.hid (hx6.row HJD.out)
                      have HB6 := Lib.hid (HJB.out.ext hx6)
                      have q4 := (hx6.cell (o := j) hg2).trans q1
                      have q5 : w6.frozen? ⟨g0, j, none⟩ = false := by
                        obtain ⟨vs9, h9, _⟩ := HJ6.out.left
                        exact h9.known.2.2.2 j
                      have HP6 := Lib.hid (LO.put HJ6.out (show j < (m - 1) by omega) HFR.out)
                      have hdl := fun (b9 : Nat) (h9 : (Value.slice ldo n ldc).ownBlock = some b9) => (HLDO.out b9 h9)
                      have hne1 : g0 < wo.heap.size := by
                        exact HG0.out
                      have HD7 := Lib.hid (HD6.out.beside ⟨g0, j, none⟩ hne1 (.slice vo vk vc))
                      have HB7 := Lib.hid (HB6.out.beside ⟨g0, j, none⟩ (by have := HBX.out; show g0 ≠ bx; omega) (.slice vo vk vc))
                      clear hx6 ho6 ho6r q1 q2 q3
                      go_wp2
                      go_roundg g3
                      case measure => omega
                      case rel => exact ⟨j + 1, by omega, by go_num, by rw [← HNX.out]; exact HP6.out, HD7.out, HB7.out⟩
                · have HT := Lib.hid ht
                  have HTD := Lib.hid htd
                  have HTB := Lib.hid htb
                  have t1 := htb.two
                  clear ht htd htb HT1 HTD1 HTB1 HT0 HTD0
                  go_wp2
                  go_loopg [64] l (fun g3 x wx => ∃ j : Nat, j + g3 = l ∧ x = .int .i64 j ∧ LO w wx n (some ⟨g0, 0, none⟩) (m - 1) lc oa l oc (L1.map hh) (part hh M j) ∧ RowOf 3 wx wo.heap.size ldo n ldc (ints (nrow ld n)) ∧ Blk wx bx #[.slice (some ⟨g0, 0, none⟩) (m - 1) lc, .slice oa l oc] 25)
                  case atStart => exact ⟨0, by omega, rfl, by rw [part_zero]; exact HT.out, HTD.out, HTB.out⟩
                  case round =>
                    obtain ⟨j, hjg, rfl, hlo, hld, hbx⟩ := hrel
                    have HJ := Lib.hid hlo
                    have HJD := Lib.hid hld
                    have HJB := Lib.hid hbx
                    clear hlo hld hbx
                    cases gk with
                    | zero =>
                      have hjz : ¬ ((j : Int) < ((l : Int))) := by omega
                      have HPA : Hid (part hh M j = M.map hh) := by
                        show _ = _
                        rw [show j = M.length by have := HML.out; omega]; exact part_all hh M
                      have HJ2 := HJ.out
                      rw [HPA.out] at HJ2
                      have HJ2 := Lib.hid HJ2
                      go_wp2
                      go_roundg 0
                      case measure => omega
                      case rel => exact .inr (.inr ⟨rfl, rfl, HJ2.out, HJD.out, HJB.out⟩)
                    | succ g3 =>
                      have hjl : (j : Int) < ((l : Int)) := by omega
                      obtain ⟨gg, ra, rc, hgg, hg1, hg2, q1, q2, hrd⟩ := LO.rowAt HJ.out.swap (show j < l by omega)
                      subst hgg
                      rw [part_at hh M (by have := HML.out; omega)] at hrd
                      obtain ⟨br, orr, hre, _, hcr⟩ := Reads.int hrd (by rw [nrow_length]; omega)
                      subst hre
                      have q3 := hcr c (by rw [nrow_length]; omega)
                      rw [nth_nrow _ (by omega : c < n)] at q3
                      have hoc := HAM.out j (show j < l by omega) c (by omega)
                      have HCALL := Lib.hid (HLS.out (fAt M j c) (some ⟨br, orr, none⟩) ldo rc ldc (fAt M j) ld wr HJ.out.ext (HAM.out j (show j < l by omega)) HLDB.out hoc hrd HJD.out.reads)
                      have HNX : Hid ((part hh M j).set j (hh (fAt M j)) = part hh M (j + 1)) := part_set hh M (by have := HML.out; omega)
                      have HHH : Hid (hh (fAt M j) = fun i => addF p k (fAt M j i) (mulF p k (nth low) (negF p k (fAt M j c)) (ld i))) := by show _ = _; rw [HHD.out]; rfl
                      obtain ⟨xc, hxc⟩ : ∃ xc, fAt M j c = xc := ⟨_, rfl⟩
                      rw [hxc] at q3 HCALL HHH hoc
                      clear hcr hrd hxc
                      go_wp2_with fail
                      refine Calls.mono HCALL.out ?_
                      rintro e w6 ⟨v6, rfl, vo, vk, vc, rfl, ho6r⟩
                      have hx6 : Ext wr w6 := ho6r.2
                      have ho6 : OwnInts wr w6 (.slice vo vk vc) _ := ⟨vo, vk, vc, rfl, ho6r⟩
                      rw [← HHH.out] at ho6
                      have HFR := Lib.hid (LO.fresh HJ.out.swap ho6 (by rw [nrow_length]; unfold maxLen; omega))
                      have HJ6 := Lib.hid (LO.carry HJ.out.swap hx6)
                      have HD6 := Lib.hid (hx6.row HJD.out)
                      have HB6 := Lib.hid (HJB.out.ext hx6)
                      have q4 := (hx6.cell (o := j) hg2).trans q1
                      have q5 : w6.frozen? ⟨gg, j, none⟩ = false := by
                        obtain ⟨vs9, h9, _⟩ := HJ6.out.left
                        exact h9.known.2.2.2 j
                      have HP6 := Lib.hid (LO.put HJ6.out (show j < l by omega) HFR.out)
                      have hdl := fun (b9 : Nat) (h9 : (Value.slice ldo n ldc).ownBlock = some b9) => (HLDO.out b9 h9)
                      have hne1 : gg < wo.heap.size := by
                        exact HOB.out _ rfl
                      have HD7 := Lib.hid (HD6.out.beside ⟨gg, j, none⟩ hne1 (.slice vo vk vc))
                      have HB7 := Lib.hid (HB6.out.beside ⟨gg, j, none⟩ (by have := HBX.out; show gg ≠ bx; omega) (.slice vo vk vc))
                      clear hx6 ho6 ho6r q1 q2 q3
                      go_wp2
                      go_roundg g3
                      case measure => omega
                      case rel => exact ⟨j + 1, by omega, by go_num, by rw [← HNX.out]; exact HP6.out.swap, HD7.out, HB7.out⟩
                · have HT := Lib.hid ht
                  have HTD := Lib.hid htd
                  have HTB := Lib.hid htb
                  clear ht htd htb HT1 HTD1 HTB1 HT0 HTD0
                  have HLE : Hid (InnerX wr (fun b => some b ≠ (Value.slice (some ⟨g0, 0, none⟩) (m - 1) lc).ownBlock) (Value.slice oa l oc).ownBlock (.slice ldo n ldc) (nrow ld n)) :=
                    HTD.out.innerOf _ _ (fun b9 h9 _ => ⟨fun e => by have h8 : b9 = g0 := Option.some.inj e; have := HG0.out; omega, fun e => by have := HOB.out b9 e.symm; omega⟩) (by unfold maxLen; omega)
                  obtain ⟨us, hus⟩ := HT.out.out
                  have HUS := Lib.hid hus
                  have hl9 : l ≤ 100 := by omega
                  have hwl := HT.out.ext.size
                  clear hus
                  go_wp2_with (at_builtin; refine wpList_one eRow rfl (.tmp 82) (.tmp 84) rfl w.heap.size (by rfl) ((ext_box wr #[.slice ldo n ldc] 22).row HUS.out.1) ⟨wr.heap.size, 0, none⟩ (.slice ldo n ldc) (by rfl) (by rw [World.cell?_alloc_at _ _ _ _ rfl]; rfl) rfl (by omega) (by simp; omega) ?_; intro oa9 oc9 w9 hr9 hg9 ha9)
                  have HX9 := ext_box wr #[.slice ldo n ldc] 22
                  have HF := Lib.hid (LO.snoc (HT.out.carry HX9) ⟨HX9.row HUS.out.1, HUS.out.2.1, fun j v hv => (HUS.out.2.2 j v hv).ext HX9⟩ (HLE.out.ext HX9) hr9 hg9 ha9)
                  clear hr9 hg9 ha9 HX9
                  have HNX2 : Hid (redN p k low rows (c + 1) = (L1.map hh, M.map hh ++ [ld])) := HNXT.out
                  go_roundg g1
                  case measure => omega
                  case rel => exact ⟨c + 1, some ⟨g0, 0, none⟩, oa9, m - 1, lc, l + 1, oc9, by omega, by go_num, rfl, rfl, by rw [HNX2.out]; exact HF.out⟩

end Go.Proofs.YtnhdngnolepkcaaDoor
