/- What parterreref3.BasisOf answers. No conditions but a field. -/
import Derived.Test.YthkafhmciapipaaDoorJfegecgecad
import Derived.Test.YthkafhmciapipaaDoorJfnnifeinhl
import Derived.Test.YthkafhmciapipaaDoorJlcigoklhbf
namespace Go.Proofs.YthkafhmciapipaaDoor
open Go.RowKit
set_option linter.unusedVariables false

theorem ldT_succ (q n : Nat) (T : Nat → Bool) (c : Nat) (h0 : c ≠ 0) (k : Nat) : ldT q n T (c + 1) k = (ldT q n T c k || (T c && leadOf n (opn q n c) == (k : Int))) := by
  unfold ldT
  rw [List.range_succ, List.any_append, List.any_cons, List.any_nil, decide_eq_true h0, Bool.true_and, Bool.or_false]
theorem ldT_one (q n : Nat) (T : Nat → Bool) (k : Nat) : ldT q n T 1 k = false := rfl
/-- No other begins where this one is not 0. -/
def okD (LD : Nat → Bool) (k : Nat) (fv : Nat → Nat) (j : Nat) : Bool := (List.range j).all fun j => !(LD j && (j != k && fv j != 0))
theorem okD_succ (LD : Nat → Bool) (k : Nat) (fv : Nat → Nat) (j : Nat) : okD LD k fv (j + 1) = (okD LD k fv j && !(LD j && (j != k && fv j != 0))) := by
  unfold okD; rw [List.range_succ, List.all_append, List.all_cons, List.all_nil, Bool.and_true]
theorem rowsK_len {q n : Nat} {T LD : Nat → Bool} {k : Nat} : ∀ C, (rowsK q n T LD k C).length ≤ C
  | 0 => Nat.le_refl _
  | C + 1 => by
    have := rowsK_len (q := q) (n := n) (T := T) (LD := LD) (k := k) C
    rw [rowsK]
    split
    · simp; omega
    · omega
theorem outK_len {q n N : Nat} {T LD : Nat → Bool} : ∀ k, (outK q n N T LD k).length ≤ k * N
  | 0 => by simp [outK]
  | k + 1 => by
    have h1 := outK_len (q := q) (n := n) (N := N) (T := T) (LD := LD) k
    have h2 := rowsK_len (q := q) (n := n) (T := T) (LD := LD) (k := k) N
    rw [outK, Nat.succ_mul]
    split
    · simp; omega
    · omega

set_option maxHeartbeats 16000000 in
set_option maxRecDepth 100000 in
theorem refBasisOf_any (p k n : Nat) (ao uo : Option Addr) (cap tcap : Nat) (low : List Int) (T : Nat → Bool) (w : World) (hF : IsField p k low) (hn1 : 1 ≤ n) (hn6 : n ≤ 6) (hbig : (p ^ k) ^ n ≤ 4096) (hr : Reads w uo (boolL T ((p ^ k) ^ n))) :
    Calls Tryd.prog 16 #[.agg #[.int .i64 p, .int .i64 k, .slice ao k cap], .int .i64 n, .slice uo ((p ^ k) ^ n) tcap] w fun e w' => ∃ v, e = .returned v ∧ OwnTbl w w' v (rowsN n (outK (p ^ k) n ((p ^ k) ^ n) T (ldT (p ^ k) n T ((p ^ k) ^ n)) n)) := by
  have hp0 : 0 < p := by have := hF.p2; omega
  have hq2 : 2 ≤ p ^ k := one_lt_pow' hF.p2 hF.k1
  haveI : FldP p k low := ⟨hF⟩
  have E0 := Lib.hid (ext_box w #[.int .i64 p, .int .i64 k, .slice ao k cap] 29)
  have F0 := Lib.hid (Blk.new w #[.int .i64 p, .int .i64 k, .slice ao k cap] 29)
  have HOP : Hid (∀ W c, c < 100000 → _) := fun W c hc => openOf_any p k n c ao k cap low W hF hn1 hn6 hc
  have HLO : Hid (∀ c, c < (p ^ k) ^ n → c ≠ 0 → ∃ i, i < n ∧ leadOf n (opn (p ^ k) n c) = i) := fun c hc h0 => lead_opn low hc h0
  have HLR : Hid (∀ (f : Nat → Nat) vo vcap W, Reads W vo (ints (tab (fun j => ((f j : Nat) : Int)) n)) → _) := fun (f : Nat → Nat) vo vcap W h => leadRef_any n vo vcap f W (by omega) h
  obtain ⟨q, hq⟩ : ∃ q, p ^ k = q := ⟨_, rfl⟩
  rw [hq] at hq2 HOP HLO hr hbig ⊢
  obtain ⟨N, hN⟩ : ∃ N, q ^ n = N := ⟨_, rfl⟩
  have hNpos : 0 < N := by rw [← hN]; exact Nat.pow_pos (by omega)
  rw [hN] at HLO hr hbig ⊢
  have htb : ∃ b off, uo = some ⟨b, off, none⟩ ∧ b < w.heap.size ∧ ∀ j, j < N → w.cell? ⟨b, off + j, none⟩ = some (.bool (T j)) := by
    rcases hr with h | ⟨b, off, h1, h2, h3⟩
    · have := congrArg List.length h; rw [boolL_length] at this; simp at this; omega
    · exact ⟨b, off, h1, h2, fun j hj => h3 j _ (boolL_get T hj)⟩
  obtain ⟨bt, ot, rfl, hbt, hct⟩ := htb
  have HCT := Lib.hid hct
  have HLDS : Hid (∀ c k, c ≠ 0 → ldT q n T (c + 1) k = (ldT q n T c k || (T c && leadOf n (opn q n c) == (k : Int)))) := fun c k h => ldT_succ q n T c h k
  obtain ⟨LDN, hLDN⟩ : ∃ LDN, ldT q n T N = LDN := ⟨_, rfl⟩
  have HLDN := Lib.hid hLDN
  rw [hLDN]
  have HRS : Hid (∀ k C, C ≠ 0 → rowsK q n T LDN k (C + 1) = if T C = true ∧ okC q n LDN k C = true then rowsK q n T LDN k C ++ [opn q n C] else rowsK q n T LDN k C) := fun k C h => by
    show _ = _
    rw [rowsK]
    by_cases h1 : T C = true ∧ okC q n LDN k C = true
    · rw [if_pos ⟨h, h1⟩, if_pos h1]
    · rw [if_neg (fun h2 => h1 h2.2), if_neg h1]
  have HOS : Hid (∀ k, outK q n N T LDN (k + 1) = if LDN k = true then outK q n N T LDN k ++ rowsK q n T LDN k N else outK q n N T LDN k) := fun k => by show _ = _; rw [outK]
  have HOL : Hid (∀ k, k ≤ n → (outK q n N T LDN k).length ≤ 6 * 4096) := fun k hk => by
    have h1 := outK_len (q := q) (n := n) (N := N) (T := T) (LD := LDN) k
    have h2 : k * N ≤ 6 * 4096 := Nat.mul_le_mul (by omega) hbig
    omega
  have HRL : Hid (∀ k C, (rowsK q n T LDN k C).length ≤ C) := fun k C => rowsK_len C
  have HR1 : Hid (∀ k, rowsK q n T LDN k 1 = []) := fun k => by show _ = _; rw [rowsK, if_neg (fun h => h.1 rfl)]; rfl
  clear hF hr hct hq hN hLDN
  go_enter Tryd.func16, Tryd.ntmps16
  obtain ⟨w0, hw0⟩ : ∃ w0, w0 = w.alloc (.cells #[.int .i64 p, .int .i64 k, .slice ao k cap] 29) := ⟨_, rfl⟩
  have hmk := mk_bools n (by omega) w0
  rw [hw0] at hmk
  have HT0 := Lib.hid (OwnB.made w0 n (by omega))
  obtain ⟨g, hg⟩ : ∃ g, w0.heap.size = g := ⟨_, rfl⟩
  have hs0 : w.heap.size + 1 = g := by rw [← hg, hw0]; simp
  rw [hg] at HT0
  go_wp2
  rw [← hw0] at E0 F0 ⊢
  clear hmk hw0
  try rw [hs0]
  obtain ⟨w1, hw1⟩ : ∃ w1, w1 = w0.alloc (.cells (madeCells #[.bool false] n) 4) := ⟨_, rfl⟩
  rw [← hw1] at HT0 ⊢
  have HGE := Lib.hid hg
  clear hw1 hg hs0
  go_loopg [8] (N - 1) (fun r x wr => ∃ c : Nat, 1 ≤ c ∧ c + r = N ∧ x = .int .i64 c ∧ OwnB w0 wr g n n (ldT q n T c))
  case atStart => exact ⟨1, by omega, by omega, rfl, HT0.out.congr fun j _ => by rw [ldT_one]⟩
  case round =>
    obtain ⟨c, hc1, hcN, rfl, ht⟩ := hrel
    have HT := Lib.hid ht
    clear ht HT0
    cases gk with
    | succ r1 =>
      have hcl : (c : Int) < (N : Int) := by omega
      have hcl' : c < N := by omega
      have t1 := (E0.out.trans HT.out.ext |>.cell hbt).trans (HCT.out c hcl')
      have HLDc : Hid (∀ k, _) := fun k => HLDS.out c k (by omega)
      obtain ⟨tc, htc⟩ : ∃ tc, T c = tc := ⟨_, rfl⟩
      rw [htc] at t1 HLDc
      clear htc
      cases tc with
      | false =>
        go_wp2
        go_roundg r1
        case measure => omega
        case rel => exact ⟨c + 1, by omega, by omega, by go_num, HT.out.congr fun j _ => by rw [HLDc.out]; simp⟩
      | true =>
        have k1 := (F0.out.ext HT.out.ext).three
        have HOC := Lib.hid (HOP.out wr c (by omega))
        obtain ⟨li, hli, hle⟩ := HLO.out c hcl' (by omega)
        have HLE := Lib.hid hle
        go_wp2_with fail
        refine Calls.mono HOC.out ?_
        rintro e w4 ⟨g2, cap2, rfl, hof⟩
        have hlr := HLR.out (opn q n c) (some ⟨g2, 0, none⟩) cap2 w4 hof.reads
        rw [hle] at hlr
        have HLRC := Lib.hid hlr
        have HT4 := Lib.hid (HT.out.carry hof.ext)
        clear k1 hof hle hlr
        go_wp2_with fail
        refine Calls.mono HLRC.out ?_
        rintro e w5 ⟨rfl, rfl⟩
        have k2 := HT4.out.cellAt hli
        have k3 := HT4.out.f li
        go_wp2
        go_roundg r1
        case measure => omega
        case rel => exact ⟨c + 1, by omega, by omega, by go_num, (HT4.out.set li true).congr fun j _ => by
          rw [HLDc.out, HLE.out, Bool.true_and]
          by_cases e : j = li
          · subst e; rw [if_pos rfl, beq_self_eq_true, Bool.or_true]
          · rw [if_neg e, show ((li : Int) == (j : Int)) = false from by rw [beq_eq_false_iff_ne]; omega, Bool.or_false]⟩
    | zero =>
      obtain rfl : N = c := by omega
      have HTL : Hid (OwnB w0 wr g n n LDN) := by rw [← HLDN.out]; exact HT.out
      obtain ⟨w2, rfl⟩ : ∃ w2 : World, w2 = wr := ⟨_, rfl⟩
      have HE0 : Hid (OwnTbl w2 w2 (.slice none 0 0) (rowsN n (outK q n N T LDN 0))) := OwnTbl.nil (Ext.refl _)
      go_wp2
      go_loopg [11, 12] n (fun r y x wx => ∃ kk : Nat, kk + r = n ∧ x = .int .i64 kk ∧ OwnTbl w2 wx y (rowsN n (outK q n N T LDN kk)))
      case atStart => exact ⟨0, by omega, rfl, HE0.out⟩
      case round =>
        obtain ⟨kk, hkn, rfl, hown⟩ := hrel
        obtain ⟨ta, tn, tc, rfl, htb, htx⟩ := hown
        have HTB := Lib.hid htb
        have HTX := Lib.hid htx
        have htn : (outK q n N T LDN kk).length = tn := by have := htb.length; rwa [rowsN_length] at this
        have htl := HOL.out kk (by omega)
        rw [htn] at htl
        clear htb htx HE0
        cases gk with
        | zero =>
          obtain rfl : n = kk := by omega
          go_wp2
          exact bodyPost_ret (v := .slice ta tn tc) (by simp [results, Tryd.results16, go_sem]) rfl ⟨_, rfl, OwnTbl.back (E0.out.trans HTL.out.ext) ⟨ta, tn, tc, rfl, HTB.out, HTX.out⟩⟩
        | succ r1 =>
          have hkl : (kk : Int) < (n : Int) := by omega
          have hkl' : kk < n := by omega
          have HL2 := Lib.hid (HTL.out.carry HTX.out)
          have k1 := HL2.out.cellAt hkl'
          have HOSk := Lib.hid (HOS.out kk)
          obtain ⟨ld, hld⟩ : ∃ ld, LDN kk = ld := ⟨_, rfl⟩
          rw [hld] at k1 HOSk
          clear hld
          cases ld with
          | false =>
            rw [if_neg (by simp)] at HOSk
            go_wp2
            go_roundg r1
            case measure => omega
            case rel => exact ⟨kk + 1, by omega, by go_num, by rw [HOSk.out]; exact ⟨ta, tn, tc, rfl, HTB.out, HTX.out⟩⟩
          | true =>
            rw [if_pos rfl] at HOSk
            have HST0 : Hid (OwnTbl w2 wr (.slice ta tn tc) (rowsN n (outK q n N T LDN kk ++ rowsK q n T LDN kk 1))) := by
              rw [HR1.out, List.append_nil]; exact ⟨ta, tn, tc, rfl, HTB.out, HTX.out⟩
            have HTNk := Lib.hid htn
            obtain ⟨O, hO⟩ : ∃ O, outK q n N T LDN kk = O := ⟨_, rfl⟩
            rw [hO] at HOSk HST0 HTNk
            clear htn hO HTB HTX HL2
            obtain ⟨wa, rfl⟩ : ∃ wa : World, wa = wr := ⟨_, rfl⟩
            go_wp2
            go_loopg [11, 13] (N - 1) (fun r y x wx => ∃ c : Nat, 1 ≤ c ∧ c + r = N ∧ x = .int .i64 c ∧ OwnTbl w2 wx y (rowsN n (O ++ rowsK q n T LDN kk c)))
            case atStart => exact ⟨1, by omega, by omega, rfl, HST0.out⟩
            case round =>
              obtain ⟨c, hc1, hcN2, rfl, hown⟩ := hrel
              obtain ⟨ua, un, uc, rfl, hub, hux⟩ := hown
              have HUB := Lib.hid hub
              have HUX := Lib.hid hux
              have hun : (O ++ rowsK q n T LDN kk c).length = un := by have := hub.length; rwa [rowsN_length] at this
              have hul : un ≤ 6 * 4096 + 4096 := by
                have h1 := HRL.out kk c
                have h2 := HTNk.out
                rw [List.length_append] at hun
                omega
              have hsz := hux.size
              clear hub hux HST0 hun
              cases gk with
              | zero =>
                obtain rfl : N = c := by omega
                go_wp2
                go_roundg r1
                case measure => omega
                case rel => exact ⟨kk + 1, by omega, by go_num, by rw [HOSk.out]; exact ⟨ua, un, uc, rfl, HUB.out, HUX.out⟩⟩
              | succ r2 =>
                have hcl : (c : Int) < (N : Int) := by omega
                have hcl' : c < N := by omega
                have EX := Lib.hid ((E0.out.trans HTL.out.ext).trans HUX.out)
                have t1 := (EX.out.cell hbt).trans (HCT.out c hcl')
                have HRSc := Lib.hid (HRS.out kk c (by omega))
                obtain ⟨tcb, htc⟩ : ∃ tc, T c = tc := ⟨_, rfl⟩
                rw [htc] at t1 HRSc
                clear htc
                cases tcb with
                | false =>
                  rw [if_neg (by simp)] at HRSc
                  go_wp2
                  go_roundg r2
                  case measure => omega
                  case rel => exact ⟨c + 1, by omega, by omega, by go_num, by rw [HRSc.out]; exact ⟨ua, un, uc, rfl, HUB.out, HUX.out⟩⟩
                | true =>
                  have k1 := ((F0.out.ext HTL.out.ext).ext HUX.out).three
                  have HOC := HOP.out wr c (by omega)
                  have HOKC : Hid (okC q n LDN kk c = ((leadOf n (opn q n c) == (kk : Int) && opn q n c kk == 1) && okD LDN kk (opn q n c) n)) := by show _ = _; rfl
                  have HLRf : Hid (∀ vo vcap W, _ → _) := fun vo vcap W h => HLR.out (opn q n c) vo vcap W h
                  obtain ⟨fv, hfv⟩ : ∃ fv : Nat → Nat, opn q n c = fv := ⟨_, rfl⟩
                  have hOC : Calls Tryd.prog 34 #[.agg #[.int .i64 p, .int .i64 k, .slice ao k cap], .int .i64 n, .int .i64 c] wr fun e w' => ∃ g cap', e = .returned (.slice (some ⟨g, 0, none⟩) n cap') ∧ OwnF wr w' g n cap' (fun i => ((fv i : Nat) : Int)) := by
                    have := HOC; subst hfv; exact this
                  have HOC2 := Lib.hid hOC
                  rw [hfv] at HOKC HRSc HLRf
                  clear hfv hOC HOC
                  go_wp2_with fail
                  refine Calls.mono HOC2.out ?_
                  rintro e w4 ⟨g2, cap2, rfl, hof⟩
                  have hlr := HLRf.out (some ⟨g2, 0, none⟩) cap2 w4 hof.reads
                  obtain ⟨li, hli⟩ : ∃ li, leadOf n fv = li := ⟨_, rfl⟩
                  rw [hli] at hlr HOKC
                  have HLRC := Lib.hid hlr
                  have HV4 := Lib.hid hof
                  have HU4 := Lib.hid (HUX.out.trans hof.ext)
                  clear k1 hof hlr hli
                  go_wp2_with fail
                  refine Calls.mono HLRC.out ?_
                  rintro e w5 ⟨rfl, rfl⟩
                  have HL4 := Lib.hid (HTL.out.carry HU4.out)
                  have t2 := HV4.out.at hkl'
                  obtain ⟨xk, hxk⟩ : ∃ xk, fv kk = xk := ⟨_, rfl⟩
                  rw [hxk] at t2 HOKC
                  clear hxk
                  have HUBX := Lib.hid (HUB.out.ext HV4.out.ext)
                  have HVR : Hid (RowOf 3 w4 wr.heap.size (some ⟨g2, 0, none⟩) n cap2 (ints (nrow fv n))) := HV4.out.row
                  have hgw := HV4.out.lt
                  have HUN : Hid (Nat.le un (6 * 4096 + 4096)) := hul
                  have hcs : ((li == (kk : Int)) = false) ∨ ((li == (kk : Int)) = true ∧ ((xk : Int) == 1) = false) ∨ ((li == (kk : Int)) = true ∧ ((xk : Int) == 1) = true) := by
                    cases (li == (kk : Int)) <;> cases ((xk : Int) == 1) <;> simp
                  have HXK : Hid (((xk : Int) == 1) = (xk == 1)) := by
                    show _ = _
                    by_cases e : xk = 1
                    · subst e; rfl
                    · rw [show (xk == 1) = false from by rw [beq_eq_false_iff_ne]; exact e, beq_eq_false_iff_ne]; omega
                  rcases hcs with b1 | ⟨b1, b2⟩ | ⟨b1, b2⟩
                  · have HB : Hid (okC q n LDN kk c = (false && okD LDN kk fv n)) := by show _ = _; rw [HOKC.out, b1]; rfl
                    go_wp2
                    go_loopg [16, 17] n (fun r o x wx => ∃ j : Nat, j + r = n ∧ x = .int .i64 j ∧ o = .bool (false && okD LDN kk fv j) ∧ w4 = wx)
                    case atStart => exact ⟨0, by omega, rfl, rfl, rfl⟩
                    case round =>
                      obtain ⟨j, hjn, rfl, rfl, rfl⟩ := hrel
                      cases gk with
                      | succ r3 =>
                        have hjl : (j : Int) < (n : Int) := by omega
                        have hjl' : j < n := by omega
                        have k4 := HL4.out.cellAt hjl'
                        have k5 := HV4.out.at hjl'
                        have HD := okD_succ LDN kk fv j
                        obtain ⟨ldj, hldj⟩ : ∃ b, LDN j = b := ⟨_, rfl⟩
                        rw [hldj] at k4 HD
                        obtain ⟨xj, hxj⟩ : ∃ x, fv j = x := ⟨_, rfl⟩
                        rw [hxj] at k5 HD
                        have HD := Lib.hid HD
                        clear hldj hxj
                        cases ldj with
                        | false =>
                          have HDD : Hid (okD LDN kk fv (j + 1) = okD LDN kk fv j) := by show _ = _; rw [HD.out]; simp
                          go_wp2
                          go_roundg r3
                          case measure => omega
                          case rel => exact ⟨j + 1, by omega, by go_num, by rw [HDD.out], rfl⟩
                        | true =>
                          by_cases e1 : j = kk
                          · have b4 : ((j : Int) != (kk : Int)) = false := by subst e1; simp
                            have HDD : Hid (okD LDN kk fv (j + 1) = okD LDN kk fv j) := by show _ = _; rw [HD.out, show (j != kk) = false from by subst e1; simp]; simp
                            clear e1
                            go_wp2
                            go_roundg r3
                            case measure => omega
                            case rel => exact ⟨j + 1, by omega, by go_num, by rw [HDD.out], rfl⟩
                          · have b4 : ((j : Int) != (kk : Int)) = true := by rw [bne_iff_ne]; omega
                            have e1' : (j != kk) = true := by rw [bne_iff_ne]; exact e1
                            by_cases e2 : xj = 0
                            · have b5 : ((xj : Int) != 0) = false := by rw [e2]; rfl
                              have HDD : Hid (okD LDN kk fv (j + 1) = okD LDN kk fv j) := by show _ = _; rw [HD.out, show (xj != 0) = false from by rw [e2]; rfl]; simp
                              clear e1 e2 e1'
                              go_wp2
                              go_roundg r3
                              case measure => omega
                              case rel => exact ⟨j + 1, by omega, by go_num, by rw [HDD.out], rfl⟩
                            · have b5 : ((xj : Int) != 0) = true := by rw [bne_iff_ne]; omega
                              have HDD : Hid (okD LDN kk fv (j + 1) = false) := by show _ = _; rw [HD.out, e1', show (xj != 0) = true from by rw [bne_iff_ne]; exact e2]; simp
                              clear e1 e2 e1'
                              go_wp2
                              go_roundg r3
                              case measure => omega
                              case rel => exact ⟨j + 1, by omega, by go_num, by rw [HDD.out, Bool.and_false], rfl⟩
                      | zero =>
                        obtain rfl : n = j := by omega
                        rw [← HB.out]
                        obtain ⟨bb, hbb⟩ : ∃ bb, okC q n LDN kk c = bb := ⟨_, rfl⟩
                        rw [hbb] at HRSc ⊢
                        clear hbb
                        cases bb with
                        | false =>
                          rw [if_neg (by simp)] at HRSc
                          go_wp2
                          go_roundg r2
                          case measure => omega
                          case rel => exact ⟨c + 1, by omega, by omega, by go_num, by rw [HRSc.out]; exact ⟨ua, un, uc, rfl, HUBX.out, HU4.out⟩⟩
                        | true =>
                          rw [if_pos (by simp)] at HRSc
                          have hsz2 := HU4.out.size
                          have hun2 := HUN.out
                          go_wp2_with (at_builtin; (refine wpList_appRow (w := w4) rfl (.tmp 98) (.tmp 100) rfl (fun b => w2.heap.size ≤ b) w2.heap.size (by rfl) HUBX.out (by rfl) (HVR.out.innerX _ _ (fun b hb => by omega) (fun b hb => (HUB.out.block b hb).2) (by unfold maxLen; omega)) (by omega) (by omega) ?_; intro ao8 cap8 w8 hr8 hg8 hb8; have HR8 := Lib.hid hr8; have HB8 := Lib.hid (hb8 _ _ HU4.out (Nat.le_refl _)); clear hr8 hg8 hb8))
                          go_roundg r2
                          case measure => omega
                          case rel => exact ⟨c + 1, by omega, by omega, by go_num, by rw [HRSc.out, ← List.append_assoc]; exact ⟨ao8, un + 1, cap8, rfl, by have h := HR8.out; unfold rowsN at h ⊢; rw [List.map_append]; exact h, HB8.out⟩⟩
                  · have HB : Hid (okC q n LDN kk c = (false && okD LDN kk fv n)) := by show _ = _; rw [HOKC.out, ← HXK.out, b2, b1]; rfl
                    go_wp2
                    go_loopg [16, 17] n (fun r o x wx => ∃ j : Nat, j + r = n ∧ x = .int .i64 j ∧ o = .bool (false && okD LDN kk fv j) ∧ w4 = wx)
                    case atStart => exact ⟨0, by omega, rfl, rfl, rfl⟩
                    case round =>
                      obtain ⟨j, hjn, rfl, rfl, rfl⟩ := hrel
                      cases gk with
                      | succ r3 =>
                        have hjl : (j : Int) < (n : Int) := by omega
                        have hjl' : j < n := by omega
                        have k4 := HL4.out.cellAt hjl'
                        have k5 := HV4.out.at hjl'
                        have HD := okD_succ LDN kk fv j
                        obtain ⟨ldj, hldj⟩ : ∃ b, LDN j = b := ⟨_, rfl⟩
                        rw [hldj] at k4 HD
                        obtain ⟨xj, hxj⟩ : ∃ x, fv j = x := ⟨_, rfl⟩
                        rw [hxj] at k5 HD
                        have HD := Lib.hid HD
                        clear hldj hxj
                        cases ldj with
                        | false =>
                          have HDD : Hid (okD LDN kk fv (j + 1) = okD LDN kk fv j) := by show _ = _; rw [HD.out]; simp
                          go_wp2
                          go_roundg r3
                          case measure => omega
                          case rel => exact ⟨j + 1, by omega, by go_num, by rw [HDD.out], rfl⟩
                        | true =>
                          by_cases e1 : j = kk
                          · have b4 : ((j : Int) != (kk : Int)) = false := by subst e1; simp
                            have HDD : Hid (okD LDN kk fv (j + 1) = okD LDN kk fv j) := by show _ = _; rw [HD.out, show (j != kk) = false from by subst e1; simp]; simp
                            clear e1
                            go_wp2
                            go_roundg r3
                            case measure => omega
                            case rel => exact ⟨j + 1, by omega, by go_num, by rw [HDD.out], rfl⟩
                          · have b4 : ((j : Int) != (kk : Int)) = true := by rw [bne_iff_ne]; omega
                            have e1' : (j != kk) = true := by rw [bne_iff_ne]; exact e1
                            by_cases e2 : xj = 0
                            · have b5 : ((xj : Int) != 0) = false := by rw [e2]; rfl
                              have HDD : Hid (okD LDN kk fv (j + 1) = okD LDN kk fv j) := by show _ = _; rw [HD.out, show (xj != 0) = false from by rw [e2]; rfl]; simp
                              clear e1 e2 e1'
                              go_wp2
                              go_roundg r3
                              case measure => omega
                              case rel => exact ⟨j + 1, by omega, by go_num, by rw [HDD.out], rfl⟩
                            · have b5 : ((xj : Int) != 0) = true := by rw [bne_iff_ne]; omega
                              have HDD : Hid (okD LDN kk fv (j + 1) = false) := by show _ = _; rw [HD.out, e1', show (xj != 0) = true from by rw [bne_iff_ne]; exact e2]; simp
                              clear e1 e2 e1'
                              go_wp2
                              go_roundg r3
                              case measure => omega
                              case rel => exact ⟨j + 1, by omega, by go_num, by rw [HDD.out, Bool.and_false], rfl⟩
                      | zero =>
                        obtain rfl : n = j := by omega
                        rw [← HB.out]
                        obtain ⟨bb, hbb⟩ : ∃ bb, okC q n LDN kk c = bb := ⟨_, rfl⟩
                        rw [hbb] at HRSc ⊢
                        clear hbb
                        cases bb with
                        | false =>
                          rw [if_neg (by simp)] at HRSc
                          go_wp2
                          go_roundg r2
                          case measure => omega
                          case rel => exact ⟨c + 1, by omega, by omega, by go_num, by rw [HRSc.out]; exact ⟨ua, un, uc, rfl, HUBX.out, HU4.out⟩⟩
                        | true =>
                          rw [if_pos (by simp)] at HRSc
                          have hsz2 := HU4.out.size
                          have hun2 := HUN.out
                          go_wp2_with (at_builtin; (refine wpList_appRow (w := w4) rfl (.tmp 98) (.tmp 100) rfl (fun b => w2.heap.size ≤ b) w2.heap.size (by rfl) HUBX.out (by rfl) (HVR.out.innerX _ _ (fun b hb => by omega) (fun b hb => (HUB.out.block b hb).2) (by unfold maxLen; omega)) (by omega) (by omega) ?_; intro ao8 cap8 w8 hr8 hg8 hb8; have HR8 := Lib.hid hr8; have HB8 := Lib.hid (hb8 _ _ HU4.out (Nat.le_refl _)); clear hr8 hg8 hb8))
                          go_roundg r2
                          case measure => omega
                          case rel => exact ⟨c + 1, by omega, by omega, by go_num, by rw [HRSc.out, ← List.append_assoc]; exact ⟨ao8, un + 1, cap8, rfl, by have h := HR8.out; unfold rowsN at h ⊢; rw [List.map_append]; exact h, HB8.out⟩⟩
                  · have HB : Hid (okC q n LDN kk c = (true && okD LDN kk fv n)) := by show _ = _; rw [HOKC.out, ← HXK.out, b2, b1]; rfl
                    go_wp2
                    go_loopg [16, 17] n (fun r o x wx => ∃ j : Nat, j + r = n ∧ x = .int .i64 j ∧ o = .bool (true && okD LDN kk fv j) ∧ w4 = wx)
                    case atStart => exact ⟨0, by omega, rfl, rfl, rfl⟩
                    case round =>
                      obtain ⟨j, hjn, rfl, rfl, rfl⟩ := hrel
                      cases gk with
                      | succ r3 =>
                        have hjl : (j : Int) < (n : Int) := by omega
                        have hjl' : j < n := by omega
                        have k4 := HL4.out.cellAt hjl'
                        have k5 := HV4.out.at hjl'
                        have HD := okD_succ LDN kk fv j
                        obtain ⟨ldj, hldj⟩ : ∃ b, LDN j = b := ⟨_, rfl⟩
                        rw [hldj] at k4 HD
                        obtain ⟨xj, hxj⟩ : ∃ x, fv j = x := ⟨_, rfl⟩
                        rw [hxj] at k5 HD
                        have HD := Lib.hid HD
                        clear hldj hxj
                        cases ldj with
                        | false =>
                          have HDD : Hid (okD LDN kk fv (j + 1) = okD LDN kk fv j) := by show _ = _; rw [HD.out]; simp
                          go_wp2
                          go_roundg r3
                          case measure => omega
                          case rel => exact ⟨j + 1, by omega, by go_num, by rw [HDD.out], rfl⟩
                        | true =>
                          by_cases e1 : j = kk
                          · have b4 : ((j : Int) != (kk : Int)) = false := by subst e1; simp
                            have HDD : Hid (okD LDN kk fv (j + 1) = okD LDN kk fv j) := by show _ = _; rw [HD.out, show (j != kk) = false from by subst e1; simp]; simp
                            clear e1
                            go_wp2
                            go_roundg r3
                            case measure => omega
                            case rel => exact ⟨j + 1, by omega, by go_num, by rw [HDD.out], rfl⟩
                          · have b4 : ((j : Int) != (kk : Int)) = true := by rw [bne_iff_ne]; omega
                            have e1' : (j != kk) = true := by rw [bne_iff_ne]; exact e1
                            by_cases e2 : xj = 0
                            · have b5 : ((xj : Int) != 0) = false := by rw [e2]; rfl
                              have HDD : Hid (okD LDN kk fv (j + 1) = okD LDN kk fv j) := by show _ = _; rw [HD.out, show (xj != 0) = false from by rw [e2]; rfl]; simp
                              clear e1 e2 e1'
                              go_wp2
                              go_roundg r3
                              case measure => omega
                              case rel => exact ⟨j + 1, by omega, by go_num, by rw [HDD.out], rfl⟩
                            · have b5 : ((xj : Int) != 0) = true := by rw [bne_iff_ne]; omega
                              have HDD : Hid (okD LDN kk fv (j + 1) = false) := by show _ = _; rw [HD.out, e1', show (xj != 0) = true from by rw [bne_iff_ne]; exact e2]; simp
                              clear e1 e2 e1'
                              go_wp2
                              go_roundg r3
                              case measure => omega
                              case rel => exact ⟨j + 1, by omega, by go_num, by rw [HDD.out, Bool.and_false], rfl⟩
                      | zero =>
                        obtain rfl : n = j := by omega
                        rw [← HB.out]
                        obtain ⟨bb, hbb⟩ : ∃ bb, okC q n LDN kk c = bb := ⟨_, rfl⟩
                        rw [hbb] at HRSc ⊢
                        clear hbb
                        cases bb with
                        | false =>
                          rw [if_neg (by simp)] at HRSc
                          go_wp2
                          go_roundg r2
                          case measure => omega
                          case rel => exact ⟨c + 1, by omega, by omega, by go_num, by rw [HRSc.out]; exact ⟨ua, un, uc, rfl, HUBX.out, HU4.out⟩⟩
                        | true =>
                          rw [if_pos (by simp)] at HRSc
                          have hsz2 := HU4.out.size
                          have hun2 := HUN.out
                          go_wp2_with (at_builtin; (refine wpList_appRow (w := w4) rfl (.tmp 98) (.tmp 100) rfl (fun b => w2.heap.size ≤ b) w2.heap.size (by rfl) HUBX.out (by rfl) (HVR.out.innerX _ _ (fun b hb => by omega) (fun b hb => (HUB.out.block b hb).2) (by unfold maxLen; omega)) (by omega) (by omega) ?_; intro ao8 cap8 w8 hr8 hg8 hb8; have HR8 := Lib.hid hr8; have HB8 := Lib.hid (hb8 _ _ HU4.out (Nat.le_refl _)); clear hr8 hg8 hb8))
                          go_roundg r2
                          case measure => omega
                          case rel => exact ⟨c + 1, by omega, by omega, by go_num, by rw [HRSc.out, ← List.append_assoc]; exact ⟨ao8, un + 1, cap8, rfl, by have h := HR8.out; unfold rowsN at h ⊢; rw [List.map_append]; exact h, HB8.out⟩⟩

end Go.Proofs.YthkafhmciapipaaDoor
