/- What parterreref3.NormalTo answers. No conditions but a field. -/
import Derived.Test.YthkafhmciapipaaDoorJfegecgecad
import Derived.Test.YthkafhmciapipaaDoorJmemdifaeah
namespace Go.Proofs.YthkafhmciapipaaDoor
open Go.RowKit
set_option linter.unusedVariables false
set_option linter.unusedSectionVars false

/-- Two rows, cell by cell, as far as kk; is a row normal to the first i rows? -/
def dotTo (p k : Nat) (low : List Int) (v r : Nat → Nat) : Nat → Nat
  | 0 => 0
  | kk + 1 => addF p k (dotTo p k low v r kk) (mulF p k (nth low) (v kk) (r kk))
def okTo (p k n : Nat) (low : List Int) (rows : List (Nat → Nat)) (v : Nat → Nat) : Nat → Bool
  | 0 => true
  | i + 1 => okTo p k n low rows v i && (dotTo p k low v (fAt rows i) n == 0)
theorem dotTo_lt {p k : Nat} {low : List Int} (hp : 0 < p) (v r : Nat → Nat) : ∀ kk, dotTo p k low v r kk < p ^ k
  | 0 => Nat.pow_pos hp
  | kk + 1 => addF_lt hp _ _
theorem okTo_iff {p k n : Nat} {low : List Int} {rows : List (Nat → Nat)} {v : Nat → Nat} : ∀ i, okTo p k n low rows v i = true ↔ ∀ t, t < i → dotTo p k low v (fAt rows t) n = 0
  | 0 => ⟨fun _ t ht => by omega, fun _ => rfl⟩
  | i + 1 => by
    rw [okTo, Bool.and_eq_true, okTo_iff i, beq_iff_eq]
    constructor
    · rintro ⟨h1, h2⟩ t ht
      rcases Nat.lt_succ_iff_lt_or_eq.1 ht with h | rfl
      · exact h1 t h
      · exact h2
    · exact fun h => ⟨fun t ht => h t (by omega), h i (by omega)⟩

section
variable {p k : Nat} {low : List Int} [hI : FldP p k low]
theorem dotTo_congr {v v' r : Nat → Nat} : ∀ m, (∀ j, j < m → v j = v' j) → dotTo p k low v r m = dotTo p k low v' r m
  | 0, _ => rfl
  | m + 1, h => by rw [dotTo, dotTo, dotTo_congr m (fun j hj => h j (by omega)), h m (by omega)]
theorem dotTo_el (v r : Nat → El p k low) : ∀ m, dotTo p k low (toN v) (toN r) m = (dot m v r).n
  | 0 => rfl
  | m + 1 => by
    rw [dotTo, dotTo_el v r m]
    rfl
/-- The marks of what is normal to rows. -/
theorem okTo_marks {n : Nat} {V : List (Nat → El p k low)} (c : Nat) : okTo p k n low (V.map toN) (opn (p ^ k) n c) V.length = true ↔ Nul n (Span V) (vOf n c) := by
  rw [okTo_iff, nul_span]
  have hd : ∀ t, t < V.length → dotTo p k low (opn (p ^ k) n c) (fAt (V.map toN) t) n = (dot n (vOf n c) (rowAt V t)).n := fun t ht => by
    rw [fAt_map, dotTo_congr (v' := toN (vOf (p := p) (k := k) (low := low) n c)) n fun j hj => (vOf_n hj).symm]
    exact dotTo_el _ _ n
  constructor
  · intro h
    refine ⟨fun i hi => vOf_sup hi, fun r hr => ?_⟩
    obtain ⟨t, ht, rfl⟩ := mem_rowAt hr
    have := h t ht
    rw [hd t ht] at this
    rw [dot_comm]
    exact n_zero.1 this
  · intro h t ht
    rw [hd t ht, dot_comm]
    exact n_zero.2 (h.2 _ (rowAt_mem V t ht))
end

set_option maxHeartbeats 16000000 in
set_option maxRecDepth 100000 in
theorem refNormalTo_any (p k n : Nat) (ao vo : Option Addr) (cap m mcap : Nat) (low : List Int) (rows : List (Nat → Nat)) (w : World) (hF : IsField p k low) (hra : Reads w ao (ints low)) (hn1 : 1 ≤ n) (hn6 : n ≤ 6) (hbig : (p ^ k) ^ n ≤ 4096) (hm : rows.length = m) (hm12 : m ≤ 100) (hlt : AllLt (p ^ k) n rows) (hr : ReadsL w vo (rowsN n rows)) :
    Calls Tryd.prog 18 #[.agg #[.int .i64 p, .int .i64 k, .slice ao k cap], .int .i64 n, .slice vo m mcap] w fun e w' => ∃ g, e = .returned (.slice (some ⟨g, 0, none⟩) ((p ^ k) ^ n) ((p ^ k) ^ n)) ∧ OwnB w w' g ((p ^ k) ^ n) ((p ^ k) ^ n) (fun c => okTo p k n low rows (opn (p ^ k) n c) m) := by
  have hp0 : 0 < p := by have := hF.p2; omega
  have hq2 : 2 ≤ p ^ k := one_lt_pow' hF.p2 hF.k1
  have h64 := hF.big
  have E0 := Lib.hid (ext_box w #[.int .i64 p, .int .i64 k, .slice ao k cap] 29)
  have F0 := Lib.hid (Blk.new w #[.int .i64 p, .int .i64 k, .slice ao k cap] 29)
  have k0 := F0.out.three
  have HS : Hid (∀ w, _) := fun w => size_is p k ao k cap low w hF
  have HTI : Hid (∀ W a b, Ext w W → a < 128 → b < 128 → _) := fun W a b (hx : Ext w W) ha hb => timesOf_any p k a b ao cap low W hF.p2 hF.p61 hF.k1 hF.k6 h64 ha hb hF.len (hx.reads hra) hF.dig
  have HSU : Hid (∀ W a b, a < 128 → b < 128 → _) := fun W a b ha hb => sumOf_any p k a b ao k cap W hF.p2 hF.p61 hF.k1 hF.k6 h64 ha hb
  have HOP : Hid (∀ W c, c < 100000 → _) := fun W c hc => openOf_any p k n c ao k cap low W hF hn1 hn6 hc
  have HMU : Hid (∀ a b, mulF p k (nth low) a b < p ^ k) := fun a b => mulF_lt hp0 a b
  have HDT : Hid (∀ v r kk, dotTo p k low v r kk < p ^ k) := fun v r kk => dotTo_lt hp0 v r kk
  have HOL : Hid (∀ c j, opn (p ^ k) n c j < p ^ k) := fun c j => opn_lt (by omega)
  have HRW : Hid (∀ i, i < m → ∀ j, j < n → fAt rows i j < p ^ k) := fun i hi => hlt.at (by omega)
  have HR := Lib.hid hr
  have HML := Lib.hid hm
  obtain ⟨q, hq⟩ : ∃ q, p ^ k = q := ⟨_, rfl⟩
  rw [hq] at hq2 h64 HS HMU HDT HOL HRW HOP hbig ⊢
  have HPW : Hid (∀ i, i ≤ n → q ^ i ≤ q ^ n) := fun i hi => Nat.pow_le_pow_right (by omega) hi
  obtain ⟨N, hN⟩ : ∃ N, q ^ n = N := ⟨_, rfl⟩
  have HNN := Lib.hid hN
  have hNpos : 0 < N := by rw [← hN]; exact Nat.pow_pos (by omega)
  rw [hN] at HPW hbig ⊢
  clear hF hra hr hlt hm hq hN
  go_enter Tryd.func18, Tryd.ntmps18
  go_wp2_with fail
  refine Calls.mono (HS.out _) ?_
  rintro e w1 ⟨rfl, hx⟩
  have E1 := Lib.hid (E0.out.trans hx)
  have F1 := Lib.hid (F0.out.ext hx)
  clear hx k0
  go_wp2
  go_loopg [8, 9] n (fun r y x wr => ∃ i u : Nat, i + r = n ∧ x = .int .i64 i ∧ y = .int .i64 u ∧ Hid (u = q ^ i) ∧ w1 = wr)
  case atStart => exact ⟨0, 1, by omega, rfl, rfl, by show _ = _; rw [Nat.pow_zero], rfl⟩
  case round =>
    obtain ⟨i, u, hir, rfl, rfl, HU, rfl⟩ := hrel
    cases gk with
    | succ r1 =>
      have hin : (i : Int) < (n : Int) := by omega
      have h1 := HPW.out i (by omega)
      rw [← HU.out] at h1
      obtain ⟨v, hv⟩ : ∃ v, u * q = v := ⟨_, rfl⟩
      have hv' : (u : Int) * (q : Int) = v := by rw [← hv, Int.natCast_mul]
      have HV : Hid (v = q ^ (i + 1)) := by show _ = _; rw [← hv, HU.out, Nat.pow_succ]
      have hvb : v ≤ 4096 := by
        have h2 := HPW.out (i + 1) (by omega)
        rw [← HV.out] at h2; omega
      clear hv
      go_wp2
      go_roundg r1
      case measure => omega
      case rel => exact ⟨i + 1, v, by omega, by go_num, rfl, HV, rfl⟩
    | zero =>
      obtain rfl : n = i := by omega
      obtain rfl : N = u := by rw [← HNN.out]; exact HU.out.symm
      have hmk := mk_bools N (by omega) w1
      have HT0 := Lib.hid (OwnB.made w1 N (by omega))
      obtain ⟨g, hg⟩ : ∃ g, w1.heap.size = g := ⟨_, rfl⟩
      rw [hg] at HT0
      go_wp2
      obtain ⟨w2, hw2⟩ : ∃ w2, w2 = w1.alloc (.cells (madeCells #[.bool false] N) 4) := ⟨_, rfl⟩
      rw [← hw2] at HT0 ⊢
      have HGE := Lib.hid hg
      try rw [hg]
      clear hmk hg hw2 HU hir
      go_loopg [11] N (fun r x wr => ∃ c : Nat, c + r = N ∧ x = .int .i64 c ∧ OwnB w1 wr g N N (fun d => if d < c then okTo p k n low rows (opn q n d) m else false))
      case atStart => exact ⟨0, by omega, rfl, HT0.out.congr fun d _ => by rw [if_neg (by omega)]⟩
      case round =>
        obtain ⟨c, hcN, rfl, ht⟩ := hrel
        have HT := Lib.hid ht
        clear ht HT0
        cases gk with
        | zero =>
          obtain rfl : N = c := by omega
          go_wp2
          exact bodyPost_ret (v := .slice (some ⟨g, 0, none⟩) N N) (by simp [results, Tryd.results18, go_sem]) rfl ⟨g, rfl, E1.out.trans HT.out.ext, (HT.out.congr (U := fun c => okTo p k n low rows (opn q n c) m) fun d hd => by rw [if_pos hd]).row.mono E1.out.size⟩
        | succ r1 =>
          have hcl : (c : Int) < (N : Int) := by omega
          have hcl' : c < N := by omega
          have k1 := (F1.out.ext HT.out.ext).three
          have HOC := Lib.hid (HOP.out wr c (by omega))
          have HOLc := Lib.hid (HOL.out c)
          have HNX : Hid (∀ d, (if d = c then okTo p k n low rows (opn q n c) m else if d < c then okTo p k n low rows (opn q n d) m else false) = if d < c + 1 then okTo p k n low rows (opn q n d) m else false) := fun d => by
            by_cases e : d = c
            · subst e; rw [if_pos rfl, if_pos (by omega)]
            · rw [if_neg e]
              by_cases h : d < c
              · rw [if_pos h, if_pos (by omega)]
              · rw [if_neg h, if_neg (by omega)]
          obtain ⟨fv, hfv⟩ : ∃ fv : Nat → Nat, opn q n c = fv := ⟨_, rfl⟩
          have hOC : Calls Tryd.prog 34 #[.agg #[.int .i64 p, .int .i64 k, .slice ao k cap], .int .i64 n, .int .i64 c] wr fun e w' => ∃ g cap', e = .returned (.slice (some ⟨g, 0, none⟩) n cap') ∧ OwnF wr w' g n cap' (fun i => ((fv i : Nat) : Int)) := by
            have := HOC.out; subst hfv; exact this
          have HOC2 := Lib.hid hOC
          rw [hfv] at HNX HOLc
          clear hfv hOC HOC
          go_wp2_with fail
          refine Calls.mono HOC2.out ?_
          rintro e w4 ⟨g2, cap2, rfl, hof⟩
          have HV0 := Lib.hid hof
          have HT4 := Lib.hid (HT.out.carry hof.ext)
          have E4 := Lib.hid (E1.out.trans HT4.out.ext)
          have F4 := Lib.hid (F1.out.ext HT4.out.ext)
          clear k1 hof
          go_wp2
          go_loopg [13, 14] m (fun r o x wx => ∃ i : Nat, i + r = m ∧ x = .int .i64 i ∧ o = .bool (okTo p k n low rows fv i) ∧ Ext w4 wx)
          case atStart => exact ⟨0, by omega, rfl, rfl, Ext.refl _⟩
          case round =>
            obtain ⟨i, him, rfl, rfl, hx⟩ := hrel
            have HX := Lib.hid hx
            clear hx
            cases gk with
            | zero =>
              obtain rfl : m = i := by omega
              have HT5 := Lib.hid (HT4.out.carry HX.out)
              have k5 := HT5.out.cellAt hcl'
              have k6 := HT5.out.f c
              rw [if_neg (by omega)] at k5
              obtain ⟨ok, hok⟩ : ∃ ok, okTo p k n low rows fv m = ok := ⟨_, rfl⟩
              rw [hok] at HNX ⊢
              clear hok
              go_wp2
              go_roundg r1
              case measure => omega
              case rel => exact ⟨c + 1, by omega, by go_num, (HT5.out.set c ok).congr fun d hd => HNX.out d⟩
            | succ r2 =>
              have hil : (i : Int) < (m : Int) := by omega
              have him' : i < m := by omega
              have hRW := HRW.out i him'
              have HOK : Hid (okTo p k n low rows fv (i + 1) = (okTo p k n low rows fv i && (dotTo p k low fv (fAt rows i) n == 0))) := by show _ = _; rfl
              obtain ⟨wa, rfl⟩ : ∃ wa : World, wa = wr := ⟨_, rfl⟩
              obtain ⟨ok, hok⟩ : ∃ ok, okTo p k n low rows fv i = ok := ⟨_, rfl⟩
              rw [hok] at HOK ⊢
              clear hok
              go_wp2
              go_loopg [15, 16] n (fun r s x wx => ∃ kk : Nat, kk + r = n ∧ x = .int .i64 kk ∧ s = .int .i64 (dotTo p k low fv (fAt rows i) kk : Nat) ∧ Ext wa wx)
              case atStart => exact ⟨0, by omega, rfl, rfl, Ext.refl _⟩
              case round =>
                obtain ⟨kk, hkn, rfl, rfl, hx⟩ := hrel
                have HX2 := Lib.hid (HX.out.trans hx)
                have HX3 := Lib.hid hx
                clear hx
                cases gk with
                | zero =>
                  obtain rfl : n = kk := by omega
                  have hdb := HDT.out fv (fAt rows i) n
                  obtain ⟨s, hs⟩ : ∃ s, dotTo p k low fv (fAt rows i) n = s := ⟨_, rfl⟩
                  rw [hs] at HOK hdb ⊢
                  clear hs
                  by_cases h0 : s = 0
                  · have b1 : ((s : Int) == 0) = true := by rw [h0]; rfl
                    have b2 : (s == 0) = true := by rw [h0]; rfl
                    rw [b2, Bool.and_true] at HOK
                    clear h0 b2
                    cases ok
                    all_goals
                      go_wp2
                      go_roundg r2
                      case measure => omega
                      case rel => exact ⟨i + 1, by omega, by go_num, by rw [HOK.out], HX2.out⟩
                  · have b1 : ((s : Int) == 0) = false := by rw [beq_eq_false_iff_ne]; omega
                    have b2 : (s == 0) = false := by rw [beq_eq_false_iff_ne]; exact h0
                    rw [b2, Bool.and_false] at HOK
                    clear h0 b2
                    cases ok
                    all_goals
                      go_wp2
                      go_roundg r2
                      case measure => omega
                      case rel => exact ⟨i + 1, by omega, by go_num, by rw [HOK.out], HX2.out⟩
                | succ r3 =>
                  have hkl : (kk : Int) < (n : Int) := by omega
                  have hkl' : kk < n := by omega
                  obtain ⟨b, off, rfl, hb, hc⟩ := HR.out.row (by rw [rowsN_length, HML.out]; omega)
                  obtain ⟨a, ac, h1, h2, h3⟩ := hc i (by rw [rowsN_length, HML.out]; exact him')
                  rw [row_rowsN n rows (by rw [HML.out]; exact him')] at h1 h2
                  rw [nrow_length] at h1
                  obtain ⟨br, orr, rfl, hbr, hcr⟩ := h2.int (by rw [nrow_length]; omega)
                  have h4 := hcr kk (by rw [nrow_length]; exact hkl')
                  rw [nth_nrow _ hkl'] at h4
                  have EX := Lib.hid (E4.out.trans HX2.out)
                  have t0 := (F4.out.ext HX2.out).three
                  have t1 := (EX.out.cell hb).trans h1
                  have t2 := (EX.out.cell hbr).trans h4
                  have t3 := (HV0.out.carry HX2.out).at hkl'
                  have hxb := hRW kk hkl'
                  have hvb := HOLc.out kk
                  have HMB := HMU.out (fv kk) (fAt rows i kk)
                  have HDB := HDT.out fv (fAt rows i) kk
                  have HDB2 := HDT.out fv (fAt rows i) (kk + 1)
                  have HTC := HTI.out wr.drew (fv kk) (fAt rows i kk) EX.out.drew (by omega) (by omega)
                  have HDN : Hid (dotTo p k low fv (fAt rows i) (kk + 1) = addF p k (dotTo p k low fv (fAt rows i) kk) (mulF p k (nth low) (fv kk) (fAt rows i kk))) := by show _ = _; rfl
                  obtain ⟨x, hx⟩ : ∃ x, fv kk = x := ⟨_, rfl⟩
                  obtain ⟨y, hy⟩ : ∃ y, fAt rows i kk = y := ⟨_, rfl⟩
                  rw [hx] at t3 hvb HTC HMB HDN
                  rw [hy] at t2 hxb HTC HMB HDN
                  obtain ⟨z, hz⟩ : ∃ z, mulF p k (nth low) x y = z := ⟨_, rfl⟩
                  rw [hz] at HTC HMB HDN
                  obtain ⟨s, hs⟩ : ∃ s, dotTo p k low fv (fAt rows i) kk = s := ⟨_, rfl⟩
                  rw [hs] at HDB HDN ⊢
                  have HSC : Hid (∀ W, _) := fun W => HSU.out W s z (by omega) (by omega)
                  rw [← HDN.out] at HSC
                  obtain ⟨s2, hs2⟩ : ∃ s2, dotTo p k low fv (fAt rows i) (kk + 1) = s2 := ⟨_, rfl⟩
                  rw [hs2] at HSC HDB2
                  have HS2 := Lib.hid hs2
                  have HTC := Lib.hid HTC
                  clear hc h1 h2 h3 h4 hcr hx hy hz hs hs2
                  have HEN : ∀ (args : Array Value) (w : World), (callFunc 32 args).run Tryd.prog w = .ok (.enter 32 args) w := fun _ _ => rfl
                  have HEN := Lib.hid HEN
                  go_upto_region 20 with fail
                  go_region_law (first | (refine step_callS (f := 32) (xs := #[.tmp 50, .tmp 54, .tmp 61]) (ats := #[29, 3, 3]) (args := #[.agg #[.int .i64 p, .int .i64 k, .slice ao k cap], .int .i64 x, .int .i64 y]) (R := fun w' => Ext wr.drew w') (.int .i64 z) ?_ ?_ HEN.out ?_ HTC.out ?_; (next => rfl); (next => rfl); (next => simp [Act.eval]; done); intro w5 hx6; have HX6 := Lib.hid ((Ext.refl wr).drew.trans hx6); have k6 := ((F4.out.ext HX2.out).ext HX6.out).three; clear hx6))
                  all_goals
                    go_wp2_with fail
                    refine Calls.mono (HSC.out w5) ?_
                    rintro e w7 ⟨rfl, hx7⟩
                    have HX7 := Lib.hid ((HX3.out.trans HX6.out).trans hx7)
                    clear hx7 k6
                    go_wp2
                    go_roundg r3
                    case measure => omega
                    case rel => exact ⟨kk + 1, by omega, by go_num, by rw [HS2.out], HX7.out⟩

end Go.Proofs.YthkafhmciapipaaDoor
