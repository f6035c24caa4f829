/- What parterreref3.NormalTo answers. No conditions but a field. -/
import Derived.Test.YthkafhmciapipaaDoorJSpaceBasesAR
import Derived.Test.YthkafhmciapipaaDoorJSpaceBasesBC
import Derived.Test.YthkafhmciapipaaDoorJSpaceBasesBB
namespace Go.Proofs.YthkafhmciapipaaDoor
open Go.RowKit
set_option linter.unusedVariables false
set_option linter.unusedSectionVars false

/-- Two rows, cell by cell, as far as kk; is a row normal to the first i rows? -/
def dotTo (p k : Nat) (low : List Int) (v r : Nat → Nat) : Nat → Nat
  | 0 => 0
  | kk + 1 => addF p k (dotTo p k low v r kk) (mulF p k (nth low) (v kk) (r kk))
def okTo (p k n : Nat) (low : List Int) (rows : List (Nat → Nat)) (v : Nat → Nat) : Nat → Bool
  | 0 => true
  | i + 1 => okTo p k n low rows v i && (dotTo p k low v (fAt rows i) n == 0)
theorem dotTo_lt {p k : Nat} {low : List Int} (hp : 0 < p) (v r : Nat → Nat) : ∀ kk, dotTo p k low v r kk < p ^ k
  | 0 => Nat.pow_pos hp
  | kk + 1 => addF_lt hp _ _
theorem okTo_iff {p k n : Nat} {low : List Int} {rows : List (Nat → Nat)} {v : Nat → Nat} : ∀ i, okTo p k n low rows v i = true ↔ ∀ t, t < i → dotTo p k low v (fAt rows t) n = 0
  | 0 => ⟨fun _ t ht => by omega, fun _ => rfl⟩
  | i + 1 => by
    rw [okTo, Bool.and_eq_true, okTo_iff i, beq_iff_eq]
    constructor
    · rintro ⟨h1, h2⟩ t ht
      rcases Nat.lt_succ_iff_lt_or_eq.1 ht with h | rfl
      · exact h1 t h
      · exact h2
    · exact fun h => ⟨fun t ht => h t (by omega), h i (by omega)⟩

section
variable {p k : Nat} {low : List Int} [hI : FldP p k low]
theorem dotTo_congr {v v' r : Nat → Nat} : ∀ m, (∀ j, j < m → v j = v' j) → dotTo p k low v r m = dotTo p k low v' r m
  | 0, _ => rfl
  | m + 1, h => by rw [dotTo, dotTo, dotTo_congr m (fun j hj => h j (by omega)), h m (by omega)]
theorem dotTo_el (v r : Nat → El p k low) : ∀ m, dotTo p k low (toN v) (toN r) m = (dot m v r).n
  | 0 => rfl
  | m + 1 => by
    rw [dotTo, dotTo_el v r m]
    rfl
/-- The marks of what is normal to rows. -/
theorem okTo_marks {n : Nat} {V : List (Nat → El p k low)} (c : Nat) : okTo p k n low (V.map toN) (opn (p ^ k) n c) V.length = true ↔ Nul n (Span V) (vOf n c) := by
  rw [okTo_iff, nul_span]
  have hd : ∀ t, t < V.length → dotTo p k low (opn (p ^ k) n c) (fAt (V.map toN) t) n = (dot n (vOf n c) (rowAt V t)).n := fun t ht => by
    rw [fAt_map, dotTo_congr (v' := toN (vOf (p := p) (k := k) (low := low) n c)) n fun j hj => (vOf_n hj).symm]
    exact dotTo_el _ _ n
  constructor
  · intro h
    refine ⟨fun i hi => vOf_sup hi, fun r hr => ?_⟩
    obtain ⟨t, ht, rfl⟩ := mem_rowAt hr
    have := h t ht
    rw [hd t ht] at this
    rw [dot_comm]
    exact n_zero.1 this
  · intro h t ht
    rw [hd t ht, dot_comm]
    exact n_zero.2 (h.2 _ (rowAt_mem V t ht))
end

set_option maxHeartbeats 16000000 in
set_option maxRecDepth 100000 in
theorem refNormalTo_any (p k n : Nat) (ao vo : Option Addr) (cap m mcap : Nat) (low : List Int) (rows : List (Nat → Nat)) (w : World) (hF : IsField p k low) (hra : Reads w ao (ints low)) (hn1 : 1 ≤ n) (hn6 : n ≤ 6) (hbig : (p ^ k) ^ n ≤ 4096) (hm : rows.length = m) (hm12 : m ≤ 100) (hlt : AllLt (p ^ k) n rows) (hr : ReadsL w vo (rowsN n rows)) :
    Calls Tryd.prog 18 #[.agg #[.int .i64 p, .int .i64 k, .slice ao k cap], .int .i64 n, .slice vo m mcap] w fun e w' => ∃ g, e = .returned (.slice (some ⟨g, 0, none⟩) ((p ^ k) ^ n) ((p ^ k) ^ n)) ∧ OwnB w w' g ((p ^ k) ^ n) ((p ^ k) ^ n) (fun c => okTo p k n low rows (opn (p ^ k) n c) m) := by
  have hp0 : 0 < p := by have := hF.p2; omega
  have hq2 : 2 ≤ p ^ k := one_lt_pow' hF.p2 hF.k1
  have h64 := hF.big
  have E0 := Lib.hid (ext_box w #[.int .i64 p, .int .i64 k, .slice ao k cap] 29)
  have F0 := Lib.hid (Blk.new w #[.int .i64 p, .int .i64 k, .slice ao k cap] 29)
  have k0 := F0.out.three
  have HS : Hid (∀ w, _) := fun w => size_is p k ao k cap low w hF
  have HTI : Hid (∀ W a b, Ext w W → a < 128 → b < 128 → _) := fun W a b (hx : Ext w W) ha hb => timesOf_any p k a b ao cap low W hF.p2 hF.p61 hF.k1 hF.k6 h64 ha hb hF.len (hx.reads hra) hF.dig
  have HSU : Hid (∀ W a b, a < 128 → b < 128 → _) := fun W a b ha hb => sumOf_any p k a b ao k cap W hF.p2 hF.p61 hF.k1 hF.k6 h64 ha hb
  have HOP : Hid (∀ W c, c < 100000 → _) := fun W c hc => openOf_any p k n c ao k cap low W hF hn1 hn6 hc
  have HMU : Hid (∀ a b, mulF p k (nth low) a b < p ^ k) := fun a b => mulF_lt hp0 a b
  have HDT : Hid (∀ v r kk, dotTo p k low v r kk < p ^ k) := fun v r kk => dotTo_lt hp0 v r kk
  have HOL : Hid (∀ c j, opn (p ^ k) n c j < p ^ k) := fun c j => opn_lt (by omega)
  have HRW : Hid (∀ i, i < m → ∀ j, j < n → fAt rows i j < p ^ k) := fun i hi => hlt.at (by omega)
  have HR := Lib.hid hr
  have HML := Lib.hid hm
  obtain ⟨q, hq⟩ : ∃ q, p ^ k = q := ⟨_, rfl⟩
  rw [hq] at hq2 h64 HS HMU HDT HOL HRW HOP hbig ⊢
  have HPW : Hid (∀ i, i ≤ n → q ^ i ≤ q ^ n) := fun i hi => Nat.pow_le_pow_right (by omega) hi
  obtain ⟨N, hN⟩ : ∃ N, q ^ n = N := ⟨_, rfl⟩
  have HNN := Lib.hid hN
  have hNpos : 0 < N := by rw [← hN]; exact Nat.pow_pos (by omega)
  rw [hN] at HPW hbig ⊢
  clear hF hra hr hlt hm hq hN
  go_enter Tryd.func18, Tryd.ntmps18
  go_wp2_with fail
  refine Calls.mono (HS.out _) ?_
  rintro e w1 ⟨rfl, hx⟩
  have E1 := Lib.hid (E0.out.trans hx)
  have F1 := Lib.hid (F0.out.ext hx)
  clear hx k0
  go_wp2
  go_loopg [8, 9] n (fun r y x wr => ∃ i u : Nat, i + r = n ∧ x = .int .i64 i ∧ y = .int .i64 u ∧ Hid (u = q ^ i) ∧ w1 = wr)
  case atStart => exact ⟨0, 1, by omega, rfl, rfl, by show _ = _; rw [Nat.pow_zero], rfl⟩
  case round =>
    obtain ⟨i, u, hir, rfl, rfl, HU, rfl⟩ := hrel
    cases gk with
    | succ r1 =>
      have hin : (i : Int) < (n : Int) := by omega
      have h1 := HPW.out i (by omega)
      rw [← HU.out] at h1
      obtain ⟨v, hv⟩ : ∃ v, u * q = v := ⟨_, rfl⟩
      have hv' : (u : Int) * (q : Int) = v := by rw [← hv, Int.natCast_mul]
      have HV : Hid (v = q ^ (i + 1)) := by show _ = _; rw [← hv, HU.out, Nat.pow_succ]
      have hvb : v ≤ 4096 := by
        have h2 := HPW.out (i + 1) (by omega)
        rw [← HV.out] at h2; omega
      clear hv
      go_wp2
      go_roundg r1
      case measure => omega
      case rel => exact ⟨i + 1, v, by omega, by go_num, rfl, HV, rfl⟩
    | zero =>
      obtain rfl : n = i := by omega
      obtain rfl : N = u := by rw [← HNN.out]; exact HU.out.symm
      have hmk := mk_bools N (by omega) w1
      have HT0 := Lib.hid (OwnB.made w1 N (by omega))
      obtain ⟨g, hg⟩ : ∃ g, w1.heap.size = g := ⟨_, rfl⟩
      rw [hg] at HT0
      go_wp2
      obtain ⟨w2, hw2⟩ : ∃ w2, w2 = w1.alloc (.cells (madeCells #[.bool false] N) 4) := ⟨_, rfl⟩
      rw [← hw2] at HT0 ⊢
      have HGE := Lib.hid hg
      try rw [hg]
      clear hmk hg hw2 HU hir
      go_loopg [11] N (fun r x wr => ∃ c : Nat, c + r = N ∧ x = .int .i64 c ∧ OwnB w1 wr g N N (fun d => if d < c then okTo p k n low rows (opn q n d) m else false))
      case atStart => exact ⟨0, by omega, rfl, HT0.out.congr fun d _ => by rw [if_neg (by omega)]⟩
      case round =>
        obtain ⟨c, hcN, rfl, ht⟩ := hrel
        have HT := Lib.hid ht
        clear ht HT0
        cases gk with
        | zero =>
          obtain rfl : N = c := by omega
          go_wp2
          exact bodyPost_ret (v := .slice (some ⟨g, 0, none⟩) N N) (by simp [results, Tryd.results18, go_sem]) rfl ⟨g, rfl, E1.out.trans HT.out.ext, (HT.out.congr (U := fun c => okTo p k n low rows (opn q n c) m) fun d hd => by rw [if_pos hd]).row.mono E1.out.size⟩
        | succ r1 =>
          have hcl : (c : Int) < (N : Int) := by omega
          have hcl' : c < N := by omega
          have k1 := (F1.out.ext HT.out.ext).three
          have HOC := Lib.hid (HOP.out wr c (by omega))
          have HOLc := Lib.hid (HOL.out c)
          have HNX : Hid (∀ d, (if d = c then okTo p k n low rows (opn q n c) m else if d < c then okTo p k n low rows (opn q n d) m else false) = if d < c + 1 then okTo p k n low rows (opn q n d) m else false) := fun d => by
            by_cases e : d = c
            · subst e; rw [if_pos rfl, if_pos (by omega)]
            · rw [if_neg e]
              by_cases h : d < c
              · rw [if_pos h, if_pos (by omega)]
              · rw [if_neg h, if_neg (by omega)]
          obtain ⟨fv, hfv⟩ : ∃ fv : Nat → Nat, opn q n c = fv := ⟨_, rfl⟩
          have hOC : Calls Tryd.prog 34 #[.agg #[.int .i64 p, .int .i64 k, .slice ao k cap], .int .i64 n, .int .i64 c] wr fun e w' => ∃ g cap', e = .returned (.slice (some ⟨g, 0, none⟩) n cap') ∧ OwnF wr w' g n cap' (fun i => ((fv i : Nat) : Int)) := by
            have := HOC.out; subst hfv; exact this
          have HOC2 := Lib.hid hOC
          rw [hfv] at HNX HOLc
          clear hfv hOC HOC
          go_wp2_with fail
          refine Calls.mono HOC2.out ?_
          rintro e w4 ⟨g2, cap2, rfl, hof⟩
          have HV0 := Lib.hid hof
          have HT4 := Lib.hid (HT.out.carry hof.ext)
          have E4 := Lib.hid (E1.out.trans HT4.out.ext)
          have F4 := Lib.hid (F1.out.ext HT4.out.ext)
          clear k1 hof
          go_wp2
          go_loopg [13, 14] m (fun r o x wx => ∃ i : Nat, i + r = m ∧ x = .int .i64 i ∧ o = .bool (okTo p k n low rows fv i) ∧ Ext w4 wx)
          case atStart => exact ⟨0, by omega, rfl, rfl, Ext.refl _⟩
          case round =>
            obtain ⟨i, him, rfl, rfl, hx⟩ := hrel
            have HX := Lib.hid hx
            clear hx
            cases gk with
            | zero =>
              obtain rfl : m = i := by omega
              have HT5 := Lib.hid (HT4.out.carry HX.out)
              have k5 := HT5.out.cellAt hcl'
              have k6 := HT5.out.f c
              rw [if_neg (by omega)] at k5
              obtain ⟨ok, hok⟩ : ∃ ok, okTo p k n low rows fv m = ok := ⟨_, rfl⟩
              rw [hok] at HNX ⊢
              clear hok
              go_wp2
              go_roundg r1
              case measure => omega
              case rel => exact ⟨c + 1, by omega, by go_num, (HT5.out.set c ok).congr fun d hd => HNX.out d⟩
            | succ r2 =>
              have hil : (i : Int) < (m : Int) := by omega
              have him' : i < m := by omega
              have hRW := HRW.out i him'
              have HOK : Hid (okTo p k n low rows fv (i + 1) = (okTo p k n low rows fv i && (dotTo p k low fv (fAt rows i) n == 0))) := by show _ = _; rfl
              obtain ⟨wa, rfl⟩ : ∃ wa : World, wa = wr := ⟨_, rfl⟩
              obtain ⟨ok, hok⟩ : ∃ ok, okTo p k n low rows fv i = ok := ⟨_, rfl⟩
              rw [hok] at HOK ⊢
              clear hok
              go_wp2
              go_loopg [15, 16] n (fun r s x wx => ∃ kk : Nat, kk + r = n ∧ x = .int .i64 kk ∧ s = .int .i64 (dotTo p k low fv (fAt rows i) kk : Nat) ∧ Ext wa wx)
              case atStart => exact ⟨0, by omega, rfl, rfl, Ext.refl _⟩
              case round =>
                obtain ⟨kk, hkn, rfl, rfl, hx⟩ := hrel
                have HX2 := Lib.hid (HX.out.trans hx)
                have HX3 := Lib.hid hx
                clear hx
                cases gk with
                | zero =>
                  obtain rfl : n = kk := by omega
                  have hdb := HDT.out fv (fAt rows i) n
                  obtain ⟨s, hs⟩ : ∃ s, dotTo p k low fv (fAt rows i) n = s := ⟨_, rfl⟩
                  rw [hs] at HOK hdb ⊢
                  clear hs
                  by_cases h0 : s = 0
                  · have b1 : ((s : Int) == 0) = true := by rw [h0]; rfl
                    have b2 : (s == 0) = true := by rw [h0]; rfl
                    rw [b2, Bool.and_true] at HOK
                    clear h0 b2
                    cases ok
                    all_goals
                      go_wp2
                      go_roundg r2
                      case measure => omega
                      case rel => exact ⟨i + 1, by omega, by go_num, by rw [HOK.out], HX2.out⟩
                  · have b1 : ((s : Int) == 0) = false := by rw [beq_eq_false_iff_ne]; omega
                    have b2 : (s == 0) = false := by rw [beq_eq_false_iff_ne]; exact h0
                    rw [b2, Bool.and_false] at HOK
                    clear h0 b2
                    cases ok
                    all_goals
                      go_wp2
                      go_roundg r2
                      case measure => omega
                      case rel => exact ⟨i + 1, by omega, by go_num, by rw [HOK.out], HX2.out⟩
                | succ r3 =>
                  have hkl : (kk : Int) < (n : Int) := by omega
                  have hkl' : kk < n := by omega
                  obtain ⟨b, off, rfl, hb, hc⟩ := HR.out.row (by rw [rowsN_length, HML.out]; omega)
                  obtain ⟨a, ac, h1, h2, h3⟩ := hc i (by rw [rowsN_length, HML.out]; exact him')
                  rw [row_rowsN n rows (by rw [HML.out]; exact him')] at h1 h2
                  rw [nrow_length] at h1
                  obtain ⟨br, orr, rfl, hbr, hcr⟩ := h2.int (by rw [nrow_length]; omega)
                  have h4 := hcr kk (by rw [nrow_length]; exact hkl')
                  rw [nth_nrow _ hkl'] at h4
                  have EX := Lib.hid (E4.out.trans HX2.out)
                  have t0 := (F4.out.ext HX2.out).three
                  have t1 := (EX.out.cell hb).trans h1
                  have t2 := (EX.out.cell hbr).trans h4
                  have t3 := (HV0.out.carry HX2.out).at hkl'
                  have hxb := hRW kk hkl'
                  have hvb := HOLc.out kk
                  have HMB := HMU.out (fv kk) (fAt rows i kk)
                  have HDB := HDT.out fv (fAt rows i) kk
                  have HDB2 := HDT.out fv (fAt rows i) (kk + 1)
                  have HTC := HTI.out wr.drew (fv kk) (fAt rows i kk) EX.out.drew (by omega) (by omega)
                  have HDN : Hid (dotTo p k low fv (fAt rows i) (kk + 1) = addF p k (dotTo p k low fv (fAt rows i) kk) (mulF p k (nth low) (fv kk) (fAt rows i kk))) := by show _ = _; rfl
                  obtain ⟨x, hx⟩ : ∃ x, fv kk = x := ⟨_, rfl⟩
                  obtain ⟨y, hy⟩ : ∃ y, fAt rows i kk = y := ⟨_, rfl⟩
                  rw [hx] at t3 hvb HTC HMB HDN
                  rw [hy] at t2 hxb HTC HMB HDN
                  obtain ⟨z, hz⟩ : ∃ z, mulF p k (nth low) x y = z := ⟨_, rfl⟩
                  rw [hz] at HTC HMB HDN
                  obtain ⟨s, hs⟩ : ∃ s, dotTo p k low fv (fAt rows i) kk = s := ⟨_, rfl⟩
                  rw [hs] at HDB HDN ⊢
                  have HSC : Hid (∀ W, _) := fun W => HSU.out W s z (by omega) (by omega)
                  rw [← HDN.out] at HSC
                  obtain ⟨s2, hs2⟩ : ∃ s2, dotTo p k low fv (fAt rows i) (kk + 1) = s2 := ⟨_, rfl⟩
                  rw [hs2] at HSC HDB2
                  have HS2 := Lib.hid hs2
                  have HTC := Lib.hid HTC
                  clear hc h1 h2 h3 h4 hcr hx hy hz hs hs2
                  have HEN : ∀ (args : Array Value) (w : World), (callFunc 32 args).run Tryd.prog w = .ok (.enter 32 args) w := fun _ _ => rfl
                  have HEN := Lib.hid HEN
                  go_upto_region 20 with fail
                  go_region_law (first | (refine step_callS (f := 32) (xs := #[.tmp 50, .tmp 54, .tmp 61]) (ats := #[29, 3, 3]) (args := #[.agg #[.int .i64 p, .int .i64 k, .slice ao k cap], .int .i64 x, .int .i64 y]) (R := fun w' => Ext wr.drew w') (.int .i64 z) ?_ ?_ HEN.out ?_ HTC.out ?_; (next => rfl); (next => rfl); (next => simp [Act.eval]; done); intro w5 hx6; have HX6 := Lib.hid ((Ext.refl wr).drew.trans hx6); have k6 := ((F4.out.ext HX2.out).ext HX6.out).three; clear hx6))
                  all_goals
                    go_wp2_with fail
                    refine Calls.mono (HSC.out w5) ?_
                    rintro e w7 ⟨rfl, hx7⟩
                    have HX7 := Lib.hid ((HX3.out.trans HX6.out).trans hx7)
                    clear hx7 k6
                    go_wp2
                    go_roundg r3
                    case measure => omega
                    case rel => exact ⟨kk + 1, by omega, by go_num, by rw [HS2.out], HX7.out⟩

end Go.Proofs.YthkafhmciapipaaDoor

/- The laws of spaces, plainly: Grassmann; normal and normal again; join and meet. Plain but for the words of the walk. -/
namespace Go.Proofs.YthkafhmciapipaaDoor
open Go.RowKit
set_option linter.unusedSectionVars false

section
variable {p k : Nat} {low : List Int} [hI : FldP p k low]

theorem nul_append {n : Nat} {A B : List (Nat → El p k low)} (v : Nat → El p k low) : Nul n (Span (A ++ B)) v ↔ Nul n (Span A) v ∧ Nul n (Span B) v := by
  rw [nul_span, nul_span, nul_span]
  constructor
  · intro h
    exact ⟨⟨h.1, fun r hr => h.2 r (List.mem_append_left _ hr)⟩, ⟨h.1, fun r hr => h.2 r (List.mem_append_right _ hr)⟩⟩
  · intro h
    exact ⟨h.1.1, fun r hr => (List.mem_append.1 hr).elim (h.1.2 r) (h.2.2 r)⟩
/-- Normal to the normal, of any rows. -/
theorem nul_nul' {n : Nat} {V : List (Nat → El p k low)} (hz : Zero n V) (v : Nat → El p k low) : Nul n (Nul n (Span V)) v ↔ Span V v := by
  obtain ⟨P, h1, h2⟩ := basV_ok hz
  rw [← h2 v, ← nul_nul h1 v]
  exact nul_congr (nul_congr fun v => (h2 v).symm) v
/-- What the meet is: normal to both normals. -/
theorem meet_is {n : Nat} {A B NA NB : List (Nat → El p k low)} (hA : Zero n A) (hB : Zero n B) (h1 : ∀ v, Span NA v ↔ Nul n (Span A) v) (h2 : ∀ v, Span NB v ↔ Nul n (Span B) v) (v : Nat → El p k low) : Nul n (Span (NA ++ NB)) v ↔ Span A v ∧ Span B v := by
  rw [nul_append, nul_congr h1 v, nul_congr h2 v, nul_nul' hA, nul_nul' hB]

/-- Grassmann, of lists of ints. -/
theorem grassmann_ints {n : Nat} {a b j m : List (List Int)} {A B : List (Nat → El p k low)} (hA : BasisI n a (Span A)) (hB : BasisI n b (Span B)) (hJ : BasisI n j (Span (A ++ B))) (hM : BasisI n m (fun v => Span A v ∧ Span B v)) : j.length + m.length = a.length + b.length := by
  obtain ⟨LA, PA, rfl, rA, sA⟩ := hA
  obtain ⟨LB, PB, rfl, rB, sB⟩ := hB
  obtain ⟨LJ, PJ, rfl, rJ, sJ⟩ := hJ
  obtain ⟨LM, PM, rfl, rM, sM⟩ := hM
  simp only [rowsN_length, List.length_map]
  refine grassmann (card_el low) rA rB rJ rM (fun v => ?_) (fun v => ?_)
  · rw [sJ v, span_append]
    exact ⟨fun ⟨x, y, h1, h2, h3⟩ => ⟨x, y, (sA x).2 h1, (sB y).2 h2, h3⟩, fun ⟨x, y, h1, h2, h3⟩ => ⟨x, y, (sA x).1 h1, (sB y).1 h2, h3⟩⟩
  · rw [sM v, sA v, sB v]
/-- The rows of a space and of its normal are n together. -/
theorem rank_ints {n : Nat} {a u : List (List Int)} {A : List (Nat → El p k low)} (hA : BasisI n a (Span A)) (hU : BasisI n u (Nul n (Span A))) : u.length + a.length = n := by
  obtain ⟨LA, PA, rfl, rA, sA⟩ := hA
  obtain ⟨LU, PU, rfl, rU, sU⟩ := hU
  simp only [rowsN_length, List.length_map]
  exact rank_nul (card_el low) rA rU fun v => (sU v).trans (nul_congr (fun v => (sA v).symm) v)
end

end Go.Proofs.YthkafhmciapipaaDoor

/- What the reference's basis of a marked space is. Plain but for the words of the walk. -/
namespace Go.Proofs.YthkafhmciapipaaDoor
open Go.RowKit
set_option linter.unusedSectionVars false
set_option linter.unusedVariables false

/-- Does a row ahead of C begin at k? -/
def ldT (q n : Nat) (T : Nat → Bool) (C k : Nat) : Bool := (List.range C).any fun c => decide (c ≠ 0) && (T c && leadOf n (opn q n c) == (k : Int))
/-- Is a row one of the basis? -/
def okC (q n : Nat) (LD : Nat → Bool) (k c : Nat) : Bool := (leadOf n (opn q n c) == (k : Int) && opn q n c k == 1) && (List.range n).all fun j => !(LD j && (j != k && opn q n c j != 0))
def rowsK (q n : Nat) (T LD : Nat → Bool) (k : Nat) : Nat → List (Nat → Nat)
  | 0 => []
  | C + 1 => if C ≠ 0 ∧ T C = true ∧ okC q n LD k C = true then rowsK q n T LD k C ++ [opn q n C] else rowsK q n T LD k C
def outK (q n N : Nat) (T LD : Nat → Bool) : Nat → List (Nat → Nat)
  | 0 => []
  | k + 1 => if LD k = true then outK q n N T LD k ++ rowsK q n T LD k N else outK q n N T LD k

theorem rowsK_none {q n : Nat} {T LD : Nat → Bool} {k : Nat} : ∀ C, (∀ c, c < C → ¬ (c ≠ 0 ∧ T c = true ∧ okC q n LD k c = true)) → rowsK q n T LD k C = []
  | 0, _ => rfl
  | C + 1, h => by
    rw [rowsK, if_neg (h C (by omega)), rowsK_none C fun c hc => h c (by omega)]
theorem rowsK_one {q n : Nat} {T LD : Nat → Bool} {k c0 : Nat} (h0 : c0 ≠ 0 ∧ T c0 = true ∧ okC q n LD k c0 = true) : ∀ C, c0 < C → (∀ c, c < C → (c ≠ 0 ∧ T c = true ∧ okC q n LD k c = true) → c = c0) → rowsK q n T LD k C = [opn q n c0]
  | 0, h, _ => by omega
  | C + 1, hc, hu => by
    by_cases e : C = c0
    · subst e
      rw [rowsK, if_pos h0, rowsK_none C fun c hc' h => by have := hu c (by omega) h; omega]
      rfl
    · rw [rowsK, if_neg (fun h => e (hu C (by omega) h)), rowsK_one h0 C (by omega) fun c hc' h => hu c (by omega) h]

section
variable {p k : Nat} {low : List Int} [hI : FldP p k low]

theorem lead_row {n i : Nat} (hi : i < n) {v : Nat → El p k low} (h : v i ≠ 0) (hz : ∀ j, j < i → v j = 0) : leadOf n (toN v) = i := leadOf_is hi (fun e => h (n_zero.1 e)) fun j hj => by show (v j).n = 0; rw [hz j hj]; rfl
/-- A row that isn't all 0 begins somewhere. -/
theorem lead_some {n : Nat} {v : Nat → El p k low} (hz : ∀ j, n ≤ j → v j = 0) (h : v ≠ vz) : ∃ i, i < n ∧ v i ≠ 0 ∧ (∀ j, j < i → v j = 0) ∧ leadOf n (toN v) = i := by
  have hex : ∃ i, v i ≠ 0 := Classical.byContradiction fun hn => h (funext fun i => Classical.byContradiction fun g => hn ⟨i, g⟩)
  obtain ⟨i, hi, hm⟩ : ∃ i, v i ≠ 0 ∧ ∀ j, j < i → v j = 0 := by
    obtain ⟨i0, hi0⟩ := hex
    induction i0 using Nat.strongRecOn with
    | _ i0 ih =>
      by_cases hs : ∃ j, j < i0 ∧ v j ≠ 0
      · obtain ⟨j, hj, hv⟩ := hs
        exact ih j hj hv
      · exact ⟨i0, hi0, fun j hj => Classical.byContradiction fun g => hs ⟨j, hj, g⟩⟩
  have hin : i < n := by
    rcases Nat.lt_or_ge i n with hl | hl
    · exact hl
    · exact absurd (hz i hl) hi
  exact ⟨i, hin, hi, hm, lead_row hin hi hm⟩
theorem opn_toN {n c : Nat} : ∀ j, j < n → opn (p ^ k) n c j = toN (vOf (p := p) (k := k) (low := low) n c) j := fun j hj => (vOf_n hj).symm
theorem nrow_congr {f g : Nat → Nat} {n : Nat} (h : ∀ j, j < n → f j = g j) : nrow f n = nrow g n := tab_congr _ _ _ fun j hj => by rw [h j hj]
theorem leadOf_congr {f g : Nat → Nat} {n : Nat} (h : ∀ j, j < n → f j = g j) : leadOf n f = leadOf n g := by unfold leadOf; rw [nrow_congr h]
theorem leadOf_opn (n c : Nat) : leadOf n (opn (p ^ k) n c) = leadOf n (toN (vOf (p := p) (k := k) (low := low) n c)) := leadOf_congr opn_toN

/-- The marks of a space. -/
def Marks (n : Nat) (T : Nat → Bool) (S : (Nat → El p k low) → Prop) : Prop := ∀ c, c < (p ^ k) ^ n → (T c = true ↔ S (vOf n c))

theorem ld_iff {n : Nat} {T : Nat → Bool} {L : List (Nat → El p k low)} {P : Nat → Nat} (hL : IsRref n L P) (hT : Marks n T (Span L)) (j : Nat) (hj : j < n) : ldT (p ^ k) n T ((p ^ k) ^ n) j = true ↔ ∃ i, i < L.length ∧ P i = j := by
  unfold ldT
  rw [List.any_eq_true]
  constructor
  · rintro ⟨c, hc, h⟩
    rw [List.mem_range] at hc
    simp only [Bool.and_eq_true, decide_eq_true_eq, beq_iff_eq] at h
    obtain ⟨h0, h1, h2⟩ := h
    have hS := (hT c hc).1 h1
    have hne : vOf (p := p) (k := k) (low := low) n c ≠ vz := fun e => h0 (vOf_inj (low := low) hc (Nat.pow_pos (qpos low)) (e.trans (vOf_zero n).symm))
    obtain ⟨i, _, hv, hz, hl⟩ := lead_some (fun j hj => vOf_sup hj) hne
    rw [leadOf_opn (low := low), hl] at h2
    obtain rfl : i = j := by omega
    exact Rref.lead hL (hL.span.1 hS) hv hz
  · rintro ⟨i, hi, rfl⟩
    have hmem := span_mem (rowAt_mem L i hi)
    have hsup : ∀ j, n ≤ j → rowAt L i j = 0 := fun j hj => Rref.sup hL i hi j hj
    have hone : rowAt L i (P i) ≠ 0 := by rw [Rref.one hL i hi i hi, if_pos rfl]; exact Fld.one_ne
    have hlead : leadOf n (toN (rowAt L i)) = P i := lead_row hj hone (Rref.low hL i hi)
    refine ⟨cOf n (rowAt L i), List.mem_range.2 (cOf_lt n _), ?_⟩
    simp only [Bool.and_eq_true, decide_eq_true_eq, beq_iff_eq]
    refine ⟨fun e => hone ?_, (hT _ (cOf_lt n _)).2 (by rw [vOf_cOf hsup]; exact hmem), by rw [leadOf_opn (low := low), vOf_cOf hsup]; exact hlead⟩
    have := vOf_cOf hsup
    rw [e, vOf_zero] at this
    rw [← this]; rfl
theorem ok_iff {n : Nat} {LD : Nat → Bool} {L : List (Nat → El p k low)} {P : Nat → Nat} (hL : IsRref n L P) (hLD : ∀ j, j < n → (LD j = true ↔ ∃ i, i < L.length ∧ P i = j)) {i c : Nat} (hi : i < L.length) (hS : Span L (vOf n c)) : okC (p ^ k) n LD (P i) c = true ↔ vOf n c = rowAt L i := by
  have hPn := Rref.pn hL i hi
  unfold okC
  simp only [Bool.and_eq_true, beq_iff_eq, List.all_eq_true, List.mem_range]
  constructor
  · rintro ⟨⟨h1, h2⟩, h3⟩
    refine Rref.own hL (hL.span.1 hS) hi fun j hj => ?_
    have hPj := Rref.pn hL j hj
    by_cases e : i = j
    · subst e
      rw [if_pos rfl]
      refine El.ext' ?_
      rw [vOf_n hPn]; exact h2
    · rw [if_neg e]
      have h4 := h3 (P j) hPj
      rw [(hLD (P j) hPj).2 ⟨j, hj, rfl⟩] at h4
      have hne : P j ≠ P i := fun h => e (Rref.inj hL hj hi h).symm
      simp only [Bool.true_and, Bool.not_eq_true', Bool.and_eq_false_iff, bne_eq_false_iff_eq] at h4
      rcases h4 with h4 | h4
      · exact absurd h4 hne
      · refine El.ext' ?_
        rw [vOf_n hPj]; exact h4
  · intro e
    have hone : rowAt L i (P i) ≠ 0 := by rw [Rref.one hL i hi i hi, if_pos rfl]; exact Fld.one_ne
    have hlead : leadOf n (toN (rowAt L i)) = P i := lead_row hPn hone (Rref.low hL i hi)
    have hop : ∀ j, j < n → opn (p ^ k) n c j = (rowAt L i j).n := fun j hj => by rw [← e, vOf_n hj]
    refine ⟨⟨by rw [leadOf_opn (low := low), e]; exact hlead, ?_⟩, fun j hj => ?_⟩
    · rw [hop _ hPn, Rref.one hL i hi i hi, if_pos rfl]; rfl
    · cases hld : LD j with
      | false => rfl
      | true =>
        obtain ⟨t, ht, rfl⟩ := (hLD j hj).1 hld
        rw [Bool.true_and, Bool.not_eq_true', Bool.and_eq_false_iff]
        by_cases e2 : i = t
        · subst e2; left; simp
        · right
          rw [bne_eq_false_iff_eq, hop _ hj, Rref.one hL i hi t ht, if_neg e2]; rfl
theorem outK_is {n : Nat} {T LD : Nat → Bool} {L : List (Nat → El p k low)} {P : Nat → Nat} (hL : IsRref n L P) (hT : Marks n T (Span L)) (hLD : ∀ j, j < n → (LD j = true ↔ ∃ i, i < L.length ∧ P i = j)) :
    ∀ kk, kk ≤ n → ∃ t, t ≤ L.length ∧ (∀ i, i < L.length → (P i < kk ↔ i < t)) ∧ rowsN n (outK (p ^ k) n ((p ^ k) ^ n) T LD kk) = rowsN n ((L.take t).map toN)
  | 0, _ => ⟨0, Nat.zero_le _, fun i _ => ⟨fun h => by omega, fun h => by omega⟩, by rw [List.take_zero]; rfl⟩
  | kk + 1, hk => by
    obtain ⟨t, ht, hP, he⟩ := outK_is hL hT hLD kk (by omega)
    rw [outK]
    by_cases hl : LD kk = true
    · rw [if_pos hl]
      obtain ⟨i, hi, e⟩ := (hLD kk (by omega)).1 hl
      have hti : t = i := by
        have h1 : ¬ i < t := fun h => by have := (hP i hi).2 h; omega
        rcases Nat.lt_or_ge t i with h | h
        · have := Rref.inc hL t i h hi
          have := (hP t (by omega)).1 (by omega)
          omega
        · omega
      subst hti
      refine ⟨t + 1, hi, fun j hj => ?_, ?_⟩
      · constructor
        · intro h
          rcases Nat.lt_or_ge t j with h2 | h2
          · have := Rref.inc hL t j h2 hj; omega
          · omega
        · intro h
          have := Rref.mono hL (show j ≤ t by omega) hi
          omega
      · have hsup : ∀ j, n ≤ j → rowAt L t j = 0 := fun j hj => Rref.sup hL t hi j hj
        have hmem := span_mem (rowAt_mem L t hi)
        have hone : rowAt L t (P t) ≠ 0 := by rw [Rref.one hL t hi t hi, if_pos rfl]; exact Fld.one_ne
        have hc0 : cOf n (rowAt L t) ≠ 0 := fun e0 => hone (by
          have := vOf_cOf hsup
          rw [e0, vOf_zero] at this
          rw [← this]; rfl)
        have hS0 : Span L (vOf n (cOf n (rowAt L t))) := by rw [vOf_cOf hsup]; exact hmem
        have hone2 := rowsK_one (q := p ^ k) (n := n) (T := T) (LD := LD) (k := kk) (c0 := cOf n (rowAt L t)) ⟨hc0, (hT _ (cOf_lt n _)).2 hS0, by rw [← e]; exact (ok_iff hL hLD hi hS0).2 (vOf_cOf hsup)⟩ ((p ^ k) ^ n) (cOf_lt n _) fun c hc h => by
          have hSc := (hT c hc).1 h.2.1
          have h3 := h.2.2
          rw [← e] at h3
          have h4 := (ok_iff hL hLD hi hSc).1 h3
          rw [← cOf_vOf (low := low) hc, h4]
        rw [hone2]
        have e2 : L.take (t + 1) = L.take t ++ [rowAt L t] := by
          rw [List.take_add_one, rowAt_eq L t hi, List.getElem?_eq_getElem hi]; rfl
        rw [e2, List.map_append]
        unfold rowsN at he ⊢
        rw [List.map_append, List.map_append, he]
        congr 1
        show [nrow (opn (p ^ k) n (cOf n (rowAt L t))) n] = [nrow (toN (rowAt L t)) n]
        rw [nrow_congr fun j hj => by rw [opn_toN (low := low) j hj, vOf_cOf hsup]]
    · rw [if_neg hl]
      refine ⟨t, ht, fun i hi => ?_, he⟩
      rw [← hP i hi]
      constructor
      · intro h
        rcases Nat.lt_or_ge (P i) kk with h2 | h2
        · exact h2
        · exact absurd ((hLD kk (by omega)).2 ⟨i, hi, by omega⟩) hl
      · intro h; omega
/-- The basis that the reference finds. -/
theorem basisOf_is {n : Nat} {T : Nat → Bool} {S : (Nat → El p k low) → Prop} {xss : List (List Int)} (hB : BasisI n xss S) (hT : Marks n T S) : rowsN n (outK (p ^ k) n ((p ^ k) ^ n) T (ldT (p ^ k) n T ((p ^ k) ^ n)) n) = xss := by
  obtain ⟨L, P, rfl, hL, hs⟩ := hB
  have hT' : Marks n T (Span L) := fun c hc => (hT c hc).trans (hs _).symm
  obtain ⟨t, ht, hP, he⟩ := outK_is hL hT' (fun j hj => ld_iff hL hT' j hj) n (Nat.le_refl n)
  have htl : t = L.length := by
    rcases Nat.lt_or_ge t L.length with h | h
    · have := (hP t h).1 (Rref.pn hL t h); omega
    · omega
  rw [he, htl, List.take_length]

end

/-- A number that isn't 0 is a row that begins. -/
theorem lead_opn {p k : Nat} (low : List Int) [hI : FldP p k low] {n c : Nat} (hc : c < (p ^ k) ^ n) (h0 : c ≠ 0) : ∃ i, i < n ∧ leadOf n (opn (p ^ k) n c) = i := by
  have hne : vOf (p := p) (k := k) (low := low) n c ≠ vz := fun e => h0 (vOf_inj (low := low) hc (Nat.pow_pos (qpos low)) (e.trans (vOf_zero n).symm))
  obtain ⟨i, hi, _, _, hl⟩ := lead_some (fun j hj => vOf_sup hj) hne
  exact ⟨i, hi, by rw [leadOf_opn (low := low), hl]⟩

end Go.Proofs.YthkafhmciapipaaDoor
