/- What parterreref3.Span answers. No conditions but a field. -/
import Derived.Test.YtnhdngnolepkcaaDoorJiclkdngkcn
import Derived.Test.YtnhdngnolepkcaaDoorJdlamginjjf
namespace Go.Proofs.YtnhdngnolepkcaaDoor
open Go.RowKit
set_option linter.unusedVariables false

/-- Numbers from 0 on, as values. -/
def nats (s : List Nat) : List Value := ints (s.map fun c => ((c : Nat) : Int))
theorem nats_length (s : List Nat) : (nats s).length = s.length := by unfold nats; rw [ints_length, List.length_map]
theorem nats_get {s : List Nat} {j : Nat} (h : j < s.length) : (nats s)[j]? = some (.int .i64 (s.getD j 0 : Nat)) := by
  unfold nats
  rw [ints_get _ _ (by rw [List.length_map]; exact h), nth_eq _ _ (by rw [List.length_map]; exact h), List.getElem_map, List.getD_eq_getElem?_getD, List.getElem?_eq_getElem h]
  rfl
theorem nats_snoc (s : List Nat) (c : Nat) : nats s ++ [.int .i64 (c : Int)] = nats (s ++ [c]) := by
  unfold nats
  rw [List.map_append, ints_append]; rfl

/-- The marks and the list, made since w0. -/
structure SpSt (w0 wr : World) (g N : Nat) (s : List Nat) (lo : Option Addr) (lcap : Nat) : Prop where
  tab : OwnB w0 wr g N N (fun c => decide (c ∈ s))
  lst : RowOf 3 wr w0.heap.size lo s.length lcap (nats s)
  ap : Apart (.slice lo s.length lcap) (.slice (some ⟨g, 0, none⟩) N N)
theorem SpSt.carry {w0 wr w' : World} {g N : Nat} {s : List Nat} {lo : Option Addr} {lcap : Nat} (h : SpSt w0 wr g N s lo lcap) (hx : Ext wr w') : SpSt w0 w' g N s lo lcap := ⟨h.tab.carry hx, hx.row h.lst, h.ap⟩
/-- A mark is set, and the number is put behind. -/
theorem SpSt.next {w0 wr w' : World} {g N : Nat} {s : List Nat} {lo lo' : Option Addr} {lcap lcap' c : Nat} (h : SpSt w0 wr g N s lo lcap) (hc : c ∉ s)
    (hr : RowOf 3 w' w0.heap.size lo' (s.length + 1) lcap' (nats s ++ [.int .i64 (c : Int)])) (hg : ((wr.setCell ⟨g, c, none⟩ (.bool true)).alloc (.cells #[.int .i64 (c : Int)] 3)).grownBy w' (Value.slice lo s.length lcap).ownBlock)
    (hat : (Value.slice lo' (s.length + 1) lcap').ownBlock = (Value.slice lo s.length lcap).ownBlock ∨ (Value.slice lo' (s.length + 1) lcap').ownBlock = some ((wr.setCell ⟨g, c, none⟩ (.bool true)).alloc (.cells #[.int .i64 (c : Int)] 3)).heap.size) : SpSt w0 w' g N (mark s c) lo' lcap' := by
  have hm : mark s c = s ++ [c] := by unfold mark; rw [if_neg hc]
  have h1 := (h.tab.set c true).carry (ext_box (wr.setCell ⟨g, c, none⟩ (.bool true)) #[.int .i64 (c : Int)] 3)
  have hlt := h1.lt
  have hne : some g ≠ (Value.slice lo s.length lcap).ownBlock := fun e => h.ap g e.symm rfl
  rw [hm]
  refine ⟨⟨?_, ?_⟩, ?_, ?_⟩
  · exact Below.grown h1.ext hg h1.ext.size fun k hk => (h.lst.block k hk).1
  · have h2 := h1.row.grown hg h.ap
    rw [boolL_congr (U := fun i => if i = c then true else decide (i ∈ s)) fun i _ => ?_]
    · exact h2
    · by_cases e : i = c
      · subst e; simp
      · simp [e]
  · rw [List.length_append]
    show RowOf _ _ _ _ (s.length + 1) _ _
    rw [← nats_snoc]; exact hr
  · rw [List.length_append]
    show Apart (.slice lo' (s.length + 1) lcap') _
    exact h.ap.next hat fun b hb => by cases hb; exact hlt.2

/-- Bounds of a list of numbers. -/
def GoodS (N : Nat) (s : List Nat) : Prop := s.Nodup ∧ ∀ c, c ∈ s → c < N
theorem GoodS.len {N : Nat} {s : List Nat} (h : GoodS N s) : s.length ≤ N := by
  have := nodup_le id s (List.range N) h.1 (fun c hc => List.mem_range.2 (h.2 c hc)) (fun _ _ _ _ e => e)
  simpa using this
theorem GoodS.getD {N : Nat} {s : List Nat} (h : GoodS N s) {j : Nat} (hj : j < s.length) : s.getD j 0 < N := by
  refine h.2 _ ?_
  rw [List.getD_eq_getElem?_getD, List.getElem?_eq_getElem hj]; exact List.getElem_mem hj
theorem sumC_lt {p k n : Nat} (hp : 0 < p) (c : Nat) (f : Nat → Nat) : sumC p k (p ^ k) n c f < (p ^ k) ^ n := shutN_lt (Nat.pow_pos hp) fun j _ => addF_lt hp _ _
theorem good_spanC {p k n : Nat} {low : List Int} {rows : List (Nat → Nat)} (hp : 0 < p) : ∀ i, GoodS ((p ^ k) ^ n) (spanC p k n low rows i)
  | 0 => ⟨by show [0].Nodup; simp, fun c hc => by
      have : c = 0 := by simpa using (show c ∈ [0] from hc)
      subst this; exact Nat.pow_pos (Nat.pow_pos hp)⟩
  | i + 1 => ⟨addX_nodup (good_spanC hp i).1 _, addX_all (good_spanC hp i).2 (fun c g => sumC_lt hp c g) _⟩
theorem good_addX {p k n : Nat} {low : List Int} {L0 : List Nat} {f : Nat → Nat} (hp : 0 < p) (h : GoodS ((p ^ k) ^ n) L0) (t : Nat) : GoodS ((p ^ k) ^ n) (addX p k (p ^ k) n low L0 f t) := ⟨addX_nodup h.1 _, addX_all h.2 (fun c g => sumC_lt hp c g) _⟩
theorem good_addJ {p k n : Nat} {L0 s : List Nat} {f : Nat → Nat} (hp : 0 < p) (h : GoodS ((p ^ k) ^ n) s) (j : Nat) : GoodS ((p ^ k) ^ n) (addJ p k (p ^ k) n L0 f s j) := ⟨addJ_nodup h.1 _, addJ_all h.2 (fun c => sumC_lt hp c f) _⟩

set_option maxHeartbeats 16000000 in
set_option maxRecDepth 100000 in
theorem refSpan_any (p k n : Nat) (ao vo : Option Addr) (cap m mcap : Nat) (low : List Int) (rows : List (Nat → Nat)) (w : World) (hF : IsField p k low) (hra : Reads w ao (ints low)) (hn1 : 1 ≤ n) (hn6 : n ≤ 6) (hbig : (p ^ k) ^ n ≤ 4096) (hm : rows.length = m) (hm12 : m ≤ 100) (hlt : AllLt (p ^ k) n rows) (hr : ReadsL w vo (rowsN n rows)) :
    Calls Tryd.prog 7 #[.agg #[.int .i64 p, .int .i64 k, .slice ao k cap], .int .i64 n, .slice vo m mcap] w fun e w' => ∃ g, e = .returned (.slice (some ⟨g, 0, none⟩) ((p ^ k) ^ n) ((p ^ k) ^ n)) ∧ OwnB w w' g ((p ^ k) ^ n) ((p ^ k) ^ n) (fun c => decide (c ∈ spanC p k n low rows m)) := by
  have hp0 : 0 < p := by have := hF.p2; omega
  have hq2 : 2 ≤ p ^ k := one_lt_pow' hF.p2 hF.k1
  have h64 := hF.big
  have E0 := Lib.hid (ext_box w #[.int .i64 p, .int .i64 k, .slice ao k cap] 24)
  have F0 := Lib.hid (Blk.new w #[.int .i64 p, .int .i64 k, .slice ao k cap] 24)
  have k0 := F0.out.three
  have HS : Hid (∀ w, _) := fun w => size_is p k ao k cap low w hF
  have HTI : Hid (∀ W a b, Ext w W → a < 128 → b < 128 → _) := fun W a b (hx : Ext w W) ha hb => timesOf_any p k a b ao cap low W hF.p2 hF.p61 hF.k1 hF.k6 h64 ha hb hF.len (hx.reads hra) hF.dig
  have HAD : Hid (∀ W (c : Nat) (f : Nat → Nat) vo vcap, c < 100000 → (∀ j, j < n → f j < p ^ k) → Reads W vo (ints (tab (fun j => ((f j : Nat) : Int)) n)) → _) := fun W (c : Nat) (f : Nat → Nat) vo vcap h1 h2 h3 => added_any p k n c ao vo k cap vcap low f W hF hn1 hn6 hbig h1 h2 h3
  have HGD : Hid (∀ i, GoodS ((p ^ k) ^ n) (spanC p k n low rows i)) := good_spanC hp0
  have HGX : Hid (∀ i t, GoodS ((p ^ k) ^ n) (addX p k (p ^ k) n low (spanC p k n low rows i) (fAt rows i) t)) := fun i t => good_addX hp0 (good_spanC hp0 i) t
  have HGJ : Hid (∀ i t j, GoodS ((p ^ k) ^ n) (addJ p k (p ^ k) n (spanC p k n low rows i) (timR p k low (t + 1) (fAt rows i)) (addX p k (p ^ k) n low (spanC p k n low rows i) (fAt rows i) t) j)) := fun i t j => good_addJ hp0 (good_addX hp0 (good_spanC hp0 i) t) j
  have HMU : Hid (∀ a b, mulF p k (nth low) a b < p ^ k) := fun a b => mulF_lt hp0 a b
  have HRW : Hid (∀ i, i < m → ∀ j, j < n → fAt rows i j < p ^ k) := fun i hi => hlt.at (by omega)
  have HSP : Hid (∀ i, spanC p k n low rows (i + 1) = addX p k (p ^ k) n low (spanC p k n low rows i) (fAt rows i) (p ^ k - 1)) := fun i => by show _ = _; rfl
  have HR := Lib.hid hr
  have HML := Lib.hid hm
  obtain ⟨q, hq⟩ : ∃ q, p ^ k = q := ⟨_, rfl⟩
  rw [hq] at hq2 h64 HS HAD HGD HGX HGJ HMU HRW HSP hbig ⊢
  have HQ := Lib.hid hq
  have HPW : Hid (∀ i, i ≤ n → q ^ i ≤ q ^ n) := fun i hi => Nat.pow_le_pow_right (by omega) hi
  obtain ⟨N, hN⟩ : ∃ N, q ^ n = N := ⟨_, rfl⟩
  have HNN := Lib.hid hN
  have hNpos : 0 < N := by rw [← hN]; exact Nat.pow_pos (by omega)
  rw [hN] at HGD HGX HGJ HPW hbig ⊢
  clear hF hra hr hlt hm hq hN
  go_enter Tryd.func7, Tryd.ntmps7
  go_wp2_with fail
  refine Calls.mono (HS.out _) ?_
  rintro e w1 ⟨rfl, hx⟩
  have E1 := Lib.hid (E0.out.trans hx)
  have F1 := Lib.hid (F0.out.ext hx)
  clear hx k0
  go_wp2
  go_loopg [8, 9] n (fun r y x wr => ∃ i u : Nat, i + r = n ∧ x = .int .i64 i ∧ y = .int .i64 u ∧ Hid (u = q ^ i) ∧ w1 = wr)
  case atStart => exact ⟨0, 1, by omega, rfl, rfl, by show _ = _; rw [Nat.pow_zero], rfl⟩
  case round =>
    obtain ⟨i, u, hir, rfl, rfl, HU, rfl⟩ := hrel
    cases gk with
    | succ r1 =>
      have hin : (i : Int) < (n : Int) := by omega
      have h1 := HPW.out i (by omega)
      rw [← HU.out] at h1
      obtain ⟨v, hv⟩ : ∃ v, u * q = v := ⟨_, rfl⟩
      have hv' : (u : Int) * (q : Int) = v := by rw [← hv, Int.natCast_mul]
      have HV : Hid (v = q ^ (i + 1)) := by show _ = _; rw [← hv, HU.out, Nat.pow_succ]
      have hvb : v ≤ 4096 := by
        have h2 := HPW.out (i + 1) (by omega)
        rw [← HV.out] at h2; omega
      clear hv
      go_wp2
      go_roundg r1
      case measure => omega
      case rel => exact ⟨i + 1, v, by omega, by go_num, rfl, HV, rfl⟩
    | zero =>
      obtain rfl : n = i := by omega
      obtain rfl : N = u := by rw [← HNN.out]; exact HU.out.symm
      have hmk := mk_bools N (by omega) w1
      have HT0 := Lib.hid (OwnB.made w1 N (by omega))
      have k1 := HT0.out.cellAt hNpos
      have k2 := HT0.out.f 0
      have HB0 : Hid (OwnB w1 (w1.alloc (.cells ((madeCells #[.bool false] N).setIfInBounds 0 (.bool true)) 4)) w1.heap.size N N (fun c => decide (c ∈ [0]))) := by
        have h1 := HT0.out.set 0 true
        rw [World.setCell_alloc_at _ _ _ _ _ rfl] at h1
        refine h1.congr fun c hc => ?_
        by_cases e : c = 0
        · subst e; simp
        · simp [e]
      obtain ⟨g, hg⟩ : ∃ g, w1.heap.size = g := ⟨_, rfl⟩
      rw [hg] at HB0 k1 k2
      go_wp2
      obtain ⟨w2, hw2⟩ : ∃ w2, w2 = w1.alloc (.cells ((madeCells #[.bool false] N).setIfInBounds 0 (.bool true)) 4) := ⟨_, rfl⟩
      have hs2 : w2.heap.size = g + 1 := by rw [hw2, ← hg]; simp
      rw [← hw2] at HB0 ⊢
      have HST0 : Hid (SpSt w1 (w2.alloc (.cells #[.int .i64 0] 3)) g N [0] (some ⟨g + 1, 0, none⟩) 1) := by
        refine ⟨HB0.out.carry (ext_box _ _ _), ?_, fun b hb => ?_⟩
        · have h := RowOf.lit' 3 w2 #[.int .i64 0] (by decide) (b := g + 1) hs2.symm
          exact h.mono (by omega)
        · cases hb; simp [Value.ownBlock]
      obtain ⟨w3, hw3⟩ : ∃ w3, w3 = w2.alloc (.cells #[.int .i64 0] 3) := ⟨_, rfl⟩
      rw [← hw3] at HST0
      have HGE := Lib.hid hg
      have hw1 := (F1.out).lt
      try rw [← hw3]
      try rw [hg]
      clear hmk HT0 k1 k2 hg hw2 hw3 HB0 HU hir hs2 hw1
      go_loopg [11, 12] m (fun r l x wr => ∃ (i : Nat) (lo : Option Addr) (lcap : Nat), i + r = m ∧ x = .int .i64 i ∧ l = .slice lo (spanC p k n low rows i).length lcap ∧ SpSt w1 wr g N (spanC p k n low rows i) lo lcap)
      case atStart => exact ⟨0, _, _, by omega, rfl, rfl, HST0.out⟩
      case round =>
        obtain ⟨i, lo, lcap, him, rfl, rfl, hst⟩ := hrel
        have HST := Lib.hid hst
        clear hst HST0
        cases gk with
        | zero =>
          obtain rfl : m = i := by omega
          obtain ⟨ll, hll⟩ : ∃ ll, (spanC p k n low rows m).length = ll := ⟨_, rfl⟩
          rw [hll]
          clear hll
          go_wp2
          exact bodyPost_ret (v := .slice (some ⟨g, 0, none⟩) N N) (by simp [results, Tryd.results7, go_sem]) rfl ⟨g, rfl, E1.out.trans HST.out.tab.ext, HST.out.tab.row.mono E1.out.size⟩
        | succ r1 =>
          have hil : (i : Int) < (m : Int) := by omega
          have him' : i < m := by omega
          have HGXi : Hid (∀ t, _) := fun t => HGX.out i t
          have HGJi : Hid (∀ t j, _) := fun t j => HGJ.out i t j
          have HPRX : Hid (∀ t j, j < (spanC p k n low rows i).length → _) := fun t j hj => addX_pre (p := p) (k := k) (q := q) (n := n) (low := low) (f := fAt rows i) hj t
          have HPRJ : Hid (∀ (s : List Nat) f' j jj, jj < s.length → _) := fun s f' j jj hjj => addJ_pre (p := p) (k := k) (q := q) (n := n) (L0 := spanC p k n low rows i) (f := f') (s := s) (i := jj) hjj j
          have HNXT := Lib.hid (HSP.out i)
          have HGL := HGD.out i
          have hL := HGL.len
          have HG0 := Lib.hid HGL
          obtain ⟨L0, hL0⟩ : ∃ L0, spanC p k n low rows i = L0 := ⟨_, rfl⟩
          rw [hL0] at HST HGXi HGJi HPRX HPRJ HNXT hL HG0 ⊢
          obtain ⟨LL, hLL⟩ : ∃ LL, L0.length = LL := ⟨_, rfl⟩
          have HLL := Lib.hid hLL
          rw [hLL] at hL HPRX ⊢
          have hRW := HRW.out i him'
          have HSTX : Hid (SpSt w1 wr g N (addX p k q n low L0 (fAt rows i) 0) lo lcap) := HST.out
          have HL0L : Hid ((addX p k q n low L0 (fAt rows i) 0).length = LL) := hLL
          clear hL0 HGL hLL
          obtain ⟨wa, rfl⟩ : ∃ wa : World, wa = wr := ⟨_, rfl⟩
          go_wp2
          go_loopg [11, 14] (q - 1) (fun r l x wx => ∃ (t : Nat) (lo : Option Addr) (lcap ll : Nat), t + r = q - 1 ∧ x = .int .i64 ((t : Int) + 1) ∧ (addX p k q n low L0 (fAt rows i) t).length = ll ∧ l = .slice lo ll lcap ∧ SpSt w1 wx g N (addX p k q n low L0 (fAt rows i) t) lo lcap)
          case atStart => exact ⟨0, lo, lcap, LL, by omega, by rfl, HL0L.out, rfl, HSTX.out⟩
          case round =>
            obtain ⟨t, lo2, lcap2, ll2, htq, rfl, hll2, rfl, hst2⟩ := hrel
            have HST2 := Lib.hid hst2
            have HLL2 := Lib.hid hll2
            have hgx := (HGXi.out t).len
            rw [hll2] at hgx
            clear hst2 HSTX HST hll2
            cases gk with
            | zero =>
              have htn : ¬ ((t : Int) + 1 < (q : Int)) := by omega
              obtain rfl : t = q - 1 := by omega
              go_wp2
              go_roundg r1
              case measure => omega
              case rel => exact ⟨i + 1, lo2, lcap2, by omega, by go_num, by rw [HNXT.out, HLL2.out], by rw [HNXT.out]; exact HST2.out⟩
            | succ r2 =>
              have htl : (t : Int) + 1 < (q : Int) := by omega
              have htl' : t + 1 < q := by omega
              have F2 := Lib.hid (F1.out.ext HST2.out.tab.ext)
              have E2 := Lib.hid (E1.out.trans HST2.out.tab.ext)
              obtain ⟨wb, rfl⟩ : ∃ wb : World, wb = wr := ⟨_, rfl⟩
              have HV0 : Hid (OwnInts wb wb (.slice none 0 0) (tab (fun j => ((timR p k low (t + 1) (fAt rows i) j : Nat) : Int)) 0)) := OwnInts.nil (Ext.refl _)
              go_wp2
              go_loopg [15, 16] n (fun r v x wx => ∃ kk : Nat, kk + r = n ∧ x = .int .i64 kk ∧ OwnInts wb wx v (tab (fun j => ((timR p k low (t + 1) (fAt rows i) j : Nat) : Int)) kk))
              case atStart => exact ⟨0, by omega, rfl, HV0.out⟩
              case round =>
                obtain ⟨kk, hkn, rfl, hv⟩ := hrel
                obtain ⟨ao5, n5, cap5, rfl, hrow5, hx5⟩ := hv
                have HR5 := Lib.hid hrow5
                have HX5 := Lib.hid hx5
                have hn5 : n5 = kk := by have := hrow5.length; rw [ints_length, tab_length] at this; omega
                have hsz5 := hx5.size
                subst hn5
                clear hrow5 hx5 HV0
                cases gk with
                | succ r3 =>
                  have hkl : (n5 : Int) < (n : Int) := by omega
                  have hkl' : n5 < n := by omega
                  obtain ⟨b, off, rfl, hb, hc⟩ := HR.out.row (by rw [rowsN_length, HML.out]; omega)
                  obtain ⟨a, c, h1, h2, h3⟩ := hc i (by rw [rowsN_length, HML.out]; exact him')
                  rw [row_rowsN n rows (by rw [HML.out]; exact him')] at h1 h2
                  rw [nrow_length] at h1
                  obtain ⟨br, orr, rfl, hbr, hcr⟩ := h2.int (by rw [nrow_length]; omega)
                  have h4 := hcr n5 (by rw [nrow_length]; exact hkl')
                  rw [nth_nrow _ hkl'] at h4
                  have EX := Lib.hid (E2.out.trans HX5.out)
                  have t0 := (F2.out.ext HX5.out).three
                  have t1 := (EX.out.cell hb).trans h1
                  have t2 := (EX.out.cell hbr).trans h4
                  have hxb := hRW n5 hkl'
                  have HMB := HMU.out (t + 1) (fAt rows i n5)
                  have HTC := HTI.out wr.drew (t + 1) (fAt rows i n5) EX.out.drew (by omega) (by omega)
                  obtain ⟨y, hy⟩ : ∃ y, fAt rows i n5 = y := ⟨_, rfl⟩
                  have HSN : Hid (((timR p k low (t + 1) (fAt rows i) n5 : Nat) : Int) = (mulF p k (nth low) (t + 1) y : Nat)) := by show _ = _; unfold timR; rw [hy]
                  rw [hy] at t2 hxb HTC HMB
                  obtain ⟨z, hz⟩ : ∃ z, mulF p k (nth low) (t + 1) y = z := ⟨_, rfl⟩
                  rw [hz] at HTC HMB HSN
                  rw [show (((t + 1 : Nat)) : Int) = (t : Int) + 1 by omega] at HTC
                  have HTC := Lib.hid HTC
                  clear hc h1 h2 h3 h4 hcr hy hz
                  have HEN : ∀ (args : Array Value) (w : World), (callFunc 20 args).run Tryd.prog w = .ok (.enter 20 args) w := fun _ _ => rfl
                  have HEN := Lib.hid HEN
                  go_upto_region 21 with fail
                  go_region_law (first | (refine step_callS (f := 20) (xs := #[.tmp 53, .tmp 54, .tmp 61]) (ats := #[24, 3, 3]) (args := #[.agg #[.int .i64 p, .int .i64 k, .slice ao k cap], .int .i64 ((t : Int) + 1), .int .i64 y]) (R := fun w' => Ext wr.drew w') (.int .i64 z) ?_ ?_ HEN.out ?_ HTC.out ?_; (next => rfl); (next => rfl); (next => simp [Act.eval]; done); intro w5 hx6; have HX6 := Lib.hid ((Ext.refl wr).drew.trans hx6); have HR6 := Lib.hid (HX6.out.row HR5.out); have hsz6 := HX6.out.size; clear hx6))
                  all_goals
                    go_wp2_with (at_builtin; refine wpList_appInt eInt rfl (.tmp 63) (.tmp 65) rfl wb.heap.size (by rfl) HR6.out (by rfl) (by omega) (by omega) ?_; intro ao7 cap7 w7 hr7 hg7 hb7; have HR7 := Lib.hid hr7; have HB7 := Lib.hid (hb7 _ _ (HX5.out.trans HX6.out) (Nat.le_refl _)); clear hr7 hg7 hb7)
                    go_roundg r3
                    case measure => omega
                    case rel => exact ⟨n5 + 1, by omega, by go_num, ao7, n5 + 1, cap7, rfl, by rw [← tab_snoc _ n5 z HSN.out]; exact HR7.out, HB7.out⟩
                | zero =>
                  obtain rfl : n = n5 := by omega
                  have hst3 := HST2.out.carry HX5.out
                  have HST3 := Lib.hid hst3
                  have HVA : Hid (Apart (.slice lo2 (addX p k q n low L0 (fAt rows i) t).length lcap2) (.slice ao5 n cap5)) := fun b hb hb2 => by
                    have h1 := (HST2.out.lst.block b hb).2
                    have h2 := (HR5.out.block b hb2).1
                    omega
                  rw [HLL2.out] at HVA
                  have hTR : ∀ j, j < n → timR p k low (t + 1) (fAt rows i) j < q := fun j _ => HMU.out _ _
                  have HTR := Lib.hid hTR
                  have HGJt : Hid (∀ j, _) := fun j => HGJi.out t j
                  have HPX : Hid (∀ j, j < LL → j < ll2 ∧ (addX p k q n low L0 (fAt rows i) t).getD j 0 = L0.getD j 0) := fun j hj => by have h := HPRX.out t j hj; rw [HLL2.out] at h; exact h
                  have HPJ : Hid (∀ j jj, jj < ll2 → _) := fun j jj hjj => HPRJ.out (addX p k q n low L0 (fAt rows i) t) (timR p k low (t + 1) (fAt rows i)) j jj (by rw [HLL2.out]; exact hjj)
                  have HXN : Hid (addX p k q n low L0 (fAt rows i) (t + 1) = addJ p k q n L0 (timR p k low (t + 1) (fAt rows i)) (addX p k q n low L0 (fAt rows i) t) LL) := by show _ = _; rw [← HLL.out]; rfl
                  obtain ⟨fv, hfv⟩ : ∃ fv, timR p k low (t + 1) (fAt rows i) = fv := ⟨_, rfl⟩
                  rw [hfv] at HR5 HTR HGJt HPJ HXN
                  obtain ⟨S0, hS0⟩ : ∃ S0, addX p k q n low L0 (fAt rows i) t = S0 := ⟨_, rfl⟩
                  rw [hS0] at HST3 HGJt HPX HPJ HXN HLL2
                  have HR5' := Lib.hid HR5.out
                  have EX5 := Lib.hid (E2.out.trans HX5.out)
                  have hgb : g < wb.heap.size := HST2.out.tab.lt.2
                  have HWB := Lib.hid HX5.out
                  clear hst3 hTR hfv hS0 HR5
                  obtain ⟨wc, rfl⟩ : ∃ wc : World, wc = wr := ⟨_, rfl⟩
                  go_wp2
                  go_loopg [11, 18] LL (fun r l x wx => ∃ (j : Nat) (lo : Option Addr) (lcap ll : Nat), j + r = LL ∧ x = .int .i64 j ∧ (addJ p k q n L0 fv S0 j).length = ll ∧ l = .slice lo ll lcap ∧ SpSt w1 wx g N (addJ p k q n L0 fv S0 j) lo lcap ∧ RowOf 3 wx wb.heap.size ao5 n cap5 (ints (tab (fun j => ((fv j : Nat) : Int)) n)) ∧ Apart (.slice lo ll lcap) (.slice ao5 n cap5))
                  case atStart => exact ⟨0, lo2, lcap2, ll2, by omega, rfl, HLL2.out, rfl, HST3.out, HR5'.out, HVA.out⟩
                  case round =>
                    obtain ⟨j, lo4, lcap4, ll4, hjL, rfl, hll4, rfl, hst4, hrv, hva⟩ := hrel
                    have HST4 := Lib.hid hst4
                    have HLL4 := Lib.hid hll4
                    have HRV := Lib.hid hrv
                    have HVA4 := Lib.hid hva
                    have hgj := (HGJt.out j).len
                    rw [hll4] at hgj
                    clear hst4 hll4 hrv hva HST3 HR5' HVA
                    cases gk with
                    | zero =>
                      obtain rfl : LL = j := by omega
                      go_wp2
                      go_roundg r2
                      case measure => omega
                      case rel => exact ⟨t + 1, lo4, lcap4, ll4, by omega, by go_num, by rw [HXN.out]; exact HLL4.out, rfl, by rw [HXN.out]; exact HST4.out⟩
                    | succ r4 =>
                      have hjl : (j : Int) < (LL : Int) := by omega
                      have hjl' : j < LL := by omega
                      have hpx := HPX.out j hjl'
                      have hpj := HPJ.out j j hpx.1
                      have hlst := HST4.out.lst
                      rw [HLL4.out] at hlst hpj
                      obtain ⟨gl, rfl, hgl1, hgl2, hgl3, _⟩ := hlst.opened (by omega)
                      have t1 := hgl3 j _ (nats_get (by rw [HLL4.out]; exact hpj.1))
                      rw [hpj.2, hpx.2] at t1
                      have EW := Lib.hid (E1.out.trans HST4.out.tab.ext)
                      have t0 := (F1.out.ext HST4.out.tab.ext).three
                      have hdN := HG0.out.getD (j := j) (by rw [HLL.out]; exact hjl')
                      have HAC := HAD.out wr.drew (L0.getD j 0) fv ao5 cap5 (by omega) HTR.out ((Ext.refl wr).drew.reads HRV.out.reads)
                      have HNXJ : Hid (addJ p k q n L0 fv S0 (j + 1) = mark (addJ p k q n L0 fv S0 j) (sumC p k q n (L0.getD j 0) fv)) := by show _ = _; rfl
                      obtain ⟨d, hd⟩ : ∃ d, L0.getD j 0 = d := ⟨_, rfl⟩
                      rw [hd] at t1 hdN HAC HNXJ
                      have hAC : Calls Tryd.prog 21 #[.agg #[.int .i64 p, .int .i64 k, .slice ao k cap], .int .i64 n, .int .i64 d, .slice ao5 n cap5] wr.drew fun e w' => e = .returned (.int .i64 (sumC p k q n d fv : Nat)) ∧ Ext wr.drew w' := HAC
                      have hcN : sumC p k q n d fv < N := by
                        have h := HGJt.out (j + 1)
                        rw [HNXJ.out] at h
                        exact h.2 _ (mem_mark.2 (.inr rfl))
                      obtain ⟨c, hc⟩ : ∃ c, sumC p k q n d fv = c := ⟨_, rfl⟩
                      rw [hc] at hAC hcN HNXJ
                      have HAC := Lib.hid hAC
                      obtain ⟨S, hS⟩ : ∃ S, addJ p k q n L0 fv S0 j = S := ⟨_, rfl⟩
                      rw [hS] at HST4 HLL4 HNXJ
                      have hjl4 := hpj.1
                      clear hpx hpj hlst hgl3 hd hdN hAC hc hS
                      have HEN : ∀ (args : Array Value) (w : World), (callFunc 21 args).run Tryd.prog w = .ok (.enter 21 args) w := fun _ _ => rfl
                      have HEN := Lib.hid HEN
                      go_upto_region 26 with fail
                      go_region_law (first | (refine step_callS (f := 21) (xs := #[.tmp 72, .tmp 73, .tmp 77, .tmp 78]) (ats := #[24, 3, 3, 22]) (args := #[.agg #[.int .i64 p, .int .i64 k, .slice ao k cap], .int .i64 n, .int .i64 d, .slice ao5 n cap5]) (R := fun w' => Ext wr.drew w') (.int .i64 c) ?_ ?_ HEN.out ?_ HAC.out ?_; (next => rfl); (next => rfl); (next => simp [Act.eval]; done); intro w5 hx6; have HX6 := Lib.hid ((Ext.refl wr).drew.trans hx6); have HST6 := Lib.hid (HST4.out.carry HX6.out); have HRV6 := Lib.hid (HX6.out.row HRV.out); have k6 := HST6.out.tab.cellAt hcN; have k7 := HST6.out.tab.f c; clear hx6))
                      all_goals
                        by_cases hcs : c ∈ S
                        · rw [decide_eq_true hcs] at k6
                          have HMK : Hid (mark S c = S) := by show _ = _; unfold mark; rw [if_pos hcs]
                          clear hcs
                          go_wp2
                          go_roundg r4
                          case measure => omega
                          case rel => exact ⟨j + 1, _, lcap4, ll4, by omega, by go_num, by rw [HNXJ.out, HMK.out]; exact HLL4.out, rfl, by rw [HNXJ.out, HMK.out]; exact HST6.out, HRV6.out, HVA4.out⟩
                        · rw [decide_eq_false hcs] at k6
                          have HCS := Lib.hid hcs
                          have HLN : Hid ((mark S c).length = ll4 + 1) := by show _ = _; unfold mark; rw [if_neg hcs, List.length_append, HLL4.out]; rfl
                          have hsz6 := HST6.out.tab.lt
                          have hlst6 := HST6.out.lst
                          rw [HLL4.out] at hlst6
                          have HLB : Hid (RowOf 3 ((w5.setCell ⟨g, c, none⟩ (.bool true)).alloc (.cells #[.int .i64 (c : Int)] 3)) w1.heap.size (some ⟨gl, 0, none⟩) ll4 lcap4 (nats S)) := by
                            have hne := HST6.out.ap gl rfl
                            have h1 : RowOf 3 (w5.setCell ⟨g, c, none⟩ (.bool true)) w1.heap.size (some ⟨gl, 0, none⟩) ll4 lcap4 (nats S) := hlst6.kept fun b hb => Below.heap_setCell _ _ _ _ (by cases hb; intro e; exact hne (by rw [show gl = g from e]; rfl))
                            exact World.ownsRow.alloc h1 _
                          have hwsz : w1.heap.size ≤ ((w5.setCell ⟨g, c, none⟩ (.bool true)).alloc (.cells #[.int .i64 (c : Int)] 3)).heap.size := by simp; omega
                          clear hcs hlst6
                          go_wp2_with (at_builtin; refine wpList_one eInt (w := (w5.setCell ⟨g, c, none⟩ (.bool true)).alloc (.cells #[.int .i64 (c : Int)] 3)) rfl (.tmp 88) (.tmp 90) rfl w1.heap.size (by rfl) HLB.out ⟨w5.heap.size, 0, none⟩ (.int .i64 (c : Int)) (by rfl) (by simp [World.cell?_alloc_at]) rfl (by omega) hwsz ?_; intro ao8 cap8 w8 hr8 hg8 hat8; have HR8 := Lib.hid hr8; have HG8 := Lib.hid hg8; have HAT8 := Lib.hid hat8; clear hr8 hg8 hat8)
                          have HSN : Hid (SpSt w1 w8 g N (mark S c) ao8 cap8) := by
                            have hr := HR8.out
                            have hg := HG8.out
                            have ha := HAT8.out
                            rw [← HLL4.out] at hr hg ha
                            exact HST6.out.next HCS.out hr hg ha
                          have HRV8 : Hid (RowOf 3 w8 wb.heap.size ao5 n cap5 (ints (tab (fun j => ((fv j : Nat) : Int)) n))) := by
                            have h1 := (HRV6.out.beside ⟨g, c, none⟩ hgb (.bool true))
                            have h2 := (ext_box (w5.setCell ⟨g, c, none⟩ (.bool true)) #[.int .i64 (c : Int)] 3).row h1
                            exact h2.grown HG8.out HVA4.out
                          have HVA8 : Hid (Apart (.slice ao8 (ll4 + 1) cap8) (.slice ao5 n cap5)) := HVA4.out.next HAT8.out fun b hb => by
                            have h1 := (HRV6.out.block b hb).2
                            simp; omega
                          go_roundg r4
                          case measure => omega
                          case rel => exact ⟨j + 1, ao8, cap8, ll4 + 1, by omega, by go_num, by rw [HNXJ.out]; exact HLN.out, rfl, by rw [HNXJ.out]; exact HSN.out, HRV8.out, HVA8.out⟩

end Go.Proofs.YtnhdngnolepkcaaDoor
