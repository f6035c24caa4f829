/- slices.Concat at lists of rows. Conditions: as the theorem says. -/
import Derived.Test.YthkafhmciapipaaDoorJSpaceGrassmannAS
import Derived.Shelf.Spec.SlicesGrow
import Derived.Deep.LoopGhost
import Derived.Deep.RegionHeld3
import Derived.Deep.DeepCutAuto
import Derived.BigQuiet
namespace Go.Proofs.YthkafhmciapipaaDoor
open Go.RowKit Go.Shelf

shelf_lay_g Lays8.n4 Nm8 4 at Tryd 58 as growRows

/-- Lists of rows, one behind the other. -/
def catV (vs : Nat → List Value) : Nat → List Value
  | 0 => []
  | j + 1 => catV vs j ++ vs j

set_option maxHeartbeats 1000000 in
theorem grow_rows (n : Nat) (w : World) (hn : n ≤ 100000) :
    Calls Tryd.prog 58 #[.slice none 0 0, .int .i64 n] w fun e w' => ∃ ao cap, e = .returned (.slice ao 0 cap) ∧ RowOf 27 w' w.heap.size ao 0 cap [] ∧ Ext w w' := by
  obtain ⟨i, hi, hz, hsz, hby⟩ := info_parts eRow.inf
  by_cases h0 : n = 0
  · subst h0
    refine (Any8.slices_Grow_room growRows none 0 0 0 w (by omega) (by omega) (by omega) (by omega)).mono ?_
    rintro e w' ⟨rfl, rfl⟩
    exact ⟨none, 0, rfl, RowOf.nil _ _ _, Ext.refl _⟩
  · refine (Any8.slices_Grow_grow growRows i (.slice none 0 0) hi hz (by rw [hsz]; omega) none 0 0 n [] w (by omega) (by omega) (by rw [hby]; omega) (by omega) (by simp) (fun _ => rfl) (fun a h => by cases h)).mono ?_
    rintro e w' ⟨rfl, rfl⟩
    have hg := grownCap_ge w (0 + n) 0 27
    have hl := grownCap_le_maxLen w (0 + n) 0 27 (by unfold maxLen; omega)
    have key : ∀ (cs : Array Value) (G : Nat), cs.size = G → G ≤ maxLen → RowOf 27 (w.drew.alloc (.cells cs 27)) w.heap.size (some ⟨w.heap.size, 0, none⟩) 0 G [] := fun cs G hs hG =>
      ⟨by simp, .inr ⟨w.heap.size, G, cs, rfl, Nat.le_refl _, heap_alloc_new w.drew _, Nat.zero_le _, hG, by omega, by simp⟩⟩
    refine ⟨_, _, rfl, key _ _ ?_ hl, (Ext.refl w).drew.alloc _⟩
    have z : (Value.cells (.slice none 0 0)).size = 1 := rfl
    simp only [Array.size_append, size_zeroCells, z]
    show 0 + _ + (grownCap w (0 + n) 0 27 - (0 + n)) * 1 = grownCap w (0 + n) 0 27
    omega

theorem wpList_appAll {w : World} {ops : Array Oper} {rest : List Oper} {o : Oper} {a : Act} {Q : Exit → Act → World → Prop} (hgd : o.guard = none) (s x : Operand)
    (ho : o.op = .call { callee := .builtin .append, args := #[s, x], argTypes := #[30, 30] }) (B : Nat) {ao bo : Option Addr} {n cap m c : Nat} {xs news : List Value}
    (hs : a.eval s = .slice ao n cap) (hown : RowOf 27 w B ao n cap xs) (hx : a.eval x = .slice bo m c) (hl : news.length = m) (hr : Reads w bo news) (h1 : ∀ u ∈ news, u.oneCell' = true) (hn : n + m ≤ 100000) (hB : B ≤ w.heap.size)
    (h : ∀ ao' cap' w', RowOf 27 w' B ao' (n + m) cap' (xs ++ news) → w.grownBy w' (Value.slice ao n cap).ownBlock → wpList Tryd.prog ops Q rest (a.put o.dst (.slice ao' (n + m) cap')) w') : wpList Tryd.prog ops Q (o :: rest) a w := by
  obtain ⟨i, hi, hz, hsz, hby⟩ := info_parts eRow.inf
  cases bo with
  | none =>
    obtain rfl : news = [] := by
      rcases hr with h | ⟨b, off, h, _⟩
      · exact h
      · cases h
    obtain rfl : m = 0 := by simpa using hl.symm
    refine wpList_plain hgd fun K hK => ?_
    have hrun : ∀ ty, (Builtin.append_ #[30, 30] ty #[.slice ao n cap, .slice none 0 c]).run Tryd.prog w = .ok (.slice ao n cap) w := fun ty => by
      rcases hown.2 with ⟨h, rfl⟩ | ⟨g, cap', cur, h, _, _, hnc, _⟩
      · simp only [Value.slice.injEq] at h
        obtain ⟨rfl, _, rfl⟩ := h
        simp [Builtin.append_, run_underlying eRow.und, sizeOf, typeInfo, hi, Builtin.lenOf, Builtin.firstCells]
      · simp only [Value.slice.injEq] at h
        obtain ⟨rfl, _, rfl⟩ := h
        simp [Builtin.append_, run_underlying eRow.und, sizeOf, typeInfo, hi, Builtin.lenOf, Builtin.firstCells, hnc, storeCells]
    unfold Oper.wp
    simp [execOp, ho, resolve, invoke, builtin, hs, hx, hrun, Result.andThen]
    exact hK _ _ (h ao cap w (by simpa using hown) ⟨rfl, rfl, rfl, Nat.le_refl _, fun _ _ _ => rfl⟩)
  | some ad =>
    refine wpList_append_own _ hgd s x 30 ho B 27 i (.slice none 0 0) 1 24 eRow.und hi hz hsz hby eRow.cel (by decide) _ n xs hs hown ad m c news hx (by omega) ?_ h1 (by unfold maxLen; omega) (by omega) hB ?_
    · intro j u hu
      rcases hr with e | ⟨b', off', e, hlt, hc⟩
      · subst e; simp at hu
      · obtain rfl := Option.some.inj e
        rw [Addr.add_lit]
        exact hc j u hu
    · intro v' w' hr1 hg1 hz1
      obtain ⟨ao', cap', rfl⟩ := RowOf.shape hr1
      exact h ao' cap' w' hr1 hg1

theorem catV_le (vs : Nat → List Value) (N : Nat) : ∀ k, (∀ j, j < k → (vs j).length ≤ N) → (catV vs k).length ≤ k * N
  | 0, _ => by simp [catV]
  | k + 1, h => by
    have := catV_le vs N k fun j hj => h j (by omega)
    have := h k (by omega)
    rw [catV, List.length_append, Nat.succ_mul]; omega

set_option maxHeartbeats 4000000 in
set_option maxRecDepth 100000 in
theorem concat_any (b off k cap : Nat) (vs : Nat → List Value) (w : World) (hk : k ≤ 10) (hb : b < w.heap.size)
    (hc : ∀ j, j < k → ∃ a c, w.cell? ⟨b, off + j, none⟩ = some (.slice a (vs j).length c) ∧ Reads w a (vs j) ∧ (vs j).length ≤ 1000 ∧ ∀ v ∈ vs j, v.oneCell' = true) :
    Calls Tryd.prog 39 #[.slice (some ⟨b, off, none⟩) k cap] w fun e w' => ∃ ao' cap', e = .returned (.slice ao' (catV vs k).length cap') ∧ RowOf 27 w' w.heap.size ao' (catV vs k).length cap' (catV vs k) ∧ Ext w w' := by
  have HC := Lib.hid hc
  have HL : Hid (∀ j, j ≤ k → (catV vs j).length ≤ 10000) := fun j hj => by
    have := catV_le vs 1000 j fun i hi => by
      obtain ⟨_, _, _, _, h, _⟩ := hc i (by omega)
      exact h
    omega
  have HGR : Hid (∀ n, n ≤ 100000 → _) := fun n hn => grow_rows n w hn
  have HST : Hid (∀ j, (catV vs (j + 1)).length = (catV vs j).length + (vs j).length) := fun j => by show _ = _; rw [catV, List.length_append]
  clear hc
  go_enter Tryd.func39, Tryd.ntmps39
  go_wp2
  go_loopg [3, 11] k (fun g x y wr => ∃ j : Nat, j + g = k ∧ x = .int .i64 (catV vs j).length ∧ y = .int .i64 j ∧ w = wr)
  case atStart => exact ⟨0, by omega, rfl, rfl, rfl⟩
  case round =>
    obtain ⟨j, hjg, rfl, rfl, rfl⟩ := hrel
    cases gk with
    | zero =>
      have hjz : ¬ ((j : Int) < (k : Int)) := by omega
      obtain rfl : j = k := by omega
      have HG := HGR.out (catV vs j).length (by have := HL.out j (by omega); omega)
      have HG := Lib.hid HG
      go_wp2_with fail
      refine Calls.mono HG.out ?_
      rintro e w1 ⟨ao1, cap1, rfl, hr1, hx1⟩
      have HR1 := Lib.hid hr1
      have HX1 := Lib.hid hx1
      clear hr1 hx1
      go_wp2
      go_loopg [6, 27] j (fun g x y wr => ∃ i : Nat, i + g = j ∧ y = .int .i64 i ∧ ∃ ao cap, x = .slice ao (catV vs i).length cap ∧ RowOf 27 wr w.heap.size ao (catV vs i).length cap (catV vs i) ∧ Ext w wr)
      case atStart => exact ⟨0, by omega, rfl, _, _, rfl, HR1.out, HX1.out⟩
      case round =>
        obtain ⟨i, hig, rfl, ao, cap2, rfl, hro, hxo⟩ := hrel
        have HRO := Lib.hid hro
        have HXO := Lib.hid hxo
        have hsz := hxo.size
        clear hro hxo HR1 HX1
        cases gk with
        | zero =>
          have hiz : ¬ ((i : Int) < (j : Int)) := by omega
          obtain rfl : i = j := by omega
          go_wp2
          go_ret
          exact ⟨_, _, rfl, HRO.out, HXO.out⟩
        | succ g1 =>
          have hil : (i : Int) < (j : Int) := by omega
          obtain ⟨a, c, h1, h2, h3, h4⟩ := HC.out i (by omega)
          have k1 := (HXO.out.cell hb).trans h1
          have HN2 := Lib.hid (HXO.out.reads h2)
          have HO2 := Lib.hid h4
          have hle := HL.out i (by omega)
          clear h1 h2 h4
          go_wp2_with (at_builtin; (refine wpList_appAll rfl (.tmp 31) (.tmp 32) rfl w.heap.size (by rfl) HRO.out (by rfl) rfl HN2.out HO2.out (by omega) (by omega) ?_; intro ao4 cap4 w4 hr4 hg4; have HR4 := Lib.hid hr4; have HX4 := Lib.hid (Below.grown HXO.out hg4 hsz (fun b9 h9 => (HRO.out.block b9 h9).1)); clear hr4 hg4))
          go_roundg g1
          case measure => omega
          case rel => exact ⟨i + 1, by omega, by go_num, ao4, cap4, by rw [HST.out], by rw [HST.out]; exact HR4.out, HX4.out⟩
    | succ g1 =>
      have hjl : (j : Int) < (k : Int) := by omega
      obtain ⟨a, c, k1, _, h3, _⟩ := HC.out j (by omega)
      have hle := HL.out j (by omega)
      have h9 : ¬ (((catV vs j).length : Int) + ((vs j).length : Int) < 0) := by omega
      go_wp2
      go_roundg g1
      case measure => omega
      case rel => exact ⟨j + 1, by omega, by rw [HST.out]; go_num, by go_num, rfl⟩

end Go.Proofs.YthkafhmciapipaaDoor

/- Rows of elements: one times an element, one less another times an element. No conditions but the room. -/
namespace Go.Proofs.YthkafhmciapipaaDoor
open Go.RowKit

/-- The row of a function. -/
def nrow (f : Nat → Nat) (n : Nat) : List Int := tab (fun j => ((f j : Nat) : Int)) n
theorem nrow_length (f : Nat → Nat) (n : Nat) : (nrow f n).length = n := tab_length _ _
theorem nth_nrow (f : Nat → Nat) {n j : Nat} (h : j < n) : nth (nrow f n) j = (f j : Nat) := nth_tab _ _ _ h

/-- A row of a table of a room. -/
theorem RoomAt.mulAt {w : World} {b p k : Nat} {low : List Int} {n : Nat} (h : RoomAt w b p k low n) : ∃ (mo : Option Addr) (mc : Nat), w.cell? ⟨b, 5, none⟩ = some (.slice mo (p ^ k) mc) ∧
    ∀ a, a < p ^ k → ∃ (bm om : Nat) (ao : Option Addr) (ac : Nat), mo = some ⟨bm, om, none⟩ ∧ w.cell? ⟨bm, om + a, none⟩ = some (.slice ao (p ^ k) ac) ∧ ∀ c, c < p ^ k → ∃ (br or : Nat), ao = some ⟨br, or, none⟩ ∧ w.cell? ⟨br, or + c, none⟩ = some (.int .i64 (mulF p k (nth low) a c : Nat)) := by
  obtain ⟨fo, mo, so, io, fc, mc, sc, ic, h1, h2, h3, h4⟩ := h.ex
  refine ⟨mo, mc, h1.c 5 _ rfl, fun a ha => ?_⟩
  obtain ⟨bm, om, rfl, _, hr⟩ := h2.row (by rw [ltab_length]; omega)
  obtain ⟨ao, ac, hc, hrd, _⟩ := hr a (by rw [ltab_length]; exact ha)
  rw [row_ltab _ _ _ ha] at hc hrd
  have hl : (mulR p k low (p ^ k) a).length = p ^ k := tab_length _ _
  rw [hl] at hc
  refine ⟨bm, om, ao, ac, rfl, hc, fun c hc' => ?_⟩
  obtain ⟨br, or, rfl, _, hcell⟩ := Reads.int hrd (by rw [hl]; omega)
  refine ⟨br, or, rfl, ?_⟩
  have := hcell c (by rw [hl]; exact hc')
  rw [this]
  unfold mulR
  rw [nth_tab _ _ _ hc']
theorem RoomAt.addAt {w : World} {b p k : Nat} {low : List Int} {n : Nat} (h : RoomAt w b p k low n) : ∃ (mo : Option Addr) (mc : Nat), w.cell? ⟨b, 6, none⟩ = some (.slice mo (p ^ k) mc) ∧
    ∀ a, a < p ^ k → ∃ (bm om : Nat) (ao : Option Addr) (ac : Nat), mo = some ⟨bm, om, none⟩ ∧ w.cell? ⟨bm, om + a, none⟩ = some (.slice ao (p ^ k) ac) ∧ Reads w ao (ints (addR p k (p ^ k) a)) ∧ ∀ c, c < p ^ k → ∃ (br or : Nat), ao = some ⟨br, or, none⟩ ∧ w.cell? ⟨br, or + c, none⟩ = some (.int .i64 (addF p k a c : Nat)) := by
  obtain ⟨fo, mo, so, io, fc, mc, sc, ic, h1, h2, h3, h4⟩ := h.ex
  refine ⟨so, sc, h1.c 6 _ rfl, fun a ha => ?_⟩
  obtain ⟨bm, om, rfl, _, hr⟩ := h3.row (by rw [ltab_length]; omega)
  obtain ⟨ao, ac, hc, hrd, _⟩ := hr a (by rw [ltab_length]; exact ha)
  rw [row_ltab _ _ _ ha] at hc hrd
  have hl : (addR p k (p ^ k) a).length = p ^ k := tab_length _ _
  rw [hl] at hc
  refine ⟨bm, om, ao, ac, rfl, hc, hrd, fun c hc' => ?_⟩
  obtain ⟨br, or, rfl, _, hcell⟩ := Reads.int hrd (by rw [hl]; omega)
  refine ⟨br, or, rfl, ?_⟩
  have := hcell c (by rw [hl]; exact hc')
  rw [this]
  unfold addR
  rw [nth_tab _ _ _ hc']

set_option maxHeartbeats 2000000 in
theorem scale_any (p k n b m a : Nat) (low : List Int) (ao : Option Addr) (cap : Nat) (f : Nat → Nat) (w : World) (hb : RoomAt w b p k low n) (hm : m ≤ 64) (hf : ∀ j, j < m → f j < p ^ k) (ha : a < p ^ k) (hr : Reads w ao (ints (nrow f m))) :
    Calls Tryd.prog 48 #[.pointer (some ⟨b, 0, none⟩), .slice ao m cap, .int .i64 a] w fun e w' => ∃ v, e = .returned v ∧ OwnInts w w' v (nrow (fun j => mulF p k (nth low) a (f j)) m) := by
  have HB := Lib.hid hb
  have HR := Lib.hid hr
  have HF := Lib.hid hf
  obtain ⟨q, hq⟩ : ∃ q, p ^ k = q := ⟨_, rfl⟩
  have HQ := Lib.hid hq
  rw [hq] at HF ha
  clear hb hr hf hq
  go_enter Tryd.func48, Tryd.ntmps48
  go_wp2
  go_loopw [7, 12] (fun x y wr => ∃ j : Nat, j ≤ m ∧ y = .int .i64 j ∧ OwnInts w wr x (nrow (fun j => mulF p k (nth low) a (f j)) j)) (fun _ y _ => m - (intOf y).toNat)
  case atStart => exact ⟨0, by omega, rfl, OwnInts.nil (Ext.refl _)⟩
  case round =>
    obtain ⟨j, hj, rfl, hown⟩ := hrel
    obtain ⟨ao3, len2, cap3, rfl, hrow, hx⟩ := hown
    have HRW := Lib.hid hrow
    have HX := Lib.hid hx
    have hl2 : len2 = j := by have := hrow.length; rw [ints_length, nrow_length] at this; omega
    have hBw := hx.size
    clear hrow hx
    subst hl2
    by_cases hjm : len2 < m
    · obtain ⟨br, ofr, rfl, _, hcr⟩ := Reads.int (HX.out.reads HR.out) (by rw [nrow_length]; omega)
      have k1 := hcr len2 (by rw [nrow_length]; exact hjm)
      rw [nth_nrow f hjm] at k1
      obtain ⟨mo, mc, k2, hmul⟩ := (HB.out.ext HX.out).mulAt
      rw [HQ.out] at k2 hmul
      obtain ⟨bm, om, ar, ac, rfl, k3, hcell⟩ := hmul a ha
      have hfj := HF.out len2 hjm
      have HV : Hid (nrow (fun j => mulF p k (nth low) a (f j)) (len2 + 1) = nrow (fun j => mulF p k (nth low) a (f j)) len2 ++ [((mulF p k (nth low) a (f len2) : Nat) : Int)]) := rfl
      obtain ⟨x, hxx⟩ : ∃ x, f len2 = x := ⟨_, rfl⟩
      rw [hxx] at k1 hfj HV
      obtain ⟨bz, oz, rfl, k4⟩ := hcell x hfj
      obtain ⟨y, hy⟩ : ∃ y, mulF p k (nth low) a x = y := ⟨_, rfl⟩
      rw [hy] at k4 HV
      clear hcr hmul hcell hxx hy
      go_wp2_with (at_builtin; refine wpList_appInt eInt rfl (.tmp 16) (.tmp 27) rfl w.heap.size (by rfl) HRW.out (by rfl) (by omega) hBw ?_; intro ao4 cap4 w4 hr4 hg4 hb4)
      have HR4 : Hid (RowOf 3 w4 w.heap.size ao4 (len2 + 1) cap4 (ints (nrow (fun j => mulF p k (nth low) a (f j)) (len2 + 1)))) := by
        show RowOf _ _ _ _ _ _ _
        rw [HV.out]; simpa [ints_append, ints_one] using hr4
      have HX4 : Hid (Ext w w4) := hb4 _ _ HX.out (Nat.le_refl _)
      clear hr4 hg4 hb4
      go_roundw
      case rel => exact ⟨len2 + 1, by omega, by go_num, ao4, len2 + 1, cap4, rfl, HR4.out, HX4.out⟩
      case measure => simp [intOf]; omega
    · obtain rfl : len2 = m := by omega
      go_wp2
      go_ret
      exact ⟨_, rfl, ao3, len2, cap3, rfl, HRW.out, HX.out⟩

/-- Where 0 stands in the row of sums. -/
theorem neg_at {p k : Nat} {low : List Int} (hF : IsField p k low) (a : Nat) : idxFrom (fun x => (0 : Int) == x) (addR p k (p ^ k) a) 0 = (negF p k a : Nat) := by
  have hp : 0 < p := by have := hF.p2; omega
  have hn : negF p k a < p ^ k := negF_lt hp a
  have hl : (addR p k (p ^ k) a).length = p ^ k := tab_length _ _
  have h := idxFrom_hit (fun x => (0 : Int) == x) (addR p k (p ^ k) a) 0 (negF p k a) (by rw [hl]; exact hn) (by
    unfold addR
    rw [nth_tab _ _ _ hn, addF_neg hp]; rfl) (fun i hi => by
    unfold addR
    rw [nth_tab _ _ _ (by omega)]
    show ((0 : Int) == _) = false
    rw [beq_eq_false_iff_ne]
    intro e
    have e : addF p k a i = 0 := by omega
    have h1 : addF p k (negF p k a) (addF p k a i) = i := by rw [← addF_assoc hp, addF_comm (negF p k a), addF_neg hp, addF_comm, addF_zero hp i (by omega)]
    rw [e, addF_zero hp _ hn] at h1
    omega)
  rw [h]
  omega

set_option maxHeartbeats 4000000 in
set_option maxRecDepth 100000 in
theorem less_any (p k n b m a : Nat) (low : List Int) (ao bo : Option Addr) (cap bcap : Nat) (f g : Nat → Nat) (w : World) (hF : IsField p k low) (hb : RoomAt w b p k low n) (hm : m ≤ 64) (hf : ∀ j, j < m → f j < p ^ k) (hg : ∀ j, j < m → g j < p ^ k) (ha : a < p ^ k)
    (hr : Reads w ao (ints (nrow f m))) (hr2 : Reads w bo (ints (nrow g m))) :
    Calls Tryd.prog 50 #[.pointer (some ⟨b, 0, none⟩), .slice ao m cap, .slice bo m bcap, .int .i64 a] w fun e w' => ∃ v, e = .returned v ∧ OwnInts w w' v (nrow (fun j => addF p k (f j) (mulF p k (nth low) (negF p k a) (g j))) m) := by
  have HB := Lib.hid hb
  have HR := Lib.hid hr
  have HR2 := Lib.hid hr2
  have HF := Lib.hid hf
  have HG := Lib.hid hg
  have hp : 0 < p := by have := hF.p2; omega
  have hn : negF p k a < p ^ k := negF_lt hp a
  have HML : Hid (∀ x y, mulF p k (nth low) x y < p ^ k) := fun x y => mulF_lt hp x y
  have h64 := hF.big
  have HNG := neg_at hF a
  obtain ⟨so, sc, k1, hadd⟩ := hb.addAt
  obtain ⟨bm, om, ar, ac, rfl, k2, hrd, _⟩ := hadd a ha
  have HIX := index_any ar (p ^ k) ac (addR p k (p ^ k) a) 0 w (tab_length _ _) (by unfold maxLen; omega) hrd
  rw [HNG] at HIX
  have HIX := Lib.hid HIX
  obtain ⟨ng, hng⟩ : ∃ ng, negF p k a = ng := ⟨_, rfl⟩
  rw [hng] at hn HIX
  rw [hng]
  obtain ⟨q, hq⟩ : ∃ q, p ^ k = q := ⟨_, rfl⟩
  have HQ := Lib.hid hq
  rw [hq] at HF HG ha h64 k1 k2 hn HIX HML
  clear hb hr hr2 hf hg hq HNG hng hrd hadd hF hp
  go_enter Tryd.func50, Tryd.ntmps50
  go_wp2_with fail
  refine Calls.mono HIX.out ?_
  rintro e w1 ⟨rfl, rfl⟩
  clear k1 k2
  obtain ⟨w, rfl⟩ : ∃ w' : World, w' = w1 := ⟨_, rfl⟩
  go_wp2
  go_loopw [10, 23] (fun x y wr => ∃ j : Nat, j ≤ m ∧ y = .int .i64 j ∧ OwnInts w wr x (nrow (fun j => addF p k (f j) (mulF p k (nth low) ng (g j))) j)) (fun _ y _ => m - (intOf y).toNat)
  case atStart => exact ⟨0, by omega, rfl, OwnInts.nil (Ext.refl _)⟩
  case round =>
    obtain ⟨j, hj, rfl, hown⟩ := hrel
    obtain ⟨ao3, len2, cap3, rfl, hrow, hx⟩ := hown
    have HRW := Lib.hid hrow
    have HX := Lib.hid hx
    have hl2 : len2 = j := by have := hrow.length; rw [ints_length, nrow_length] at this; omega
    have hBw := hx.size
    clear hrow hx
    subst hl2
    by_cases hjm : len2 < m
    · obtain ⟨br, ofr, rfl, _, hcr⟩ := Reads.int HR.out (by rw [nrow_length]; omega)
      have k1 := hcr len2 (by rw [nrow_length]; exact hjm)
      rw [nth_nrow f hjm] at k1
      obtain ⟨br2, ofr2, rfl, _, hcr2⟩ := Reads.int HR2.out (by rw [nrow_length]; omega)
      have k1b := hcr2 len2 (by rw [nrow_length]; exact hjm)
      rw [nth_nrow g hjm] at k1b
      have hfj := HF.out len2 hjm
      have hgj := HG.out len2 hjm
      have HV : Hid (nrow (fun j => addF p k (f j) (mulF p k (nth low) ng (g j))) (len2 + 1) = nrow (fun j => addF p k (f j) (mulF p k (nth low) ng (g j))) len2 ++ [((addF p k (f len2) (mulF p k (nth low) ng (g len2)) : Nat) : Int)]) := rfl
      obtain ⟨x, hxx⟩ : ∃ x, f len2 = x := ⟨_, rfl⟩
      obtain ⟨z, hzz⟩ : ∃ x, g len2 = x := ⟨_, rfl⟩
      rw [hxx] at k1 hfj HV
      rw [hzz] at k1b hgj HV
      have hml := HML.out ng z
      obtain ⟨mo, mc, k2, hmul⟩ := HB.out.mulAt
      rw [HQ.out] at k2 hmul
      obtain ⟨bm, om, ar, ac, rfl, k3, hcell⟩ := hmul ng hn
      obtain ⟨bz, oz, rfl, k4⟩ := hcell z hgj
      obtain ⟨y, hy⟩ : ∃ y, mulF p k (nth low) ng z = y := ⟨_, rfl⟩
      rw [hy] at k4 HV hml
      obtain ⟨so, sc, k5, hadd⟩ := HB.out.addAt
      rw [HQ.out] at k5 hadd
      obtain ⟨bs, os, ats, asc, rfl, k6, _, hcell2⟩ := hadd x hfj
      obtain ⟨bt, ot, rfl, k7⟩ := hcell2 y hml
      obtain ⟨v, hv⟩ : ∃ v, addF p k x y = v := ⟨_, rfl⟩
      rw [hv] at k7 HV
      clear hcr hcr2 hmul hadd hcell hcell2 hxx hzz hy hv
      have HS : Hid (∀ W, Ext w W → W.cell? ⟨br, ofr + len2, none⟩ = some (.int .i64 x) ∧ W.cell? ⟨br2, ofr2 + len2, none⟩ = some (.int .i64 z) ∧ W.cell? ⟨b, 5, none⟩ = some (.slice (some ⟨bm, om, none⟩) q mc) ∧ W.cell? ⟨bm, om + ng, none⟩ = some (.slice (some ⟨bz, oz, none⟩) q ac) ∧
          W.cell? ⟨bz, oz + z, none⟩ = some (.int .i64 y) ∧ W.cell? ⟨b, 6, none⟩ = some (.slice (some ⟨bs, os, none⟩) q sc) ∧ W.cell? ⟨bs, os + x, none⟩ = some (.slice (some ⟨bt, ot, none⟩) q asc) ∧ W.cell? ⟨bt, ot + y, none⟩ = some (.int .i64 v)) := fun W h => by
        have key : ∀ c o u, w.cell? ⟨c, o, none⟩ = some u → W.cell? ⟨c, o, none⟩ = some u := fun c o u hu => (h.cell (World.block_lt_of_cell? w _ hu)).trans hu
        exact ⟨key _ _ _ k1, key _ _ _ k1b, key _ _ _ k2, key _ _ _ k3, key _ _ _ k4, key _ _ _ k5, key _ _ _ k6, key _ _ _ k7⟩
      have kk := (HS.out wr HX.out).1
      go_upto_region 6 with fail
      go_region_held3 (fun w' => w'.cell? ⟨br, ofr + len2, none⟩ = some (.int .i64 x) ∧ w'.cell? ⟨br2, ofr2 + len2, none⟩ = some (.int .i64 z) ∧ w'.cell? ⟨b, 5, none⟩ = some (.slice (some ⟨bm, om, none⟩) q mc) ∧ w'.cell? ⟨bm, om + ng, none⟩ = some (.slice (some ⟨bz, oz, none⟩) q ac) ∧ w'.cell? ⟨bz, oz + z, none⟩ = some (.int .i64 y) ∧ w'.cell? ⟨b, 6, none⟩ = some (.slice (some ⟨bs, os, none⟩) q sc) ∧ w'.cell? ⟨bs, os + x, none⟩ = some (.slice (some ⟨bt, ot, none⟩) q asc) ∧ w'.cell? ⟨bt, ot + y, none⟩ = some (.int .i64 v)) (first | (refine HS.out _ ?_; (repeat (first | exact HX.out | exact HX4.out | refine Ext.alloc ?_ _ | refine Ext.drew ?_)); done))
        ((first | (refine step_app eInt rfl (.tmp 28) (.tmp 51) rfl w.heap.size ?_ (World.ownsRow.drew (World.ownsRow.alloc HRW.out _)) ⟨wr.heap.size, 0, none⟩ (.int .i64 v) ?_ ?_ rfl ?_ ?_ ?_; (next => (first | rfl | (simp [Act.eval, Act.put]; done))); (next => (first | rfl | (simp [Act.eval, Act.put]; done))); (next => simp [World.cell?_alloc_at]); (next => omega); (next => simp; omega); intro ao4 cap4 w4 hr4 hg4 hb4; have HX4 := Lib.hid (hb4 _ _ (HX.out.alloc (.cells #[.int .i64 v] 3)).drew (Nat.le_refl _)); have HR4 := Lib.hid hr4; clear hr4 hg4 hb4) | fail))
      all_goals
        go_wp2
        have HR5 : Hid (RowOf 3 w4 w.heap.size ao4 (len2 + 1) cap4 (ints (nrow (fun j => addF p k (f j) (mulF p k (nth low) ng (g j))) (len2 + 1)))) := by
          show RowOf _ _ _ _ _ _ _
          rw [HV.out]; simpa [ints_append, ints_one] using HR4.out
        go_roundw
        case rel => exact ⟨len2 + 1, by omega, by go_num, ao4, len2 + 1, cap4, rfl, HR5.out, HX4.out⟩
        case measure => simp [intOf]; omega
    · obtain rfl : len2 = m := by omega
      go_wp2
      go_ret
      exact ⟨_, rfl, ao3, len2, cap3, rfl, HRW.out, HX.out⟩

end Go.Proofs.YthkafhmciapipaaDoor

/- The two lists of rows of an elimination, in memory; the elimination in numbers. Plain but for the words of the walk. -/
namespace Go.Proofs.YthkafhmciapipaaDoor
open Go.RowKit

/-- The inverse as the program finds it; a row times it; a row less another. -/
def invN (p k : Nat) (low : List Int) (a : Nat) : Nat := (invI p k low (p ^ k) a).toNat
def leadN (p k : Nat) (low : List Int) (c : Nat) (r : Nat → Nat) : Nat → Nat := fun j => mulF p k (nth low) (invN p k low (r c)) (r j)
def lessN (p k : Nat) (low : List Int) (l : Nat → Nat) (c : Nat) (o : Nat → Nat) : Nat → Nat := fun j => addF p k (o j) (mulF p k (nth low) (negF p k (o c)) (l j))
def pivN (c : Nat) (L : List (Nat → Nat)) : Option Nat := L.findIdx? fun r => r c != 0
def fAt (L : List (Nat → Nat)) (i : Nat) : Nat → Nat := L.getD i fun _ => 0
def stepN (p k : Nat) (low : List Int) (c : Nat) (s : List (Nat → Nat) × List (Nat → Nat)) : List (Nat → Nat) × List (Nat → Nat) :=
  match pivN c s.1 with
  | none => s
  | some i => ((s.1.eraseIdx i).map (lessN p k low (leadN p k low c (fAt s.1 i)) c), s.2.map (lessN p k low (leadN p k low c (fAt s.1 i)) c) ++ [leadN p k low c (fAt s.1 i)])
def redN (p k : Nat) (low : List Int) (rows : List (Nat → Nat)) : Nat → List (Nat → Nat) × List (Nat → Nat)
  | 0 => (rows, [])
  | c + 1 => stepN p k low c (redN p k low rows c)
def basN (p k : Nat) (low : List Int) (n : Nat) (rows : List (Nat → Nat)) : List (Nat → Nat) := (redN p k low rows n).2
/-- Rows of n elements. -/
def AllLt (q n : Nat) (L : List (Nat → Nat)) : Prop := ∀ f ∈ L, ∀ j, j < n → f j < q
def rowsN (n : Nat) (L : List (Nat → Nat)) : List (List Int) := L.map fun f => nrow f n
theorem rowsN_length (n : Nat) (L : List (Nat → Nat)) : (rowsN n L).length = L.length := by unfold rowsN; simp
theorem row_rowsN (n : Nat) (L : List (Nat → Nat)) {j : Nat} (h : j < L.length) : row (rowsN n L) j = nrow (fAt L j) n := by
  rw [row_eq _ _ (by rw [rowsN_length]; exact h)]
  unfold rowsN fAt
  simp [h]
theorem fAt_mem {L : List (Nat → Nat)} {j : Nat} (h : j < L.length) : fAt L j ∈ L := by unfold fAt; rw [List.getD_eq_getElem?_getD, List.getElem?_eq_getElem h]; exact List.getElem_mem h
theorem fAt_eq {L : List (Nat → Nat)} {j : Nat} (h : j < L.length) : fAt L j = L[j] := by unfold fAt; rw [List.getD_eq_getElem?_getD, List.getElem?_eq_getElem h]; rfl

theorem invI_at {p k : Nat} {low : List Int} (hF : IsField p k low) {a : Nat} (h0 : a ≠ 0) (ha : a < p ^ k) : invI p k low (p ^ k) a = (invN p k low a : Nat) ∧ invN p k low a < p ^ k ∧ mulF p k (nth low) a (invN p k low a) = 1 := by
  have hp : 0 < p := by have := hF.p2; omega
  obtain ⟨b, hb, e⟩ := field_inv hF h0 ha
  have hl : (mulR p k low (p ^ k) a).length = p ^ k := tab_length _ _
  have h := idxFrom_hit (fun x => (1 : Int) == x) (mulR p k low (p ^ k) a) 0 b (by rw [hl]; exact hb) (by
    unfold mulR
    rw [nth_tab _ _ _ hb, e]; rfl) (fun i hi => by
    unfold mulR
    rw [nth_tab _ _ _ (by omega)]
    show ((1 : Int) == _) = false
    rw [beq_eq_false_iff_ne]
    intro e2
    have e2 : mulF p k (nth low) a i = 1 := by omega
    have h1 : mulF p k (nth low) b (mulF p k (nth low) a i) = i := by
      rw [← mulF_assoc hp hF.k1, mulF_comm b a, e, mulF_comm, mulF_one hp hF.k1 i (by omega) hF.p2]
    rw [e2, mulF_one hp hF.k1 b hb hF.p2] at h1
    omega)
  have h2 : invI p k low (p ^ k) a = (b : Nat) := by unfold invI; rw [h]; omega
  have h3 : invN p k low a = b := by unfold invN; rw [h2]; rfl
  rw [h3]
  exact ⟨h2, hb, e⟩

/-- Both lists, made since w0. -/
structure LO (w0 w : World) (n : Nat) (ao : Option Addr) (m cap : Nat) (bo : Option Addr) (l bcap : Nat) (L M : List (Nat → Nat)) : Prop where
  ext : Ext w0 w
  left : ∃ vs, RowOf 27 w w0.heap.size ao m cap vs ∧ Rows2X w (fun b => some b ≠ (Value.slice bo l bcap).ownBlock) (Value.slice ao m cap).ownBlock vs (rowsN n L)
  out : ∃ us, RowOf 27 w w0.heap.size bo l bcap us ∧ Rows2X w (fun b => some b ≠ (Value.slice ao m cap).ownBlock) (Value.slice bo l bcap).ownBlock us (rowsN n M)
  ap : Apart (.slice ao m cap) (.slice bo l bcap)
namespace LO
variable {w0 w w' : World} {n : Nat} {ao bo : Option Addr} {m cap l bcap : Nat} {L M : List (Nat → Nat)}
theorem carry (h : LO w0 w n ao m cap bo l bcap L M) (hx : Ext w w') : LO w0 w' n ao m cap bo l bcap L M := by
  obtain ⟨vs, h1, h2⟩ := h.left
  obtain ⟨us, h3, h4⟩ := h.out
  exact ⟨h.ext.trans hx, ⟨vs, hx.row h1, h2.1, fun j v hv => (h2.2 j v hv).ext hx⟩, ⟨us, hx.row h3, h4.1, fun j v hv => (h4.2 j v hv).ext hx⟩, h.ap⟩
theorem swap (h : LO w0 w n ao m cap bo l bcap L M) : LO w0 w n bo l bcap ao m cap M L := ⟨h.ext, h.out, h.left, h.ap.symm⟩
theorem llen (h : LO w0 w n ao m cap bo l bcap L M) : L.length = m := by
  obtain ⟨vs, h1, h2⟩ := h.left
  have := h1.length
  rw [h2.1, rowsN_length] at this
  exact this
theorem olen (h : LO w0 w n ao m cap bo l bcap L M) : M.length = l := h.swap.llen
/-- A row that is read. -/
theorem rowAt (h : LO w0 w n ao m cap bo l bcap L M) {j : Nat} (hj : j < m) : ∃ g a c, ao = some ⟨g, 0, none⟩ ∧ w0.heap.size ≤ g ∧ g < w.heap.size ∧ w.cell? ⟨g, j, none⟩ = some (.slice a n c) ∧ w.frozen? ⟨g, j, none⟩ = false ∧ Reads w a (ints (nrow (fAt L j) n)) := by
  have hl := h.llen
  obtain ⟨vs, h1, h2⟩ := h.left
  obtain ⟨g, rfl, g1, g2, g3, g4⟩ := h1.opened (show 0 < m by omega)
  have hjv : j < vs.length := by rw [h2.1, rowsN_length]; omega
  have hv := List.getElem?_eq_getElem hjv
  obtain ⟨a, c, e, hr, _⟩ := (h2.2 j _ hv).inner
  rw [row_rowsN n L (by omega)] at e hr
  rw [nrow_length] at e
  exact ⟨g, a, c, rfl, g1, g2, by rw [g3 j _ hv, e], g4 j, hr⟩
/-- A row is put in the place of another. -/
theorem put {g : Nat} (h : LO w0 w n (some ⟨g, 0, none⟩) m cap bo l bcap L M) {j : Nat} (_hj : j < m) {v : Value} {f : Nat → Nat}
    (hv : InnerX w (fun b => some b ≠ (Value.slice bo l bcap).ownBlock) (some g) v (nrow f n)) : LO w0 (w.setCell ⟨g, j, none⟩ v) n (some ⟨g, 0, none⟩) m cap bo l bcap (L.set j f) M := by
  obtain ⟨vs, h1, h2⟩ := h.left
  obtain ⟨us, h3, h4⟩ := h.out
  have hlt := h1.block g rfl
  have beside : ∀ {P : Nat → Prop} {x : Option Nat} {u : Value} {xs : List Int}, InnerX w P x u xs → (∀ b, P b → some b ≠ x → b ≠ g) → InnerX (w.setCell ⟨g, j, none⟩ v) P x u xs := by
    intro P x u xs hi hne
    obtain ⟨a, c, e, hl, hi⟩ := hi
    refine ⟨a, c, e, hl, ?_⟩
    rcases hi with hi | ⟨b, off, k1, k2, k3, k4, k5⟩
    · exact .inl hi
    · refine .inr ⟨b, off, k1, by simpa [World.setCell] using k2, k3, k4, fun i u' hu => ?_⟩
      rw [World.cell?_of_block (w := w) (Below.heap_setCell w ⟨g, j, none⟩ v b (hne b k3 k4))]; exact k5 i u' hu
  refine ⟨h.ext.set hlt.1 v, ⟨vs.set j v, h1.stored j v, ?_, fun i u hu => ?_⟩, ⟨us, h3.kept fun c hc => Below.heap_setCell _ _ _ _ fun e => h.ap g rfl ((show c = g from e) ▸ hc), h4.1, fun i u hu => beside (h4.2 i u hu) fun b hb _ e => hb (by rw [e]; rfl)⟩, h.ap⟩
  · rw [List.length_set, h2.1, rowsN_length, rowsN_length, List.length_set]
  · have hi : i < vs.length := by have := (List.getElem?_eq_some_iff.1 hu).1; rwa [List.length_set] at this
    have hiL : i < L.length := by rw [h2.1, rowsN_length] at hi; exact hi
    rw [row_rowsN n _ (by rw [List.length_set]; exact hiL)]
    rw [List.getElem?_set] at hu
    by_cases e : j = i
    · subst e
      rw [if_pos rfl, if_pos hi] at hu
      obtain rfl := Option.some.inj hu
      have : fAt (L.set j f) j = f := by rw [fAt_eq (by rw [List.length_set]; exact hiL)]; simp
      rw [this]
      exact beside hv fun b _ hb e => hb (by rw [e]; rfl)
    · rw [if_neg e] at hu
      have : fAt (L.set j f) i = fAt L i := by rw [fAt_eq (by rw [List.length_set]; exact hiL), fAt_eq hiL]; simp [e]
      rw [this, ← row_rowsN n L hiL]
      exact beside (h2.2 i u hu) fun b _ hb e => hb (by rw [e]; rfl)
/-- A row of the call's own may be put. -/
theorem fresh (h : LO w0 w n ao m cap bo l bcap L M) {v : Value} {xs : List Int} (hv : OwnInts w w' v xs) (hn : xs.length ≤ maxLen) : InnerX w' (fun b => some b ≠ (Value.slice bo l bcap).ownBlock) (Value.slice ao m cap).ownBlock v xs := by
  obtain ⟨vs, h1, _⟩ := h.left
  obtain ⟨us, h3, _⟩ := h.out
  obtain ⟨a, k, c, rfl, hr, _⟩ := hv
  have hk : xs.length = k := by have := hr.length; rwa [ints_length] at this
  exact hr.innerOf _ _ (fun b hb _ => ⟨fun e => by have := (h3.block b e.symm).2; omega, fun e => by have := (h1.block b e.symm).2; omega⟩) (by omega)
/-- A row is put behind the second list. -/
theorem snoc (h : LO w0 w n ao m cap bo l bcap L M) {us : List Value} {bo' : Option Addr} {bcap' : Nat} {y : Value} {f : Nat → Nat}
    (hus : RowOf 27 w w0.heap.size bo l bcap us ∧ Rows2X w (fun b => some b ≠ (Value.slice ao m cap).ownBlock) (Value.slice bo l bcap).ownBlock us (rowsN n M))
    (hy : InnerX w (fun b => some b ≠ (Value.slice ao m cap).ownBlock) (Value.slice bo l bcap).ownBlock y (nrow f n))
    (hrow : RowOf 27 w' w0.heap.size bo' (l + 1) bcap' (us ++ [y])) (hg : w.grownBy w' (Value.slice bo l bcap).ownBlock)
    (hat : (Value.slice bo' (l + 1) bcap').ownBlock = (Value.slice bo l bcap).ownBlock ∨ (Value.slice bo' (l + 1) bcap').ownBlock = some w.heap.size) : LO w0 w' n ao m cap bo' (l + 1) bcap' L (M ++ [f]) := by
  obtain ⟨vs, h1, h2⟩ := h.left
  have hab := fun b hb => (h1.block b hb).2
  refine ⟨Below.grown h.ext hg h.ext.size fun c hc => (hus.1.block c hc).1, ⟨vs, h1.grown hg h.ap.symm, h2.1, fun j v hv => (h2.2 j v hv).next hg fun b hb hlt => ⟨hb, fun e => ?_⟩⟩, ⟨_, hrow, ?_⟩, (h.ap.symm.next hat hab).symm⟩
  · rcases hat with e' | e'
    · rw [e'] at e; exact hb e
    · rw [e'] at e; simp at e; omega
  · have h3 := hus.2.snoc hy
    have e : rowsN n (M ++ [f]) = rowsN n M ++ [nrow f n] := by unfold rowsN; simp
    rw [e]
    exact ⟨h3.1, fun j v hv => (h3.2 j v hv).grown hg hat⟩
end LO

end Go.Proofs.YthkafhmciapipaaDoor
