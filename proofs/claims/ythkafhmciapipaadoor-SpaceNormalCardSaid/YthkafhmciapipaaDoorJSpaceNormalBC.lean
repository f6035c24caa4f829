/- spaceFact returns true. Condition: primes. -/
import Derived.Test.YthkafhmciapipaaDoorJSpaceNormalAZ
import Derived.Test.YthkafhmciapipaaDoorJSpaceNormalBB
import Derived.Test.YthkafhmciapipaaDoorJSpaceNormalAT
import Derived.Shelf.Spec.SlicesGrow
import Derived.Deep.LoopGhost
import Derived.Test.YthkafhmciapipaaDoorJSpaceNormalAY
namespace Go.Proofs.YthkafhmciapipaaDoor
open Go.RowKit

def factRows : List (List Int) := [[1, 2, 0], [2, 1, 1]]
theorem field31 : IsField 3 1 [0] := by
  have h : fieldFault (3 : Nat) (1 : Nat) [0] = 0 := by decide +kernel
  obtain ⟨P, K, h1, h2, h3, _⟩ := fieldFault_zero h
  obtain rfl : P = 3 := by omega
  obtain rfl : K = 1 := by omega
  exact h3
theorem room313 : IsRoom 3 1 [0] 3 := ⟨field31, by omega, by omega, by decide⟩
theorem factRows_ok : rowsFault (3 ^ 1) 3 factRows = 0 := by decide +kernel
theorem factRows_two : (basN 3 1 [0] 3 (fnsOf factRows)).length = 2 := by decide +kernel
theorem gauss35 : nth (gaRow 2 4) 2 = 35 := by decide +kernel

theorem inner_lit {w : World} {b : Nat} {cs : Array Value} {xs : List Int} (h : Blk w b cs 3) (hc : cs.toList = ints xs) (hm : xs.length ≤ maxLen) {n : Nat} (hn : n = xs.length) (c : Nat) : Inner w (.slice (some ⟨b, 0, none⟩) n c) xs := by
  subst hn
  refine ⟨_, c, rfl, .inr ⟨b, 0, rfl, h.lt, fun j u hu => ?_⟩, hm⟩
  rw [Nat.zero_add]
  refine h.c j u ?_
  rw [← hc] at hu
  simpa using hu

theorem fact_basis (ao bo : Option Addr) (cap mc : Nat) (w : World) (hP : Primes w) (hr : Reads w ao (ints [0])) (hx : ReadsL w bo factRows) :
    Calls Tryd.prog 12 #[.agg #[.int .i64 3, .int .i64 1, .slice ao 1 cap], .int .i64 3, .slice bo 2 mc] w fun e w' => ∃ ro rc, e = .returned (.tuple #[.slice ro 2 rc, .int .i64 0]) ∧ Ext w w' := by
  haveI : FldP 3 1 [0] := ⟨field31⟩
  have h := spBasis_ok (p := 3) (k := 1) (low := [0]) 3 ao bo cap mc factRows w hP room313 hr hx factRows_ok
  refine Calls.mono h ?_
  rintro e w' ⟨ro, rl, rc, out, rfl, h1, _, h3, h4⟩
  have h5 := basN_basis (vecs_zero (p := 3) (k := 1) (low := [0]) factRows_ok)
  have h6 := h3.unique h5 fun _ => Iff.rfl
  rw [vecs_toN factRows_ok] at h6
  have h7 : out.length = 2 := by rw [h6, rowsN_length, factRows_two]
  obtain rfl : rl = 2 := by omega
  exact ⟨ro, rc, rfl, h4⟩

theorem gauss_val (n k : Nat) (q : Int) (w : World) (hn : n ≤ 30) (hk : k ≤ n) (hq : 2 ≤ q) (hq' : q ≤ 64) (x : Int) (hx : nth (gaRow q n) k = x) (hx0 : x ≤ 1000000000000000000) :
    Calls Tryd.prog 9 #[.int .i64 n, .int .i64 k, .int .i64 q] w fun e w' => e = .returned (.tuple #[.int .i64 x, .int .i64 0]) ∧ Ext w w' := by
  refine (gauss_any n k q w hn hk hq hq' (gaP_ne' q hq hq')).mono ?_
  rintro e w' ⟨rfl, h⟩
  rw [hx]
  exact ⟨by unfold gaussVal; rw [if_neg (by omega)], h⟩
theorem gauss_422 (w : World) : Calls Tryd.prog 9 #[.int .i64 4, .int .i64 2, .int .i64 2] w fun e w' => e = .returned (.tuple #[.int .i64 35, .int .i64 0]) ∧ Ext w w' :=
  gauss_val 4 2 2 w (by omega) (by omega) (by omega) (by omega) 35 gauss35 (by omega)

set_option maxHeartbeats 2000000 in
theorem spaceFact_ok (w : World) (hP : Primes w) : Calls Tryd.prog 8 #[] w fun e w' => e = .returned (.bool true) ∧ Ext w w' := by
  have HG := Lib.hid (gauss_422 w)
  have HP := Lib.hid hP
  clear hP
  go_enter Tryd.func8, Tryd.ntmps8
  go_wp2_with fail
  refine Calls.mono HG.out ?_
  rintro e w1 ⟨rfl, hx1⟩
  have HL := Lib.hid (least31 w1 (HP.out.ext hx1))
  have E1 := Lib.hid hx1
  clear hx1
  go_wp2_with fail
  refine Calls.mono HL.out ?_
  rintro e w2 ⟨ao, cap, rfl, hr, hx⟩
  have HR2 := Lib.hid hr
  have E2 := Lib.hid (E1.out.trans hx)
  have F2 := Lib.hid (Blk.new w2 #[.int .i64 3, .int .i64 1, .slice ao 1 cap] 29)
  obtain ⟨w3, hw3⟩ : ∃ w3, w3 = w2.alloc (.cells #[.int .i64 3, .int .i64 1, .slice ao 1 cap] 29) := ⟨_, rfl⟩
  have E3 : Hid (Ext w2 w3) := by rw [hw3]; exact ext_box _ _ _
  rw [← hw3] at F2
  have k3 := F2.out.three
  have hs3 : w3.heap.size = w2.heap.size + 1 := by rw [hw3]; simp
  clear hr hx
  obtain ⟨w6, hw6⟩ : ∃ w6, w6 = ((w3.alloc (.cells #[.int .i64 1, .int .i64 2, .int .i64 0] 3)).alloc (.cells #[.int .i64 2, .int .i64 1, .int .i64 1] 3)).alloc (.cells #[.slice (some ⟨w3.heap.size, 0, none⟩) 3 3, .slice (some ⟨w3.heap.size + 1, 0, none⟩) 3 3] 27) := ⟨_, rfl⟩
  have E6 : Hid (Ext w3 w6) := by show Ext w3 w6; rw [hw6]; exact (((Ext.refl w3).alloc _).alloc _).alloc _
  have HRL : Hid (ReadsL w6 (some ⟨w3.heap.size + 1 + 1, 0, none⟩) factRows) := by
    have b0 : Blk w6 w3.heap.size #[.int .i64 1, .int .i64 2, .int .i64 0] 3 := by rw [hw6]; exact ((Blk.new w3 _ _).alloc _).alloc _
    have b1 : Blk w6 (w3.heap.size + 1) #[.int .i64 2, .int .i64 1, .int .i64 1] 3 := by rw [hw6]; exact (Blk.new' _ _ _ (by simp)).alloc _
    have b2 : Blk w6 (w3.heap.size + 1 + 1) #[.slice (some ⟨w3.heap.size, 0, none⟩) 3 3, .slice (some ⟨w3.heap.size + 1, 0, none⟩) 3 3] 27 := by rw [hw6]; exact Blk.new' _ _ _ (by simp)
    refine ⟨[.slice (some ⟨w3.heap.size, 0, none⟩) 3 3, .slice (some ⟨w3.heap.size + 1, 0, none⟩) 3 3], .inr ⟨_, 0, rfl, b2.lt, fun j u hu => ?_⟩, rfl, fun j v hv => ?_⟩
    · rw [Nat.zero_add]
      exact b2.c j u (by simpa using hu)
    · match j, hv with
      | 0, hv => obtain rfl : .slice (some ⟨w3.heap.size, 0, none⟩) 3 3 = v := by simpa using hv
                 exact inner_lit (xs := [1, 2, 0]) b0 rfl (by decide) rfl 3
      | 1, hv => obtain rfl : .slice (some ⟨w3.heap.size + 1, 0, none⟩) 3 3 = v := by simpa using hv
                 exact inner_lit (xs := [2, 1, 1]) b1 rfl (by decide) rfl 3
      | j + 2, hv => simp at hv
  have HB := Lib.hid (fact_basis ao (some ⟨w3.heap.size + 1 + 1, 0, none⟩) cap 2 w6 (HP.out.ext (E2.out.trans (E3.out.trans E6.out))) ((E3.out.trans E6.out).reads HR2.out) HRL.out)
  go_wp2_with fail
  rw [← hw3, ← hs3, ← hw6]
  clear hw3 hw6
  refine Calls.mono HB.out ?_
  rintro e w7 ⟨ro, rc, rfl, hx7⟩
  have HE := Lib.hid ((E2.out.trans (E3.out.trans E6.out)).trans hx7)
  clear hx7
  go_wp2
  go_ret
  exact ⟨by simp, HE.out⟩

end Go.Proofs.YthkafhmciapipaaDoor

/- slices.Concat at lists of rows. Conditions: as the theorem says. -/
namespace Go.Proofs.YthkafhmciapipaaDoor
open Go.RowKit Go.Shelf

shelf_lay_g Lays8.n4 Nm8 4 at Tryd 58 as growRows

/-- Lists of rows, one behind the other. -/
def catV (vs : Nat → List Value) : Nat → List Value
  | 0 => []
  | j + 1 => catV vs j ++ vs j

set_option maxHeartbeats 1000000 in
theorem grow_rows (n : Nat) (w : World) (hn : n ≤ 100000) :
    Calls Tryd.prog 58 #[.slice none 0 0, .int .i64 n] w fun e w' => ∃ ao cap, e = .returned (.slice ao 0 cap) ∧ RowOf 27 w' w.heap.size ao 0 cap [] ∧ Ext w w' := by
  obtain ⟨i, hi, hz, hsz, hby⟩ := info_parts eRow.inf
  by_cases h0 : n = 0
  · subst h0
    refine (Any8.slices_Grow_room growRows none 0 0 0 w (by omega) (by omega) (by omega) (by omega)).mono ?_
    rintro e w' ⟨rfl, rfl⟩
    exact ⟨none, 0, rfl, RowOf.nil _ _ _, Ext.refl _⟩
  · refine (Any8.slices_Grow_grow growRows i (.slice none 0 0) hi hz (by rw [hsz]; omega) none 0 0 n [] w (by omega) (by omega) (by rw [hby]; omega) (by omega) (by simp) (fun _ => rfl) (fun a h => by cases h)).mono ?_
    rintro e w' ⟨rfl, rfl⟩
    have hg := grownCap_ge w (0 + n) 0 27
    have hl := grownCap_le_maxLen w (0 + n) 0 27 (by unfold maxLen; omega)
    have key : ∀ (cs : Array Value) (G : Nat), cs.size = G → G ≤ maxLen → RowOf 27 (w.drew.alloc (.cells cs 27)) w.heap.size (some ⟨w.heap.size, 0, none⟩) 0 G [] := fun cs G hs hG =>
      ⟨by simp, .inr ⟨w.heap.size, G, cs, rfl, Nat.le_refl _, heap_alloc_new w.drew _, Nat.zero_le _, hG, by omega, by simp⟩⟩
    refine ⟨_, _, rfl, key _ _ ?_ hl, (Ext.refl w).drew.alloc _⟩
    have z : (Value.cells (.slice none 0 0)).size = 1 := rfl
    simp only [Array.size_append, size_zeroCells, z]
    show 0 + _ + (grownCap w (0 + n) 0 27 - (0 + n)) * 1 = grownCap w (0 + n) 0 27
    omega

theorem wpList_appAll {w : World} {ops : Array Oper} {rest : List Oper} {o : Oper} {a : Act} {Q : Exit → Act → World → Prop} (hgd : o.guard = none) (s x : Operand)
    (ho : o.op = .call { callee := .builtin .append, args := #[s, x], argTypes := #[30, 30] }) (B : Nat) {ao bo : Option Addr} {n cap m c : Nat} {xs news : List Value}
    (hs : a.eval s = .slice ao n cap) (hown : RowOf 27 w B ao n cap xs) (hx : a.eval x = .slice bo m c) (hl : news.length = m) (hr : Reads w bo news) (h1 : ∀ u ∈ news, u.oneCell' = true) (hn : n + m ≤ 100000) (hB : B ≤ w.heap.size)
    (h : ∀ ao' cap' w', RowOf 27 w' B ao' (n + m) cap' (xs ++ news) → w.grownBy w' (Value.slice ao n cap).ownBlock → wpList Tryd.prog ops Q rest (a.put o.dst (.slice ao' (n + m) cap')) w') : wpList Tryd.prog ops Q (o :: rest) a w := by
  obtain ⟨i, hi, hz, hsz, hby⟩ := info_parts eRow.inf
  cases bo with
  | none =>
    obtain rfl : news = [] := by
      rcases hr with h | ⟨b, off, h, _⟩
      · exact h
      · cases h
    obtain rfl : m = 0 := by simpa using hl.symm
    refine wpList_plain hgd fun K hK => ?_
    have hrun : ∀ ty, (Builtin.append_ #[30, 30] ty #[.slice ao n cap, .slice none 0 c]).run Tryd.prog w = .ok (.slice ao n cap) w := fun ty => by
      rcases hown.2 with ⟨h, rfl⟩ | ⟨g, cap', cur, h, _, _, hnc, _⟩
      · simp only [Value.slice.injEq] at h
        obtain ⟨rfl, _, rfl⟩ := h
        simp [Builtin.append_, run_underlying eRow.und, sizeOf, typeInfo, hi, Builtin.lenOf, Builtin.firstCells]
      · simp only [Value.slice.injEq] at h
        obtain ⟨rfl, _, rfl⟩ := h
        simp [Builtin.append_, run_underlying eRow.und, sizeOf, typeInfo, hi, Builtin.lenOf, Builtin.firstCells, hnc, storeCells]
    unfold Oper.wp
    simp [execOp, ho, resolve, invoke, builtin, hs, hx, hrun, Result.andThen]
    exact hK _ _ (h ao cap w (by simpa using hown) ⟨rfl, rfl, rfl, Nat.le_refl _, fun _ _ _ => rfl⟩)
  | some ad =>
    refine wpList_append_own _ hgd s x 30 ho B 27 i (.slice none 0 0) 1 24 eRow.und hi hz hsz hby eRow.cel (by decide) _ n xs hs hown ad m c news hx (by omega) ?_ h1 (by unfold maxLen; omega) (by omega) hB ?_
    · intro j u hu
      rcases hr with e | ⟨b', off', e, hlt, hc⟩
      · subst e; simp at hu
      · obtain rfl := Option.some.inj e
        rw [Addr.add_lit]
        exact hc j u hu
    · intro v' w' hr1 hg1 hz1
      obtain ⟨ao', cap', rfl⟩ := RowOf.shape hr1
      exact h ao' cap' w' hr1 hg1

theorem catV_le (vs : Nat → List Value) (N : Nat) : ∀ k, (∀ j, j < k → (vs j).length ≤ N) → (catV vs k).length ≤ k * N
  | 0, _ => by simp [catV]
  | k + 1, h => by
    have := catV_le vs N k fun j hj => h j (by omega)
    have := h k (by omega)
    rw [catV, List.length_append, Nat.succ_mul]; omega

set_option maxHeartbeats 4000000 in
set_option maxRecDepth 100000 in
theorem concat_any (b off k cap : Nat) (vs : Nat → List Value) (w : World) (hk : k ≤ 10) (hb : b < w.heap.size)
    (hc : ∀ j, j < k → ∃ a c, w.cell? ⟨b, off + j, none⟩ = some (.slice a (vs j).length c) ∧ Reads w a (vs j) ∧ (vs j).length ≤ 1000 ∧ ∀ v ∈ vs j, v.oneCell' = true) :
    Calls Tryd.prog 39 #[.slice (some ⟨b, off, none⟩) k cap] w fun e w' => ∃ ao' cap', e = .returned (.slice ao' (catV vs k).length cap') ∧ RowOf 27 w' w.heap.size ao' (catV vs k).length cap' (catV vs k) ∧ Ext w w' := by
  have HC := Lib.hid hc
  have HL : Hid (∀ j, j ≤ k → (catV vs j).length ≤ 10000) := fun j hj => by
    have := catV_le vs 1000 j fun i hi => by
      obtain ⟨_, _, _, _, h, _⟩ := hc i (by omega)
      exact h
    omega
  have HGR : Hid (∀ n, n ≤ 100000 → _) := fun n hn => grow_rows n w hn
  have HST : Hid (∀ j, (catV vs (j + 1)).length = (catV vs j).length + (vs j).length) := fun j => by show _ = _; rw [catV, List.length_append]
  clear hc
  go_enter Tryd.func39, Tryd.ntmps39
  go_wp2
  go_loopg [3, 11] k (fun g x y wr => ∃ j : Nat, j + g = k ∧ x = .int .i64 (catV vs j).length ∧ y = .int .i64 j ∧ w = wr)
  case atStart => exact ⟨0, by omega, rfl, rfl, rfl⟩
  case round =>
    obtain ⟨j, hjg, rfl, rfl, rfl⟩ := hrel
    cases gk with
    | zero =>
      have hjz : ¬ ((j : Int) < (k : Int)) := by omega
      obtain rfl : j = k := by omega
      have HG := HGR.out (catV vs j).length (by have := HL.out j (by omega); omega)
      have HG := Lib.hid HG
      go_wp2_with fail
      refine Calls.mono HG.out ?_
      rintro e w1 ⟨ao1, cap1, rfl, hr1, hx1⟩
      have HR1 := Lib.hid hr1
      have HX1 := Lib.hid hx1
      clear hr1 hx1
      go_wp2
      go_loopg [6, 27] j (fun g x y wr => ∃ i : Nat, i + g = j ∧ y = .int .i64 i ∧ ∃ ao cap, x = .slice ao (catV vs i).length cap ∧ RowOf 27 wr w.heap.size ao (catV vs i).length cap (catV vs i) ∧ Ext w wr)
      case atStart => exact ⟨0, by omega, rfl, _, _, rfl, HR1.out, HX1.out⟩
      case round =>
        obtain ⟨i, hig, rfl, ao, cap2, rfl, hro, hxo⟩ := hrel
        have HRO := Lib.hid hro
        have HXO := Lib.hid hxo
        have hsz := hxo.size
        clear hro hxo HR1 HX1
        cases gk with
        | zero =>
          have hiz : ¬ ((i : Int) < (j : Int)) := by omega
          obtain rfl : i = j := by omega
          go_wp2
          go_ret
          exact ⟨_, _, rfl, HRO.out, HXO.out⟩
        | succ g1 =>
          have hil : (i : Int) < (j : Int) := by omega
          obtain ⟨a, c, h1, h2, h3, h4⟩ := HC.out i (by omega)
          have k1 := (HXO.out.cell hb).trans h1
          have HN2 := Lib.hid (HXO.out.reads h2)
          have HO2 := Lib.hid h4
          have hle := HL.out i (by omega)
          clear h1 h2 h4
          go_wp2_with (at_builtin; (refine wpList_appAll rfl (.tmp 31) (.tmp 32) rfl w.heap.size (by rfl) HRO.out (by rfl) rfl HN2.out HO2.out (by omega) (by omega) ?_; intro ao4 cap4 w4 hr4 hg4; have HR4 := Lib.hid hr4; have HX4 := Lib.hid (Below.grown HXO.out hg4 hsz (fun b9 h9 => (HRO.out.block b9 h9).1)); clear hr4 hg4))
          go_roundg g1
          case measure => omega
          case rel => exact ⟨i + 1, by omega, by go_num, ao4, cap4, by rw [HST.out], by rw [HST.out]; exact HR4.out, HX4.out⟩
    | succ g1 =>
      have hjl : (j : Int) < (k : Int) := by omega
      obtain ⟨a, c, k1, _, h3, _⟩ := HC.out j (by omega)
      have hle := HL.out j (by omega)
      have h9 : ¬ (((catV vs j).length : Int) + ((vs j).length : Int) < 0) := by omega
      go_wp2
      go_roundg g1
      case measure => omega
      case rel => exact ⟨j + 1, by omega, by rw [HST.out]; go_num, by go_num, rfl⟩

end Go.Proofs.YthkafhmciapipaaDoor

/- The laws of spaces, plainly: Grassmann; normal and normal again; join and meet. Plain but for the words of the walk. -/
namespace Go.Proofs.YthkafhmciapipaaDoor
open Go.RowKit
set_option linter.unusedSectionVars false

section
variable {p k : Nat} {low : List Int} [hI : FldP p k low]

theorem nul_append {n : Nat} {A B : List (Nat → El p k low)} (v : Nat → El p k low) : Nul n (Span (A ++ B)) v ↔ Nul n (Span A) v ∧ Nul n (Span B) v := by
  rw [nul_span, nul_span, nul_span]
  constructor
  · intro h
    exact ⟨⟨h.1, fun r hr => h.2 r (List.mem_append_left _ hr)⟩, ⟨h.1, fun r hr => h.2 r (List.mem_append_right _ hr)⟩⟩
  · intro h
    exact ⟨h.1.1, fun r hr => (List.mem_append.1 hr).elim (h.1.2 r) (h.2.2 r)⟩
/-- Normal to the normal, of any rows. -/
theorem nul_nul' {n : Nat} {V : List (Nat → El p k low)} (hz : Zero n V) (v : Nat → El p k low) : Nul n (Nul n (Span V)) v ↔ Span V v := by
  obtain ⟨P, h1, h2⟩ := basV_ok hz
  rw [← h2 v, ← nul_nul h1 v]
  exact nul_congr (nul_congr fun v => (h2 v).symm) v
/-- What the meet is: normal to both normals. -/
theorem meet_is {n : Nat} {A B NA NB : List (Nat → El p k low)} (hA : Zero n A) (hB : Zero n B) (h1 : ∀ v, Span NA v ↔ Nul n (Span A) v) (h2 : ∀ v, Span NB v ↔ Nul n (Span B) v) (v : Nat → El p k low) : Nul n (Span (NA ++ NB)) v ↔ Span A v ∧ Span B v := by
  rw [nul_append, nul_congr h1 v, nul_congr h2 v, nul_nul' hA, nul_nul' hB]

/-- Grassmann, of lists of ints. -/
theorem grassmann_ints {n : Nat} {a b j m : List (List Int)} {A B : List (Nat → El p k low)} (hA : BasisI n a (Span A)) (hB : BasisI n b (Span B)) (hJ : BasisI n j (Span (A ++ B))) (hM : BasisI n m (fun v => Span A v ∧ Span B v)) : j.length + m.length = a.length + b.length := by
  obtain ⟨LA, PA, rfl, rA, sA⟩ := hA
  obtain ⟨LB, PB, rfl, rB, sB⟩ := hB
  obtain ⟨LJ, PJ, rfl, rJ, sJ⟩ := hJ
  obtain ⟨LM, PM, rfl, rM, sM⟩ := hM
  simp only [rowsN_length, List.length_map]
  refine grassmann (card_el low) rA rB rJ rM (fun v => ?_) (fun v => ?_)
  · rw [sJ v, span_append]
    exact ⟨fun ⟨x, y, h1, h2, h3⟩ => ⟨x, y, (sA x).2 h1, (sB y).2 h2, h3⟩, fun ⟨x, y, h1, h2, h3⟩ => ⟨x, y, (sA x).1 h1, (sB y).1 h2, h3⟩⟩
  · rw [sM v, sA v, sB v]
/-- The rows of a space and of its normal are n together. -/
theorem rank_ints {n : Nat} {a u : List (List Int)} {A : List (Nat → El p k low)} (hA : BasisI n a (Span A)) (hU : BasisI n u (Nul n (Span A))) : u.length + a.length = n := by
  obtain ⟨LA, PA, rfl, rA, sA⟩ := hA
  obtain ⟨LU, PU, rfl, rU, sU⟩ := hU
  simp only [rowsN_length, List.length_map]
  exact rank_nul (card_el low) rA rU fun v => (sU v).trans (nul_congr (fun v => (sA v).symm) v)
end

end Go.Proofs.YthkafhmciapipaaDoor
