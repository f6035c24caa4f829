/- What design.Level answers at a good design whose blocks are of one size and each two of whose points lie in as many. -/
import Derived.Test.YtkgdohoandfaeaaDgIter
import Derived.Test.YtkgdohoandfaeaaDgFunc
namespace Go.Proofs.Ytkgdohoandfaeaa
open Go.RowKit Go.Shelf
set_option linter.unusedVariables false
attribute [local go_sem] Oper.semAt_some

theorem toF {F : Fence} (hF : F = Fence.wide) {f : FuncId} {args : Array Value} {w1 : World} {R : Ending → World → Prop} {n : Nat} (h : Calls Try.prog f args w1 R) : CallsIn F n Try.prog f args w1 R := by subst hF; exact callsIn_wide.2 h

set_option maxHeartbeats 400000 in
theorem sizeNot (K : Nat) (w : World) (r : Nat) (hb : Blk w r #[.int .i64 K] 3) (xs : List Int) (hx : xs.length = K) (a : Option Addr) (c : Nat) (w' : World) (hd : Drawn w w') :
    Calls Try.prog 22 (#[.slice a xs.length c] ++ #[.pointer (some ⟨r, 0, none⟩)]) w' fun e w'' => e = .returned (.bool false) ∧ Drawn w' w'' := by
  have k0 := (hb.drawn hd).one
  subst hx
  have b1 : ((xs.length : Int) != (xs.length : Int)) = false := by simp
  obtain ⟨m, hm⟩ : ∃ m, xs.length = m := ⟨_, rfl⟩
  rw [hm] at k0 b1 ⊢
  clear hd hb hm
  show Calls _ _ #[.slice a m c, .pointer (some ⟨r, 0, none⟩)] _ _
  go_enter Try.func22, Try.ntmps22
  go_wp2
  go_ret
  exact ⟨rfl, Drawn.refl _⟩

/-- What holds between two rounds. -/
structure LvI {P : Nat} (L kb : Nat) (w4 w : World) (pre : List (Two P)) (W : World) : Prop where
  box : Blk W (kb + 1) #[.int .i64 (if pre.length = 0 then -1 else (L : Int))] 3
  keep : KpL (kb + 1) w4 W
  ext : Ext w W
theorem lvI_own {P L kb : Nat} {w4 w : World} (h : w.heap.size ≤ w4.heap.size) : OwnFrom w4.heap.size (LvI (P := P) L kb w4 w) := fun s W W' row hs hg hr => by
  have hr' := fun r e => (hr r e).2
  refine ⟨(grownBy_keeps_cells hg hr' hs.box rfl).trans hs.box, ⟨Nat.le_trans hs.keep.size hg.size, fun k o hn hk hc => ?_⟩, Below.grown hs.ext hg hs.ext.size fun k e => ?_⟩
  · have h1 := hs.keep.same k o hn hk hc
    exact (grownBy_keeps_cells hg hr' h1 (by rw [← isC_cells]; exact hc)).trans h1
  · have := (hr k e).1; omega

theorem lvI_step {P L kb : Nat} {w4 w W : World} {pre : List (Two P)} {x : Two P} (h : LvI L kb w4 w pre W) (hkb : w.heap.size ≤ kb + 1) :
    KeepsOthers W (W.setCell ⟨kb + 1, 0, none⟩ (.int .i64 (L : Int))) ∧ KpL (kb + 1) W (W.setCell ⟨kb + 1, 0, none⟩ (.int .i64 (L : Int))) ∧ LvI L kb w4 w (pre ++ [x]) (W.setCell ⟨kb + 1, 0, none⟩ (.int .i64 (L : Int))) := by
  have hk : KpL (kb + 1) W (W.setCell ⟨kb + 1, 0, none⟩ (.int .i64 (L : Int))) := ⟨by simp [World.setCell], fun k o hn ho _ => (Below.heap_setCell W _ _ k hn).trans ho⟩
  refine ⟨KeepsOthers.setCell _ _ _, hk, ?_, h.keep.trans hk, h.ext.set hkb _⟩
  rw [if_neg (by simp)]
  exact h.box.set 0 (.int .i64 (L : Int))

set_option maxRecDepth 100000 in
set_option maxHeartbeats 2000000 in
theorem level_ok (P l K L : Nat) (ao : Option Addr) (cap : Nat) (bs : List (List Int)) (w : World) (hP2 : 2 ≤ P) (hP : P ≤ 23) (hl : bs.length = l) (hl1 : 1 ≤ l) (hl200 : l ≤ 200) (hr : ReadsL w ao bs) (hb : ∀ i, i < l → Block P (row bs i))
    (hk : ∀ i, i < l → (row bs i).length = K) (hL : ∀ p q, p < q → q < P → cntM (fun t => maskN (row bs t)) (2 ^ p ||| 2 ^ q) l = L) :
    Calls Try.prog 15 #[.agg #[.int .i64 P, .slice ao l cap], .int .i64 2] w fun e w' => e = .returned (.tuple #[.int .i64 K, .int .i64 L, .int .i64 0]) ∧ Ext w w' := by
  refine (callsIn_wide (n := 4)).1 ?_
  have hdd : ∀ k : Nat, (Fence.wide.depth.isSome = true → 1 ≤ k) := fun k h => by cases h
  have HR := Lib.hid hr
  have HCK : Hid (∀ w1, Ext w w1 → _) := fun w1 (h : Ext w w1) => dgCheck_ok P ao l cap bs w1 (by omega) (by omega) hl hl200 (hr.ext h) hb
  have HST : Hid (∀ w1, Ext w w1 → _) := fun w1 (h : Ext w w1) => sets_ok P ao l cap bs w1 (by omega) hl hl200 (hr.ext h) hb
  have HCF : Hid (∀ w1 r, Ext w w1 → Blk w1 r #[.int .i64 K] 3 → _) := fun w1 r (h : Ext w w1) hB => containsFuncL_none 22 #[.pointer (some ⟨r, 0, none⟩)] ao l cap bs w1 hl (hr.ext h) (fun i hi a c w' hd => sizeNot K w1 r hB _ (hk i hi) a c w' hd) (by unfold maxLen; omega) (fun _ _ => rfl)
  have HCH : Hid (∀ w1, _) := fun w1 => choices_any P 2 w1
  obtain ⟨b, off, rfl, hbw, hc⟩ := hr.row (by omega)
  obtain ⟨a0, c0, h1, h2, h3⟩ := hc 0 (by omega)
  rw [hk 0 (by omega)] at h1 h3
  rw [Nat.add_zero] at h1
  unfold maxLen at h3
  have HC0 := Lib.hid h1
  have HBW := Lib.hid hbw
  have HMM := Lib.hid hL
  have HFB0 : Hid (∀ k, k < l → maskN (row bs k) < 18446744073709551616) := fun k hk => Nat.lt_of_lt_of_le (maskN_lt _ 23 fun x hx => by have := (hb k hk).range x hx; omega) (by decide)
  clear h1 h2 hc hr hb hk hL hl hbw
  have E0 : Hid (Ext w ((((w.alloc (.cells #[.int .i64 P, .slice (some ⟨b, off, none⟩) l cap] 33)).alloc (.cells #[.int .i64 0] 3)).alloc (.cells #[.int .i64 0] 3)).alloc (.cells #[.int .i64 0] 25))) := ((((Ext.refl w).alloc _).alloc _).alloc _).alloc _
  have F0 : Hid (Blk ((((w.alloc (.cells #[.int .i64 P, .slice (some ⟨b, off, none⟩) l cap] 33)).alloc (.cells #[.int .i64 0] 3)).alloc (.cells #[.int .i64 0] 3)).alloc (.cells #[.int .i64 0] 25)) w.heap.size #[.int .i64 P, .slice (some ⟨b, off, none⟩) l cap] 33) := (((Blk.new w _ _).alloc _).alloc _).alloc _
  have G0 : Hid (Blk ((((w.alloc (.cells #[.int .i64 P, .slice (some ⟨b, off, none⟩) l cap] 33)).alloc (.cells #[.int .i64 0] 3)).alloc (.cells #[.int .i64 0] 3)).alloc (.cells #[.int .i64 0] 25)) (w.heap.size + 1) #[.int .i64 0] 3) := ((Blk.new' _ _ _ (by simp)).alloc _).alloc _
  have G1 : Hid (Blk ((((w.alloc (.cells #[.int .i64 P, .slice (some ⟨b, off, none⟩) l cap] 33)).alloc (.cells #[.int .i64 0] 3)).alloc (.cells #[.int .i64 0] 3)).alloc (.cells #[.int .i64 0] 25)) (w.heap.size + 2) #[.int .i64 0] 3) := (Blk.new' _ _ _ (by simp)).alloc _
  have G2 : Hid (Blk ((((w.alloc (.cells #[.int .i64 P, .slice (some ⟨b, off, none⟩) l cap] 33)).alloc (.cells #[.int .i64 0] 3)).alloc (.cells #[.int .i64 0] 3)).alloc (.cells #[.int .i64 0] 25)) (w.heap.size + 3) #[.int .i64 0] 25) := Blk.new' _ _ _ (by simp)
  obtain ⟨F, hF⟩ : ∃ F, F = Fence.wide := ⟨_, rfl⟩
  have hro : F.round = none := by rw [hF]; rfl
  have hf : ∀ f, F.fn f := fun f => by rw [hF]; exact trivial
  have HF := Lib.hid hF
  rw [← hF] at hdd ⊢
  clear hF
  refine callsIn_of_wp_marks Try.func15 rfl (hf _) ?_ hro
  simp only [Try.ntmps15, List.size_toArray, List.length_cons, List.length_nil, Nat.reduceAdd, Nat.reduceSub, Array.replicate_succ, Array.replicate_zero, List.push_toArray, List.append_toArray, List.nil_append, List.cons_append]
  gi_wp2_with fail
  refine (toF HF.out (HCK.out _ E0.out)).mono ?_
  rintro e w1 ⟨rfl, hx⟩
  have E1 := Lib.hid (E0.out.trans hx)
  have F1 := Lib.hid (F0.out.ext hx)
  have R0 := Lib.hid (G0.out.ext hx)
  have R1 := Lib.hid (G1.out.ext hx)
  have R2 := Lib.hid (G2.out.ext hx)
  have k1 := F1.out.two
  have k2 := (E1.out.cell HBW.out).trans HC0.out
  have hlw := F1.out.lt
  clear hx E0 F0 G0 G1 G2 HC0 HCK
  have b1 : decide (40 < (P : Int)) = false := decide_eq_false (by omega)
  have b2 : decide ((P : Int) < 2) = false := decide_eq_false (by omega)
  have b3 : ((l : Int) == 0) = false := by rw [beq_eq_false_iff_ne]; omega
  have E2 : Hid (Ext w ((w1.alloc (.cells #[.int .i64 K] 3)).alloc (.cells #[.int .i64 (-1)] 3))) := (E1.out.alloc _).alloc _
  have F2 : Hid (Blk ((w1.alloc (.cells #[.int .i64 K] 3)).alloc (.cells #[.int .i64 (-1)] 3)) w.heap.size #[.int .i64 P, .slice (some ⟨b, off, none⟩) l cap] 33) := (F1.out.alloc _).alloc _
  have S0 : Hid (Blk ((w1.alloc (.cells #[.int .i64 K] 3)).alloc (.cells #[.int .i64 (-1)] 3)) (w.heap.size + 1) #[.int .i64 0] 3) := (R0.out.alloc _).alloc _
  have S1 : Hid (Blk ((w1.alloc (.cells #[.int .i64 K] 3)).alloc (.cells #[.int .i64 (-1)] 3)) (w.heap.size + 2) #[.int .i64 0] 3) := (R1.out.alloc _).alloc _
  have S2 : Hid (Blk ((w1.alloc (.cells #[.int .i64 K] 3)).alloc (.cells #[.int .i64 (-1)] 3)) (w.heap.size + 3) #[.int .i64 0] 25) := (R2.out.alloc _).alloc _
  have KB : Hid (Blk ((w1.alloc (.cells #[.int .i64 K] 3)).alloc (.cells #[.int .i64 (-1)] 3)) w1.heap.size #[.int .i64 K] 3) := (Blk.new _ _ _).alloc _
  have LB : Hid (Blk ((w1.alloc (.cells #[.int .i64 K] 3)).alloc (.cells #[.int .i64 (-1)] 3)) (w1.heap.size + 1) #[.int .i64 (-1)] 3) := Blk.new' _ _ _ (by simp)
  have k3 := F2.out.two
  gi_wp2_with fail
  refine (toF HF.out (HCF.out _ w1.heap.size E2.out KB.out)).mono ?_
  rintro e w2 ⟨rfl, hd⟩
  obtain ⟨kb, hkb⟩ : ∃ kb, w1.heap.size = kb := ⟨_, rfl⟩
  have HKB := Lib.hid hkb
  have hkbw : w.heap.size + 4 ≤ kb := by have := R2.out.lt; omega
  rw [hkb] at KB LB
  try rw [hkb]
  have E3 := Lib.hid (E2.out.trans hd.ext)
  have F3 := Lib.hid (F2.out.ext hd.ext)
  have R3 := Lib.hid (S0.out.ext hd.ext)
  have R4 := Lib.hid (S1.out.ext hd.ext)
  have R5 := Lib.hid (S2.out.ext hd.ext)
  have KB3 := Lib.hid (KB.out.ext hd.ext)
  have LB3 := Lib.hid (LB.out.ext hd.ext)
  have k4 := F3.out.two
  clear hd k1 k2 k3 hkb hlw E1 F1 R0 R1 R2 E2 F2 S0 S1 S2 KB LB
  gi_wp2_with fail
  refine (toF HF.out (HST.out w2 E3.out)).mono ?_
  rintro e w3 ⟨v3, rfl, mo, mn, mc, rfl, hrow, hx⟩
  have hmn : l = mn := by have := hrow.length; rw [us_length, masksTo_length] at this; exact this
  subst hmn
  obtain ⟨mg, rfl, hmg1, hmg2, hmg3, _⟩ := RowOf.opened hrow hl1
  have ALL : Hid (∀ j, j < l → w3.cell? ⟨mg, j, none⟩ = some (.int .u64 ((maskN (row bs j) : Nat) : Int))) := fun j hj => by
    have := hmg3 j _ (us_get (masksTo bs l) j (by rw [masksTo_length]; exact hj))
    rwa [masksTo_get bs l j hj] at this
  have hsz3 := hx.size
  have hl2 := LB3.out.lt
  have E4 := Lib.hid ((E3.out.trans hx).alloc (.cells #[.slice (some ⟨mg, 0, none⟩) l mc] 49))
  have F4 := Lib.hid ((F3.out.ext hx).alloc (.cells #[.slice (some ⟨mg, 0, none⟩) l mc] 49))
  have R6 := Lib.hid ((R3.out.ext hx).alloc (.cells #[.slice (some ⟨mg, 0, none⟩) l mc] 49))
  have R7 := Lib.hid ((R4.out.ext hx).alloc (.cells #[.slice (some ⟨mg, 0, none⟩) l mc] 49))
  have R8 := Lib.hid ((R5.out.ext hx).alloc (.cells #[.slice (some ⟨mg, 0, none⟩) l mc] 49))
  have KB4 := Lib.hid ((KB3.out.ext hx).alloc (.cells #[.slice (some ⟨mg, 0, none⟩) l mc] 49))
  have LB4 := Lib.hid ((LB3.out.ext hx).alloc (.cells #[.slice (some ⟨mg, 0, none⟩) l mc] 49))
  have AB4 := Lib.hid (Blk.new w3 #[.slice (some ⟨mg, 0, none⟩) l mc] 49)
  have k5 := F4.out.two
  clear hx k4 hrow hmg3 E3 F3 R3 R4 R5 KB3 LB3
  gi_wp2_with fail
  refine (toF HF.out (HCH.out _)).mono ?_
  rintro e w4 ⟨rfl, hw4⟩
  obtain ⟨ab, hab⟩ : ∃ ab, w3.heap.size = ab := ⟨_, rfl⟩
  have hsz4 : (w3.alloc (.cells #[.slice (some ⟨mg, 0, none⟩) l mc] 49)).heap.size = ab + 1 := by simp [hab]
  rw [hab] at AB4
  have EA := Lib.hid (show Ext (w3.alloc (.cells #[.slice (some ⟨mg, 0, none⟩) l mc] 49)) w4 by rw [hw4]; exact ((Ext.refl _).alloc _).alloc _)
  have E5 := Lib.hid (E4.out.trans EA.out)
  have F5 := Lib.hid (F4.out.ext EA.out)
  have T0 := Lib.hid (R6.out.ext EA.out)
  have T1 := Lib.hid (R7.out.ext EA.out)
  have T2 := Lib.hid (R8.out.ext EA.out)
  have KB5 := Lib.hid (KB4.out.ext EA.out)
  have LB5 := Lib.hid (LB4.out.ext EA.out)
  have AB5 := Lib.hid (AB4.out.ext EA.out)
  have PB5 : Hid (Blk w4 (ab + 1) #[.int .i64 P] 3) := by show Blk _ _ _ _; rw [hw4]; exact (Blk.new' _ _ _ hsz4.symm).alloc _
  have TB5 : Hid (Blk w4 (ab + 2) #[.int .i64 2] 3) := by show Blk _ _ _ _; rw [hw4]; exact Blk.new' _ _ _ (by simp [hsz4])
  have ALL5 : Hid (∀ j, j < l → w4.cell? ⟨mg, j, none⟩ = some (.int .u64 ((maskN (row bs j) : Nat) : Int))) := fun j hj => by
    rw [(((Ext.refl w3).alloc _).trans EA.out).cell hmg2]; exact ALL.out j hj
  rw [hsz4]
  rw [hab] at hmg2 hsz3 ⊢
  clear hw4 EA E4 F4 R6 R7 R8 KB4 LB4 AB4 ALL k5 hsz4 hab HCH HST HCF
  gi_wp2_with fail
  have hseq : SeqStopsK F 3 Try.prog 34 #[.pointer (some ⟨ab + 1, 0, none⟩), .pointer (some ⟨ab + 2, 0, none⟩)] (fun x : Two P => encT x) (KpL (kb + 1)) (fun xs => 1 ≤ xs.length) (fun _ => True) 600 w4 := by
    rw [HF.out]
    exact iter_stops 3 hP hP2 w4 PB5.out.one TB5.out.one (by omega) LB5.out.lt
  refine' wpIn_rangeFunc_ownF hro (by omega) (gf := 34) (lb := #[.pointer (some ⟨ab + 1, 0, none⟩), .pointer (some ⟨ab + 2, 0, none⟩)]) rfl (hf _) (enters_of Try.func34 (by kernel_rfl) rfl)
    hseq (fun h k => h.trans k) (fun W l o o' _ hl ho _ => KpL.putObj _ W l o o' hl ho) (Below.refl _ _) (fun _ => rfl)
    (LvI L kb w4 w) (fun _ _ _ => False) (lvI_own E5.out.size) (fun _ _ _ _ _ hs _ _ => hs) ⟨LB5.out, KpL.refl _ _, E5.out⟩ _ ?assign ?body ?done ?stop
  case assign =>
    intro l x W K hK
    gi_wp2
    exact hK
  case stop =>
    rintro D c pre W _ _ h _
    exact h.elim
  case body =>
    rintro l1 pre x W hI hlen
    simp only [encT] at *
    have k0 := hI.keep.cell (a := ⟨ab, 0, none⟩) (by show ab ≠ kb + 1; omega) AB5.out.one
    have ALLW : Hid (∀ j, j < l → W.cell? ⟨mg, j, none⟩ = some (.int .u64 ((maskN (row bs j) : Nat) : Int))) := fun j hj => hI.keep.cell (a := ⟨mg, j, none⟩) (by show mg ≠ kb + 1; omega) (ALL5.out j hj)
    have HI := Lib.hid hI
    have HMQ := Lib.hid (HMM.out x.1.1 x.1.2 x.2.1 x.2.2)
    have hs64 : 2 ^ x.1.1 ||| 2 ^ x.1.2 < 2 ^ 23 := Nat.or_lt_two_pow (Nat.pow_lt_pow_right (by omega) (by have := x.2.1; have := x.2.2; omega)) (Nat.pow_lt_pow_right (by omega) (by have := x.2.2; omega))
    obtain ⟨s, hs⟩ : ∃ s : Nat, 2 ^ x.1.1 ||| 2 ^ x.1.2 = s := ⟨_, rfl⟩
    rw [hs] at HMQ hs64 ⊢
    obtain ⟨f, hf⟩ : ∃ f : Nat → Nat, (fun t => maskN (row bs t)) = f := ⟨_, rfl⟩
    have ALLF : Hid (∀ j, j < l → W.cell? ⟨mg, j, none⟩ = some (.int .u64 ((f j : Nat) : Int))) := by subst hf; exact ALLW.out
    rw [hf] at HMQ
    have HML : Hid (∀ k, cntM f s k ≤ k) := fun k => cntM_le f s k
    have HMS : Hid (∀ k, cntM f s (k + 1) = cntM f s k + (if (f k &&& s == s) = true then 1 else 0)) := fun k => rfl
    have HFB : Hid (∀ k, k < l → f k < 18446744073709551616) := by subst hf; exact HFB0.out
    clear hI hs hf ALLW
    gi_wp2
    gi_loopw [12, 54] (fun m i wr => ∃ k : Nat, k ≤ l ∧ i = .int .i64 k ∧ m = .int .i64 (cntM f s k : Nat) ∧ W = wr) (fun _ i _ => l - (intOf i).toNat)
    case atStart => exact ⟨0, by omega, rfl, rfl, rfl⟩
    case round =>
      obtain ⟨k, hkl, rfl, rfl, rfl⟩ := hrel
      have hcb := HML.out k
      by_cases hkl2 : k < l
      · have k1 := ALLF.out k hkl2
        have hfb := HFB.out k hkl2
        have HMK := Lib.hid (HMS.out k)
        obtain ⟨m, hm⟩ : ∃ m, f k = m := ⟨_, rfl⟩
        obtain ⟨c, hc⟩ : ∃ c, cntM f s k = c := ⟨_, rfl⟩
        rw [hm] at k1 hfb HMK
        rw [hc] at hcb HMK ⊢
        have hand := bits_and_u64_nat m s hfb (by omega)
        obtain ⟨t, ht⟩ : ∃ t, (m &&& s == s) = t := ⟨_, rfl⟩
        have hbt : (bits BinOp.and IntKind.u64 (m : Int) (s : Int) == (s : Int)) = t := by
          rw [hand, ← ht, Bool.eq_iff_iff, beq_iff_eq, beq_iff_eq]; exact Int.ofNat_inj
        rw [ht] at HMK
        clear hm hc hand ht
        cases t with
        | true =>
          rw [if_pos rfl] at HMK
          gi_wp2
          go_roundw
          case rel => exact ⟨k + 1, by omega, by go_num, by rw [HMK.out]; go_num, trivial⟩
          case measure => simp [intOf]; omega
        | false =>
          rw [if_neg (by simp)] at HMK
          gi_wp2
          go_roundw
          case rel => exact ⟨k + 1, by omega, by go_num, by rw [HMK.out, Nat.add_zero], trivial⟩
          case measure => simp [intOf]; omega
      · obtain rfl : l = k := by omega
        rw [HMQ.out] at hcb ⊢
        have LBW := HI.out.box
        clear HML HMS HFB
        by_cases hp0 : pre.length = 0
        · rw [if_pos hp0] at LBW
          have k2 := LBW.one
          have k3 := LBW.f 0
          have LBW := Lib.hid LBW
          gi_wp2
          exact lvI_step HI.out (by omega)
        · rw [if_neg hp0] at LBW
          have k2 := LBW.one
          have k3 := LBW.f 0
          have b5 : ((L : Int) != (L : Int)) = false := by simp
          have LBW := Lib.hid LBW
          gi_wp2
          exact lvI_step HI.out (by omega)
  case done =>
    rintro D ys W hD hys hI hK
    have HI := Lib.hid hI
    have hbx := hI.box
    rw [if_neg (by omega)] at hbx
    have kb1 := hbx.one
    have kb0 := hI.keep.cell (a := ⟨kb, 0, none⟩) (by show kb ≠ kb + 1; omega) KB5.out.one
    have B0 : Hid (Blk W (w.heap.size + 1) #[.int .i64 0] 3) := hI.keep.same _ _ (by omega) T0.out rfl
    have B1 : Hid (Blk W (w.heap.size + 2) #[.int .i64 0] 3) := hI.keep.same _ _ (by omega) T1.out rfl
    have B2 : Hid (Blk W (w.heap.size + 3) #[.int .i64 0] 25) := hI.keep.same _ _ (by omega) T2.out rfl
    have z0 := B0.out.one
    have z1 : W.cell? ⟨w.heap.size + 1 + 1, 0, none⟩ = some (.int .i64 0) := B1.out.one
    have z2 : W.cell? ⟨w.heap.size + 1 + 1 + 1, 0, none⟩ = some (.int .i64 0) := B2.out.one
    have y0 := B0.out.f 0
    have y1 : W.frozen? ⟨w.heap.size + 1 + 1, 0, none⟩ = false := B1.out.f 0
    have y2 : W.frozen? ⟨w.heap.size + 1 + 1 + 1, 0, none⟩ = false := B2.out.f 0
    have n1 : kb ≠ w.heap.size + 1 := by omega
    have n2 : kb ≠ w.heap.size + 1 + 1 := by omega
    have n3 : kb ≠ w.heap.size + 1 + 1 + 1 := by omega
    have n4 : kb + 1 ≠ w.heap.size + 1 := by omega
    have n5 : kb + 1 ≠ w.heap.size + 1 + 1 := by omega
    have n6 : kb + 1 ≠ w.heap.size + 1 + 1 + 1 := by omega
    have HK := Lib.hid hK
    have hmix : Try.prog.follows .mixedOrders = true := by kernel_rfl
    clear hI hK hbx
    gi_wp2_with fail
    gi_region
    all_goals gi_wp2
    all_goals
      obtain ⟨W', hW'⟩ : ∃ W', W' = (((W.setCell ⟨w.heap.size + 1, 0, none⟩ (.int .i64 (K : Int))).setCell ⟨w.heap.size + 1 + 1, 0, none⟩ (.int .i64 (L : Int))).setCell ⟨w.heap.size + 1 + 1 + 1, 0, none⟩ (.int .i64 0)).drew := ⟨_, rfl⟩
      rw [← hW']
      have hK' : W'.heap[D]? = some (.deferred (some [])) := by
        rw [hW']
        exact (((KeepsOthers.setCell _ _ _).trans (KeepsOthers.setCell _ _ _)).trans (KeepsOthers.setCell _ _ _)).same D _ HK.out rfl
      have hE' : Ext w W' := by rw [hW']; exact (((HI.out.ext.set (p := ⟨w.heap.size + 1, 0, none⟩) (by show _ ≤ _; simp) _).set (p := ⟨w.heap.size + 1 + 1, 0, none⟩) (by show w.heap.size ≤ w.heap.size + 1 + 1; omega) _).set (p := ⟨w.heap.size + 1 + 1 + 1, 0, none⟩) (by show w.heap.size ≤ w.heap.size + 1 + 1 + 1; omega) _).drew
      have e0 : Blk W' (w.heap.size + 1) #[.int .i64 (K : Int)] 3 := by rw [hW']; exact ((B0.out.set 0 (.int .i64 (K : Int))).beside _ (by show w.heap.size + 1 + 1 ≠ w.heap.size + 1; omega) _).beside _ (by show w.heap.size + 1 + 1 + 1 ≠ w.heap.size + 1; omega) _
      have e1 : Blk W' (w.heap.size + 1 + 1) #[.int .i64 (L : Int)] 3 := by rw [hW']; exact (((B1.out.beside ⟨w.heap.size + 1, 0, none⟩ (by show w.heap.size + 1 ≠ w.heap.size + 2; omega) (.int .i64 (K : Int))).set 0 (.int .i64 (L : Int))).beside _ (by show w.heap.size + 1 + 1 + 1 ≠ w.heap.size + 2; omega) _)
      have e2 : Blk W' (w.heap.size + 1 + 1 + 1) #[.int .i64 0] 25 := by rw [hW']; exact (((B2.out.beside ⟨w.heap.size + 1, 0, none⟩ (by show w.heap.size + 1 ≠ w.heap.size + 3; omega) (.int .i64 (K : Int))).beside ⟨w.heap.size + 1 + 1, 0, none⟩ (by show w.heap.size + 1 + 1 ≠ w.heap.size + 3; omega) (.int .i64 (L : Int))).set 0 (.int .i64 0))
      have hgr := grownBy_putObj' W' D (.deferred none)
      have hrr : ∀ r, some D = some r → ∃ o : Obj, W'.heap[r]? = some o ∧ o.isCells = false := fun r e => by cases e; exact ⟨_, hK', rfl⟩
      have f0 := cell_kept e0.one hgr hrr
      have f1 := cell_kept e1.one hgr hrr
      have f2 := cell_kept e2.one hgr hrr
      have hE2 : Ext w (W'.putObj D (.deferred none)) := Below.grown hE' hgr hE'.size fun k e => by cases e; have := E5.out.size; omega
      clear hW'
      refine ⟨by simp, .inl ⟨_, _, rfl, run_takeDeferred hK', ?_⟩⟩
      exact ⟨.tuple #[.int .i64 (K : Int), .int .i64 (L : Int), .int .i64 0], by simp [results, Try.results15, go_sem, f0, f1, f2], rfl, hE2⟩

end Go.Proofs.Ytkgdohoandfaeaa
