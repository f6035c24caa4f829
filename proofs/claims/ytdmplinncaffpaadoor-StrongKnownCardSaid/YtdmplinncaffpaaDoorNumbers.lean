/- What strong.Numbers answers at any square. -/
import Derived.Test.YtdmplinncaffpaaDoorGraphCheck
import Derived.Test.YtdmplinncaffpaaDoorMapKeys
import Derived.Test.YtdmplinncaffpaaDoorPairs
namespace Go.Proofs.YtdmplinncaffpaaDoor
open Go.RowKit

theorem laidOutP : laidOutB Tryd.prog = true := by kernel_rfl
theorem kty : KTy Tryd.prog 53 3 2 where
  arr := Tryd.underlying53
  int := Tryd.underlying3
  key := by kernel_rfl
  cells := by kernel_rfl
  one := by kernel_rfl
  big := of_decide_eq_true (by kernel_rfl)
theorem keyed2 : Go.Maps.Keyed Tryd.prog 53 :=
  Go.Maps.Keyed.of_law (deep_law_laid laidOutP (m := 3) (by decide) (of_decide_eq_true (by kernel_rfl)) (by kernel_rfl) (by kernel_rfl))
theorem mapTy : Tryd.prog.underlying 55 = some (.map 53 3) := Tryd.underlying55

/-- What stands in the map ahead of the inner loop's round j, in the outer loop's round i. -/
def SeenO (xs : List Int) (n i : Nat) (c m : Int) : Prop :=
  (∃ p, p < i ∧ c = 2 ∧ m = comTo xs n p p n) ∨ (∃ p q, p < i ∧ q < p ∧ c = nth xs (p * n + q) ∧ m = comTo xs n p q n)
def SeenAt (xs : List Int) (n i j : Nat) (c m : Int) : Prop :=
  SeenO xs n i c m ∨ (c = 2 ∧ m = comTo xs n i i n) ∨ (∃ q, q < j ∧ c = nth xs (i * n + q) ∧ m = comTo xs n i q n)
theorem seen_succ {xs : List Int} {n i : Nat} {c m : Int} : SeenAt xs n i i c m ↔ SeenO xs n (i + 1) c m := by
  unfold SeenAt SeenO
  constructor
  · rintro ((⟨p, h1, h2⟩ | ⟨p, q, h1, h2⟩) | ⟨h1, h2⟩ | ⟨q, h1, h2⟩)
    · exact .inl ⟨p, by omega, h2⟩
    · exact .inr ⟨p, q, by omega, h2⟩
    · exact .inl ⟨i, by omega, h1, h2⟩
    · exact .inr ⟨i, q, by omega, h1, h2⟩
  · rintro (⟨p, h1, h2⟩ | ⟨p, q, h1, h2⟩)
    · rcases Nat.lt_succ_iff_lt_or_eq.1 h1 with h | rfl
      · exact .inl (.inl ⟨p, h, h2⟩)
      · exact .inr (.inl h2)
    · rcases Nat.lt_succ_iff_lt_or_eq.1 h1 with h | rfl
      · exact .inl (.inr ⟨p, q, h, h2⟩)
      · exact .inr (.inr ⟨q, h2⟩)

/-- The map holds just these pairs. -/
def Holds (w : World) (b N : Nat) (S : Int → Int → Prop) : Prop :=
  ∃ f, KMap Tryd.prog 53 3 2 w b N f ∧ ∀ xs, (f xs).isSome = true ↔ ∃ c m, xs = [c, m] ∧ S c m
theorem Holds.put {w' : World} {b N : Nat} {S T : Int → Int → Prop} {c0 m0 v : Int} {f} (hf : ∀ xs, (f xs).isSome = true ↔ ∃ c m, xs = [c, m] ∧ S c m)
    (h : KMap Tryd.prog 53 3 2 w' b N (put f [c0, m0] v)) (hT : ∀ c m, T c m ↔ S c m ∨ (c = c0 ∧ m = m0)) : Holds w' b N T := by
  refine ⟨_, h, fun xs => ?_⟩
  unfold Go.Proofs.YtdmplinncaffpaaDoor.put
  split
  · rename_i he
    simp only [Option.isSome_some, true_iff]
    exact ⟨c0, m0, he, (hT _ _).2 (.inr ⟨rfl, rfl⟩)⟩
  · rename_i he
    rw [hf]
    constructor
    · rintro ⟨c, m, h1, h2⟩; exact ⟨c, m, h1, (hT _ _).2 (.inl h2)⟩
    · rintro ⟨c, m, h1, h2⟩
      rcases (hT _ _).1 h2 with h3 | ⟨rfl, rfl⟩
      · exact ⟨c, m, h1, h3⟩
      · exact absurd h1 he
theorem Holds.congr {w : World} {b N N' : Nat} {S T : Int → Int → Prop} (h : Holds w b N S) (hn : N ≤ N') (hT : ∀ c m, T c m ↔ S c m) : Holds w b N' T := by
  obtain ⟨f, h1, h2⟩ := h
  refine ⟨f, h1.mono hn, fun xs => ?_⟩
  rw [h2]
  constructor
  · rintro ⟨c, m, h3, h4⟩; exact ⟨c, m, h3, (hT c m).2 h4⟩
  · rintro ⟨c, m, h3, h4⟩; exact ⟨c, m, h3, (hT c m).1 h4⟩
theorem Holds.ext {w w' : World} {b N : Nat} {S : Int → Int → Prop} (h : Holds w b N S) (hx : Ext w w') : Holds w' b N S := by
  obtain ⟨f, h1, h2⟩ := h
  exact ⟨f, h1.kept (row := none) ⟨hx.os, hx.tape, hx.output, hx.size, fun k hk _ => hx.block k hk⟩ (by simp), h2⟩
theorem Holds.made (w : World) : Holds (w.alloc (.map #[] 0)) w.heap.size 0 (fun _ _ => False) :=
  ⟨_, KMap.made w, fun xs => by simp⟩
theorem Ext.grown {w wr w' : World} {b : Nat} (h : Ext w wr) (hg : wr.grownBy w' (some b)) (hb : w.heap.size ≤ b) : Ext w w' :=
  Below.grown h hg h.size (fun k hk => by cases hk; exact hb)
theorem Blk.grown {w w' : World} {b c : Nat} {cs : Array Value} {t : TypeId} (h : Blk w b cs t) (hg : w.grownBy w' (some c)) (hb : b ≠ c) : Blk w' b cs t :=
  (hg.block b h.lt (by simpa using hb)).trans h


theorem wf64 {x : Int} (h1 : 0 ≤ x) (h2 : x ≤ 1000000) : (Lit.int .i64 x).wf = true := by
  simp [Lit.wf, IntKind.min, IntKind.max, IntKind.signed, IntKind.bits]; omega
theorem inI2 {a b : Int} (h1 : 0 ≤ a) (h2 : a ≤ 1000000) (h3 : 0 ≤ b) (h4 : b ≤ 1000000) : InI [a, b] := by
  intro x hx
  simp only [List.mem_cons, List.not_mem_nil, or_false] at hx
  rcases hx with rfl | rfl
  · exact wf64 h1 h2
  · exact wf64 h3 h4

open Classical in
/-- What an answer's number is: the one that was seen; 0, if none was. -/
noncomputable def outOf (xs : List Int) (n : Nat) (c : Int) : Int := if h : ∃ m, SeenO xs n n c m then Classical.choose h else 0
/-- Two unlike numbers were seen. -/
def Clash (xs : List Int) (n : Nat) : Prop := ∃ c m m', SeenO xs n n c m ∧ SeenO xs n n c m' ∧ m ≠ m'

theorem outOf_is {xs : List Int} {n : Nat} {done : List (List Int)} (h : PairsAre done (SeenO xs n n)) (c : Int) (hc : cntOf done c ≤ 1) : lastOf done c = outOf xs n c := by
  unfold outOf
  rcases lastOf_is h c with h1 | ⟨h1, h2⟩
  · rw [dif_pos ⟨_, h1⟩]
    exact one_of h hc h1 (Classical.choose_spec (p := fun m => SeenO xs n n c m) ⟨_, h1⟩)
  · rw [dif_neg (fun ⟨m, hm⟩ => h1 m hm), h2]

/-- Under way. -/
structure NumSt (w wr : World) (r mb n len b off cap N : Nat) (S : Int → Int → Prop) (xs : List Int) : Prop where
  ext : Ext w wr
  box : Blk wr r #[.int .i64 n, .slice (some ⟨b, off, none⟩) len cap] 26
  res : Blk wr (r + 1) #[.int .i64 0, .int .i64 0, .int .i64 0, .int .i64 0] 37
  tab : TabAt wr n len b off xs
  map : Holds wr mb N S
  r0 : w.heap.size ≤ r
  rm : r + 1 < mb
  bm : b < w.heap.size
theorem NumSt.carry {w wr w' : World} {r mb n len b off cap N : Nat} {S : Int → Int → Prop} {xs : List Int} (h : NumSt w wr r mb n len b off cap N S xs) (hx : Ext wr w') : NumSt w w' r mb n len b off cap N S xs :=
  ⟨h.ext.trans hx, h.box.ext hx, h.res.ext hx, h.tab.ext hx, h.map.ext hx, h.r0, h.rm, h.bm⟩
theorem NumSt.put {w wr w' : World} {r mb n len b off cap N N' : Nat} {S T : Int → Int → Prop} {xs : List Int} (h : NumSt w wr r mb n len b off cap N S xs) (hg : wr.grownBy w' (some mb)) (hm : Holds w' mb N' T) : NumSt w w' r mb n len b off cap N' T xs := by
  have hr := h.rm
  have hr0 := h.r0
  have hx := h.ext.grown hg (by omega)
  refine ⟨hx, h.box.grown hg (by omega), h.res.grown hg (by omega), ?_, hm, h.r0, h.rm, h.bm⟩
  have ht := h.tab
  exact ⟨ht.tab, ht.eq, Nat.lt_of_lt_of_le ht.lt hg.size, fun j hj => by
    have h1 := ht.cells j hj
    have h2 := hg.block b ht.lt (by have := h.bm; simp; omega)
    simp only [World.cell?] at h1 ⊢
    rw [h2]; exact h1⟩

theorem seenO_c {xs : List Int} {n : Nat} (h : IsTab n xs) {c m : Int} (hS : SeenO xs n n c m) : (c = 0 ∨ c = 1 ∨ c = 2) ∧ 0 ≤ m ∧ m ≤ 24 := by
  have h24 := h.big
  rcases hS with ⟨p, h1, h2, h3⟩ | ⟨p, q, h1, h2, h3, h4⟩
  · have := comTo_bound h p p h1 h1 n (Nat.le_refl _)
    rw [← h3] at this
    omega
  · have := comTo_bound h p q h1 (by omega) n (Nat.le_refl _)
    rw [← h4] at this
    have hb := nth_bit h (p * n + q) (place_lt h1 (by omega))
    rw [← h3] at hb
    omega

/-- The range under way. -/
structure RgSt (w wr : World) (r mb rb ob nb n len b off cap cnt N : Nat) (f : List Int → Option Int) (done : List (List Int)) : Prop where
  ext : Ext w wr
  box : Blk wr r #[.int .i64 n, .slice (some ⟨b, off, none⟩) len cap] 26
  res : Blk wr (r + 1) #[.int .i64 0, .int .i64 0, .int .i64 0, .int .i64 0] 37
  out : Blk wr ob #[.int .i64 (lastOf done 0), .int .i64 (lastOf done 1), .int .i64 (lastOf done 2)] 57
  many : Blk wr nb #[.int .i64 (cntOf done 0), .int .i64 (cntOf done 1), .int .i64 (cntOf done 2)] 57
  rng : KRange Tryd.prog 53 3 2 wr mb rb f done cnt
  le : done.length + cnt ≤ N
  r0 : w.heap.size ≤ r
  rm : r + 1 < mb
  mo : mb < ob
  on : nb = ob + 1
  nr : rb = ob + 2

/-- A round's stores. -/
theorem RgSt.step {w wr w5 : World} {r mb rb ob nb n len b off cap cnt cnt' N : Nat} {f : List Int → Option Int} {done : List (List Int)} (h : RgSt w wr r mb rb ob nb n len b off cap cnt N f done) (c : Nat) (hc : c = 0 ∨ c = 1 ∨ c = 2) (m : Int)
    (hg : wr.grownBy w5 (some rb)) (hr5 : KRange Tryd.prog 53 3 2 w5 mb rb f (done ++ [[(c : Int), m]]) cnt') (hlt : cnt' < cnt) :
    RgSt w (((w5.alloc (.cells #[.int .i64 c, .int .i64 m] 53)).setCell ⟨ob, c, none⟩ (.int .i64 m)).setCell ⟨nb, c, none⟩ (.int .i64 (cntOf done c + 1))) r mb rb ob nb n len b off cap cnt' N f (done ++ [[(c : Int), m]]) := by
  have hmo := h.mo
  have hon := h.on
  have hnr := h.nr
  have hr0 := h.r0
  have hrm := h.rm
  have hle := h.le
  have hx : Ext w w5 := h.ext.grown hg (by omega)
  have hkb : ∀ {k : Nat} {cs : Array Value} {t : TypeId}, Blk wr k cs t → k ≠ rb → k ≠ ob → k ≠ nb → Blk (((w5.alloc (.cells #[.int .i64 c, .int .i64 m] 53)).setCell ⟨ob, c, none⟩ (.int .i64 m)).setCell ⟨nb, c, none⟩ (.int .i64 (cntOf done c + 1))) k cs t :=
    fun hb h1 h2 h3 => (((hb.grown hg h1).alloc _).beside _ (by simp; omega) _).beside _ (by simp; omega) _
  refine ⟨((hx.alloc _).set (by simp; omega) _).set (by simp; omega) _, hkb h.box (by omega) (by omega) (by omega), hkb h.res (by omega) (by omega) (by omega), ?_, ?_, ?_, by simp; omega, hr0, hrm, hmo, hon, hnr⟩
  · have h1 := ((((h.out.grown hg (by omega)).alloc (.cells #[.int .i64 c, .int .i64 m] 53)).set c (.int .i64 m)).beside ⟨nb, c, none⟩ (by simp; omega) (.int .i64 (cntOf done c + 1)))
    rcases hc with rfl | rfl | rfl <;> simpa [lastOf_snoc] using h1
  · have h1 := ((((h.many.grown hg (by omega)).alloc (.cells #[.int .i64 c, .int .i64 m] 53)).beside ⟨ob, c, none⟩ (by simp; omega) (.int .i64 m)).set c (.int .i64 (cntOf done c + 1)))
    rcases hc with rfl | rfl | rfl <;> simpa [cntOf_snoc] using h1
  · have hst : ∀ (u : World) (p : Addr) (v : Value), u.grownBy (u.setCell p v) (some p.block) := fun u p v =>
      ⟨rfl, rfl, rfl, by simp, fun i _ hne => Below.heap_setCell u p v i (fun e => hne (by rw [e]))⟩
    have k1 := hr5.kept (World.grownBy_alloc w5 (.cells #[.int .i64 c, .int .i64 m] 53) none) (by simp) (by simp)
    have k2 := k1.kept (hst _ ⟨ob, c, none⟩ (.int .i64 m)) (by simp; omega) (by simp; omega)
    exact k2.kept (hst _ ⟨nb, c, none⟩ (.int .i64 (cntOf done c + 1))) (by simp; omega) (by simp; omega)

set_option maxHeartbeats 4000000 in
theorem numbers_ok (n : Nat) (ao : Option Addr) (len cap : Nat) (xs : List Int) (w : World) (hl : xs.length = len) (hr : Reads w ao (ints xs)) (hm : IsTab n xs) (hs : IsSym n xs) :
    Calls Tryd.prog 14 #[.agg #[.int .i64 n, .slice ao len cap]] w fun e w' =>
      (Clash xs n → e = .returned (.tuple #[.agg #[.int .i64 0, .int .i64 0, .int .i64 0, .int .i64 0], .int .i64 4])) ∧
      (¬ Clash xs n → e = .returned (.tuple #[.agg #[.int .i64 n, .int .i64 (outOf xs n 2), .int .i64 (outOf xs n 1), .int .i64 (outOf xs n 0)], .int .i64 0])) ∧ Ext w w' := by
  have hl2 : len = n * n := by rw [← hl]; exact hm.len
  obtain ⟨b, off, rfl, ht⟩ := tabAt_of hm hr
  rw [← hl2] at ht
  have hc := fun w' (hx : Ext w w') => check_any n (some ⟨b, off, none⟩) len cap xs w' hl (hx.reads hr)
  rw [graphFaultOf_tab hm hs] at hc
  have HC := Lib.hid hc
  have h24 := hm.big
  have HCM : Hid (∀ i j w', i < n → j < n → TabAt w' n len b off xs → Calls Tryd.prog 31 #[.agg #[.int .i64 n, .slice (some ⟨b, off, none⟩) len cap], .int .i64 i, .int .i64 j] w' fun e w'' => e = .returned (.int .i64 (comTo xs n i j n)) ∧ Ext w' w'') :=
    fun i j w' hi hj ht => common_at n len b off cap i j xs w' hi hj ht
  have HT := Lib.hid ht
  have HM := Lib.hid hm
  have HL2 := Lib.hid hl2
  have hmm := @run_makeMap Tryd.prog
  clear ht hm hs hr hl hl2 hc
  go_enter Tryd.func14, Tryd.ntmps14
  go_wp2_with (go_at_call 30; refine Calls.mono (HC.out _ (((Ext.refl w).alloc _).alloc _)) ?_; rintro e w1 ⟨rfl, hx⟩; have HX := Lib.hid hx; have k0 := (((Blk.new w #[.int .i64 n, .slice (some ⟨b, off, none⟩) len cap] 26).alloc (.cells #[.int .i64 0, .int .i64 0, .int .i64 0, .int .i64 0] 37)).ext hx).two; have k1 := ((((Blk.new w #[.int .i64 n, .slice (some ⟨b, off, none⟩) len cap] 26).alloc (.cells #[.int .i64 0, .int .i64 0, .int .i64 0, .int .i64 0] 37)).ext hx).alloc (.map #[] 0)).two; clear hx)
  have hsz := HX.out.size
  simp at hsz
  have HS : Hid (NumSt w (w1.alloc (.map #[] 0)) w.heap.size w1.heap.size n len b off cap 0 (SeenO xs n 0) xs) :=
    ⟨((((Ext.refl w).alloc _).alloc _).trans HX.out).alloc _, (((Blk.new w _ _).alloc _).ext HX.out).alloc _, ((Blk.new' _ _ _ (by simp)).ext HX.out).alloc _, HT.out.ext (((((Ext.refl w).alloc _).alloc _).trans HX.out).alloc _),
      (Holds.made w1).congr (Nat.le_refl _) (fun c m => by unfold SeenO; constructor; (rintro (⟨p, h, _⟩ | ⟨p, q, h, _⟩) <;> omega); exact fun h => h.elim), Nat.le_refl _, by omega, HT.out.lt⟩
  obtain ⟨w0, hw0⟩ : ∃ w0, w0 = w1.alloc (.map #[] 0) := ⟨_, rfl⟩
  obtain ⟨mb, hmb⟩ : ∃ mb, mb = w1.heap.size := ⟨_, rfl⟩
  obtain ⟨r, hr⟩ : ∃ r, r = w.heap.size := ⟨_, rfl⟩
  rw [← hw0, ← hmb, ← hr] at HS ⊢
  have HRW := Lib.hid hr
  clear hw0 hmb hr k0 k1 hsz HX
  go_loopw [20] (fun a wr => ∃ i : Nat, i ≤ n ∧ a = .int .i64 i ∧ NumSt w wr r mb n len b off cap (25 * i) (SeenO xs n i) xs) (fun a _ => n - (intOf a).toNat)
  case atStart => exact ⟨0, by omega, rfl, HS.out⟩
  case round =>
    obtain ⟨i, hi, rfl, hst⟩ := hrel
    have HI := Lib.hid hst
    clear hst HS
    obtain ⟨k0, k1⟩ := HI.out.box.two
    by_cases hin : i < n
    · obtain ⟨wo, rfl⟩ : ∃ wo : World, wo = wr := ⟨_, rfl⟩
      obtain ⟨f, hmap, hf⟩ := HI.out.map
      have HMAP := Lib.hid hmap
      have HF := Lib.hid hf
      clear hmap hf
      obtain ⟨cm, hcm⟩ : ∃ cm, comTo xs n i i n = cm := ⟨_, rfl⟩
      have hcb := comTo_bound HM.out i i hin hin n (Nat.le_refl _)
      rw [hcm] at hcb
      obtain ⟨hcb0, hcb1⟩ := hcb
      have HCC := Lib.hid (HCM.out i i wo hin hin HI.out.tab)
      rw [hcm] at HCC
      have HCI := Lib.hid hcm
      clear hcm
      go_wp2_with (first
        | (go_at_call 31; refine Calls.mono HCC.out ?_; rintro e w2 ⟨rfl, hx2⟩; have HX2 := Lib.hid hx2; clear hx2)
        | (at_mapUpdate; go_loud (refine wpList_put _ kty keyed2 rfl _ _ _ _ rfl mapTy mb _ f rfl (HMAP.out.kept (row := none) ⟨HX2.out.os, HX2.out.tape, HX2.out.output, HX2.out.size, fun k hk _ => HX2.out.block k hk⟩ (by simp)) (by unfold maxLen; omega) [2, cm] i rfl rfl rfl (inI2 (by omega) (by omega) (by omega) (by omega)) (wf64 (by omega) (by omega)) ?_; intro w3 hm3 hg3; have HM3 := Lib.hid hm3; have HG3 := Lib.hid hg3; clear hm3 hg3)))
      have HJ0 : Hid (NumSt w w3 r mb n len b off cap (25 * i + 1) (SeenAt xs n i 0) xs) := (HI.out.carry HX2.out).put HG3.out (Holds.put HF.out HM3.out (fun c m => by
        unfold SeenAt
        rw [HCI.out]
        constructor
        · rintro (h | h | ⟨q, h, _⟩)
          · exact .inl h
          · exact .inr h
          · omega
        · rintro (h | h)
          · exact .inl h
          · exact .inr (.inl h)))
      clear HI k0 k1 HMAP HF HCC HCI HX2 HM3 HG3 hcb0 hcb1
      go_loopw [31] (fun a wr => ∃ j : Nat, j ≤ i ∧ a = .int .i64 j ∧ NumSt w wr r mb n len b off cap (25 * i + 1 + j) (SeenAt xs n i j) xs) (fun a _ => i - (intOf a).toNat)
      case atStart => exact ⟨0, by omega, rfl, HJ0.out⟩
      case round =>
        obtain ⟨j, hj, rfl, hst⟩ := hrel
        have HJ := Lib.hid hst
        clear hst HJ0
        by_cases hji : j < i
        · obtain ⟨k0, k1⟩ := HJ.out.box.two
          obtain ⟨f, hmap, hf⟩ := HJ.out.map
          have HMAP := Lib.hid hmap
          have HF := Lib.hid hf
          clear hmap hf
          obtain ⟨cm, hcm⟩ : ∃ cm, comTo xs n i j n = cm := ⟨_, rfl⟩
          have hcb := comTo_bound HM.out i j hin (by omega) n (Nat.le_refl _)
          rw [hcm] at hcb
          obtain ⟨hcb0, hcb1⟩ := hcb
          have HCC := Lib.hid (HCM.out i j wr.drew hin (by omega) (HJ.out.tab.ext (Ext.refl _).drew))
          rw [hcm] at HCC
          have p1 := place_lt hin (show j < n by omega)
          have s1 := nth_bit HM.out _ p1
          rw [← HL2.out] at p1
          have c1 := HJ.out.tab.cells _ p1
          have hbl := HJ.out.tab.lt
          obtain ⟨u, hu⟩ : ∃ u, i * n = u := ⟨_, rfl⟩
          have hu' : (i : Int) * (n : Int) = u := by rw [← hu, Int.natCast_mul]
          obtain ⟨x, hx⟩ : ∃ x, nth xs (i * n + j) = x := ⟨_, rfl⟩
          rw [hx] at c1 s1
          rw [hu] at p1 c1
          have hx01 : 0 ≤ x ∧ x ≤ 2 := by omega
          obtain ⟨hx0, hx1⟩ := hx01
          have HIN : Hid (∀ c m, SeenAt xs n i (j + 1) c m ↔ SeenAt xs n i j c m ∨ (c = x ∧ m = cm)) := fun c m => by
            unfold SeenAt
            rw [← hx, ← hcm]
            constructor
            · rintro (h | h | ⟨q, h, h2⟩)
              · exact .inl (.inl h)
              · exact .inl (.inr (.inl h))
              · rcases Nat.lt_succ_iff_lt_or_eq.1 h with h' | rfl
                · exact .inl (.inr (.inr ⟨q, h', h2⟩))
                · exact .inr h2
            · rintro ((h | h | ⟨q, h, h2⟩) | h)
              · exact .inl h
              · exact .inr (.inl h)
              · exact .inr (.inr ⟨q, by omega, h2⟩)
              · exact .inr (.inr ⟨j, by omega, h⟩)
          have hub : u + n ≤ 576 := by
            have h1 : (i + 1) * n ≤ n * n := Nat.mul_le_mul_right n hin
            have h2 := sq_bound h24
            rw [Nat.succ_mul] at h1; omega
          have hlenb : len ≤ 576 := by rw [HL2.out]; exact sq_bound h24
          have ei1 : IntKind.i64.wrap (u : Int) = (u : Int) := IntWalk.i64_in _ (by omega)
          have ei2 : IntKind.i64.wrap ((u : Int) + (j : Int)) = (u : Int) + (j : Int) := IntWalk.i64_in _ (by omega)
          have ei3 : 0 ≤ (u : Int) + (j : Int) := by omega
          have ei4 : (u : Int) + (j : Int) < (len : Int) := by omega
          have ei5 : ((u : Int) + (j : Int)).toNat = u + j := by omega
          clear hcm hx hu s1
          go_wp2_with fail
          go_region_law (first
            | (refine step_callG (.int .i64 cm) rfl HCC.out (by simp [execOp, resolve, invoke, Act.eval]; rfl) ?_; intro w2 hx2; have q0 := (HJ.out.box.ext (((Ext.refl _).drew).trans hx2)).two; obtain ⟨q0, q1⟩ := q0; have qc := ((((Ext.refl wr).drew).trans hx2).cell hbl).trans c1; obtain ⟨w3, hrun3, hm3, hg3⟩ := KMap.update kty keyed2 mapTy (HMAP.out.kept (row := none) ⟨(((Ext.refl wr).drew).trans hx2).os, (((Ext.refl wr).drew).trans hx2).tape, (((Ext.refl wr).drew).trans hx2).output, (((Ext.refl wr).drew).trans hx2).size, fun k hk _ => (((Ext.refl wr).drew).trans hx2).block k hk⟩ (by simp)) (by unfold maxLen; omega) [x, cm] i rfl (inI2 (by omega) (by omega) (by omega) (by omega)) (wf64 (by omega) (by omega)); have hrun3' : (Instr.mapUpdate 55 (.map (some mb)) (.agg #[.int .i64 x, .int .i64 cm]) (.int .i64 i)).run Tryd.prog w2 = .ok () w3 := hrun3; clear hrun3))
          all_goals
            go_wp2
            go_roundw
            case rel => exact ⟨j + 1, by omega, by go_num, (HJ.out.carry ((Ext.refl wr).drew.trans hx2)).put hg3 (Holds.put HF.out hm3 HIN.out)⟩
            case measure => simp [intOf] <;> omega
        · obtain rfl : j = i := by omega
          go_wp2
          go_roundw
          case rel => exact ⟨j + 1, by omega, by go_num, by
            have h := HJ.out
            exact ⟨h.ext, h.box, h.res, h.tab, h.map.congr (by omega) (fun c m => seen_succ.symm), h.r0, h.rm, h.bm⟩⟩
          case measure => simp [intOf] <;> omega
    · obtain rfl : n = i := by omega
      have hrm := HI.out.rm
      obtain ⟨f, hmap, hf⟩ := HI.out.map
      have hmap2 := hmap.kept (w' := (wr.alloc (.cells #[.int .i64 0, .int .i64 0, .int .i64 0] 57)).alloc (.cells #[.int .i64 0, .int .i64 0, .int .i64 0] 57)) (row := none) ((World.grownBy_alloc wr _ none).trans (World.grownBy_alloc _ _ none)) (by simp)
      have HMAP := Lib.hid hmap2
      have HF := Lib.hid hf
      have hml := hmap.lt
      clear hmap hf hmap2
      go_wp2_with (first | (at_range; go_loud (refine wpList_over _ keyed2 rfl _ _ rfl mapTy mb _ f rfl HMAP.out ?_; intro w4 cnt hr4 hc4 hg4 hs4)) | go_in)
      have HG : Hid (RgSt w w4 r mb (wr.heap.size + 2) wr.heap.size (wr.heap.size + 1) n len b off cap cnt (25 * n) f []) := by
        have hx : Ext wr w4 := by
          have h1 := (Ext.refl wr).alloc (.cells #[.int .i64 0, .int .i64 0, .int .i64 0] 57)
          have h2 := h1.alloc (.cells #[.int .i64 0, .int .i64 0, .int .i64 0] 57)
          exact h2.trans ⟨hg4.os, hg4.tape, hg4.output, hg4.size, fun k hk => hg4.block k hk (by simp)⟩
        have hx2 : ∀ {w5}, w5 = w4 → Ext ((wr.alloc (.cells #[.int .i64 0, .int .i64 0, .int .i64 0] 57)).alloc (.cells #[.int .i64 0, .int .i64 0, .int .i64 0] 57)) w5 := fun h => by
          subst h; exact ⟨hg4.os, hg4.tape, hg4.output, hg4.size, fun k hk => hg4.block k hk (by simp)⟩
        refine ⟨HI.out.ext.trans hx, HI.out.box.ext hx, HI.out.res.ext hx, (((Blk.new wr _ _).alloc _)).ext (hx2 rfl), (Blk.new' _ _ _ (by simp)).ext (hx2 rfl), ?_, by simp; omega, HI.out.r0, HI.out.rm, hml, rfl, rfl⟩
        simpa using hr4
      have hrb : ((wr.alloc (.cells #[.int .i64 0, .int .i64 0, .int .i64 0] 57)).alloc (.cells #[.int .i64 0, .int .i64 0, .int .i64 0] 57)).heap.size = wr.heap.size + 2 := by simp
      rw [hrb]
      go_frame
      obtain ⟨ob, hob⟩ : ∃ ob, ob = wr.heap.size := ⟨_, rfl⟩
      obtain ⟨nb, hnb⟩ : ∃ nb, nb = wr.heap.size + 1 := ⟨_, rfl⟩
      obtain ⟨rb, hrb⟩ : ∃ rb, rb = wr.heap.size + 2 := ⟨_, rfl⟩
      rw [← hnb, ← hrb, ← hob] at HG ⊢
      clear hob hnb hrb hr4 hg4 hs4 HMAP hml k0 k1 hrm
      go_loopw [10] (fun _ wr => ∃ (done : List (List Int)) (cnt : Nat), RgSt w wr r mb rb ob nb n len b off cap cnt (25 * n) f done) (fun _ w' => w'.rangeLeft mb rb)
      case atStart => exact ⟨[], cnt, HG.out⟩
      case round =>
        obtain ⟨done, cnt, hst⟩ := hrel
        have HR := Lib.hid hst
        clear hst HG
        go_wp2_with (first | (at_next; go_loud (refine wpList_step _ kty keyed2 rfl _ rfl mb rb f done cnt rfl HR.out.rng ?_ ?_)) | go_in)
        · intro hall hnd
          obtain ⟨qo0, qo1, qo2⟩ := HR.out.out.three
          obtain ⟨qm0, qm1, qm2⟩ := HR.out.many.three
          obtain ⟨k0, k1⟩ := HR.out.box.two
          have HALL := Lib.hid hall
          have HND := Lib.hid hnd
          obtain ⟨x0, hx0⟩ : ∃ x, cntOf done 0 = x := ⟨_, rfl⟩
          obtain ⟨x1, hx1⟩ : ∃ x, cntOf done 1 = x := ⟨_, rfl⟩
          obtain ⟨x2, hx2⟩ : ∃ x, cntOf done 2 = x := ⟨_, rfl⟩
          obtain ⟨y0, hy0⟩ : ∃ x, lastOf done 0 = x := ⟨_, rfl⟩
          obtain ⟨y1, hy1⟩ : ∃ x, lastOf done 1 = x := ⟨_, rfl⟩
          obtain ⟨y2, hy2⟩ : ∃ x, lastOf done 2 = x := ⟨_, rfl⟩
          rw [hx0] at qm0
          rw [hx1] at qm1
          rw [hx2] at qm2
          rw [hy0] at qo0
          rw [hy1] at qo1
          rw [hy2] at qo2
          have HX0 := Lib.hid hx0
          have HX1 := Lib.hid hx1
          have HX2 := Lib.hid hx2
          have HY0 := Lib.hid hy0
          have HY1 := Lib.hid hy1
          have HY2 := Lib.hid hy2
          clear hall hnd hx0 hx1 hx2 hy0 hy1 hy2
          have HPA : Hid (PairsAre done (SeenO xs n n)) := ⟨HND.out, fun ps => by
            constructor
            · intro hps
              obtain ⟨-, -, -, -, -, -, h5, -⟩ := HR.out.rng
              exact (HF.out ps).1 (h5 ps hps).2.2
            · intro hps
              obtain ⟨c, m, rfl, hS⟩ := hps
              obtain ⟨h1, h2, h3⟩ := seenO_c HM.out hS
              exact (HALL.out _ rfl (inI2 (by omega) (by omega) h2 (by omega))).1 ((HF.out _).2 ⟨c, m, rfl, hS⟩)⟩
          have HCL : Hid ((1 < x0 ∨ 1 < x1 ∨ 1 < x2) → Clash xs n) := fun h => by
            rw [← HX0.out, ← HX1.out, ← HX2.out] at h
            rcases h with h | h | h
            · exact ⟨_, clash_of HPA.out h⟩
            · exact ⟨_, clash_of HPA.out h⟩
            · exact ⟨_, clash_of HPA.out h⟩
          have HNC : Hid (x0 ≤ 1 → x1 ≤ 1 → x2 ≤ 1 → ¬ Clash xs n ∧ y2 = outOf xs n 2 ∧ y1 = outOf xs n 1 ∧ y0 = outOf xs n 0) := fun h0 h1 h2 => by
            rw [← HX0.out] at h0
            rw [← HX1.out] at h1
            rw [← HX2.out] at h2
            refine ⟨?_, ?_, ?_, ?_⟩
            · rintro ⟨c, m, m', hS, hS', hne⟩
              rcases (seenO_c HM.out hS).1 with rfl | rfl | rfl
              · exact hne (one_of HPA.out h0 hS hS')
              · exact hne (one_of HPA.out h1 hS hS')
              · exact hne (one_of HPA.out h2 hS hS')
            · rw [← HY2.out]; exact outOf_is HPA.out _ h2
            · rw [← HY1.out]; exact outOf_is HPA.out _ h1
            · rw [← HY0.out]; exact outOf_is HPA.out _ h0
          clear HPA HALL HND HX0 HX1 HX2 HY0 HY1 HY2
          obtain ⟨r0, r1, r2, r3⟩ := HR.out.res.four
          have rf0 := HR.out.res.f 0
          have rf1 := HR.out.res.f 1
          have rf2 := HR.out.res.f 2
          have rf3 := HR.out.res.f 3
          have HRS : Hid (∀ v0 v1 v2 v3 : Value, Blk ((((wr.setCell ⟨r + 1, 0, none⟩ v0).setCell ⟨r + 1, 1, none⟩ v1).setCell ⟨r + 1, 2, none⟩ v2).setCell ⟨r + 1, 3, none⟩ v3) (r + 1) #[v0, v1, v2, v3] 37) := fun v0 v1 v2 v3 =>
            (((HR.out.res.set 0 v0).set 1 v1).set 2 v2).set 3 v3
          have HRE : Hid (∀ v0 v1 v2 v3 : Value, Ext w ((((wr.setCell ⟨r + 1, 0, none⟩ v0).setCell ⟨r + 1, 1, none⟩ v1).setCell ⟨r + 1, 2, none⟩ v2).setCell ⟨r + 1, 3, none⟩ v3)) := fun v0 v1 v2 v3 => by
            have h0 := HR.out.r0
            exact (((HR.out.ext.set (by simp; omega) v0).set (by simp; omega) v1).set (by simp; omega) v2).set (by simp; omega) v3
          by_cases hbig : x0 ≤ 1 ∧ x1 ≤ 1 ∧ x2 ≤ 1
          · obtain ⟨n0, n1, n2⟩ := hbig
            obtain ⟨g0, g1, g2, g3⟩ := HNC.out n0 n1 n2
            have G0 := Lib.hid g0
            have G1 := Lib.hid g1
            have G2 := Lib.hid g2
            have G3 := Lib.hid g3
            clear g0 g1 g2 g3 HCL HNC
            obtain ⟨p0, p1, p2, p3⟩ := (HRS.out (.int .i64 n) (.int .i64 y2) (.int .i64 y1) (.int .i64 y0)).four
            by_cases c1 : x0 < x1
            · by_cases c2 : x1 < x2
              · have c3 : ¬ (1 < x2) := by omega
                go_wp2
                refine bodyPost_ret (v := .tuple #[.agg #[.int .i64 n, .int .i64 y2, .int .i64 y1, .int .i64 y0], .int .i64 0]) (by simp [results, Tryd.results14, go_sem, p0, p1, p2, p3]) rfl ⟨fun h => absurd h G0.out, fun _ => by rw [G1.out, G2.out, G3.out], HRE.out _ _ _ _⟩
              · have c3 : ¬ (1 < x1) := by omega
                go_wp2
                refine bodyPost_ret (v := .tuple #[.agg #[.int .i64 n, .int .i64 y2, .int .i64 y1, .int .i64 y0], .int .i64 0]) (by simp [results, Tryd.results14, go_sem, p0, p1, p2, p3]) rfl ⟨fun h => absurd h G0.out, fun _ => by rw [G1.out, G2.out, G3.out], HRE.out _ _ _ _⟩
            · by_cases c2 : x0 < x2
              · have c3 : ¬ (1 < x2) := by omega
                go_wp2
                refine bodyPost_ret (v := .tuple #[.agg #[.int .i64 n, .int .i64 y2, .int .i64 y1, .int .i64 y0], .int .i64 0]) (by simp [results, Tryd.results14, go_sem, p0, p1, p2, p3]) rfl ⟨fun h => absurd h G0.out, fun _ => by rw [G1.out, G2.out, G3.out], HRE.out _ _ _ _⟩
              · have c3 : ¬ (1 < x0) := by omega
                go_wp2
                refine bodyPost_ret (v := .tuple #[.agg #[.int .i64 n, .int .i64 y2, .int .i64 y1, .int .i64 y0], .int .i64 0]) (by simp [results, Tryd.results14, go_sem, p0, p1, p2, p3]) rfl ⟨fun h => absurd h G0.out, fun _ => by rw [G1.out, G2.out, G3.out], HRE.out _ _ _ _⟩
          · have G0 : Hid (Clash xs n) := Lib.hid (HCL.out (by omega))
            clear HCL HNC
            obtain ⟨p0, p1, p2, p3⟩ := (HRS.out (.int .i64 0) (.int .i64 0) (.int .i64 0) (.int .i64 0)).four
            by_cases c1 : x0 < x1
            · by_cases c2 : x1 < x2
              · have c3 : (1 < x2) := by omega
                go_wp2
                refine bodyPost_ret (v := .tuple #[.agg #[.int .i64 0, .int .i64 0, .int .i64 0, .int .i64 0], .int .i64 4]) (by simp [results, Tryd.results14, go_sem, p0, p1, p2, p3]) rfl ⟨fun _ => rfl, fun h => absurd G0.out h, HRE.out _ _ _ _⟩
              · have c3 : (1 < x1) := by omega
                go_wp2
                refine bodyPost_ret (v := .tuple #[.agg #[.int .i64 0, .int .i64 0, .int .i64 0, .int .i64 0], .int .i64 4]) (by simp [results, Tryd.results14, go_sem, p0, p1, p2, p3]) rfl ⟨fun _ => rfl, fun h => absurd G0.out h, HRE.out _ _ _ _⟩
            · by_cases c2 : x0 < x2
              · have c3 : (1 < x2) := by omega
                go_wp2
                refine bodyPost_ret (v := .tuple #[.agg #[.int .i64 0, .int .i64 0, .int .i64 0, .int .i64 0], .int .i64 4]) (by simp [results, Tryd.results14, go_sem, p0, p1, p2, p3]) rfl ⟨fun _ => rfl, fun h => absurd G0.out h, HRE.out _ _ _ _⟩
              · have c3 : (1 < x0) := by omega
                go_wp2
                refine bodyPost_ret (v := .tuple #[.agg #[.int .i64 0, .int .i64 0, .int .i64 0, .int .i64 0], .int .i64 4]) (by simp [results, Tryd.results14, go_sem, p0, p1, p2, p3]) rfl ⟨fun _ => rfl, fun h => absurd G0.out h, HRE.out _ _ _ _⟩
        · intro ps v w5 cnt' hl hi5 hfc hnd hr5 hlt hg hs hen
          obtain ⟨c, m, rfl, hS⟩ := (HF.out _).1 (by rw [hfc]; rfl)
          obtain ⟨hc, hm0, hm1⟩ := seenO_c HM.out hS
          have hmo := HR.out.mo
          have hon := HR.out.on
          have hnr := HR.out.nr
          have qo := ((HR.out.out.grown hg (by omega)).alloc (.cells #[.int .i64 c, .int .i64 m] 53))
          have qm := ((HR.out.many.grown hg (by omega)).alloc (.cells #[.int .i64 c, .int .i64 m] 53))
          have e0 := cntOf_le done 0
          have e1 := cntOf_le done 1
          have e2 := cntOf_le done 2
          have hle := HR.out.le
          have hen' : (Instr.entry (.pointer (some ⟨rb, 0, none⟩))).run Tryd.prog w5 = .ok (.tuple #[.agg #[.int .i64 c, .int .i64 m], .int .i64 v]) w5 := hen
          have k7 : (kval [c, m]) = .agg #[.int .i64 c, .int .i64 m] := rfl
          have fo := qo.f 0
          have fo1 := qo.f 1
          have fo2 := qo.f 2
          have fm := qm.f 0
          have fm1 := qm.f 1
          have fm2 := qm.f 2
          clear hen hfc hnd
          rw [k7]
          clear k7
          rcases hc with rfl | rfl | rfl
          · obtain ⟨qo0, qo1, qo2⟩ := qo.three
            obtain ⟨qm0, qm1, qm2⟩ := (qm.beside ⟨ob, 0, none⟩ (by simp; omega) (.int .i64 m)).three
            have lo := HR.out.out.lt
            obtain ⟨qp0, qp1⟩ := ((Blk.new' w5 #[.int .i64 0, .int .i64 m] 53 (b := wr.heap.size) hs.symm).beside ⟨ob, 0, none⟩ (by simp; omega) (.int .i64 m)).two
            have HNX := Lib.hid (HR.out.step 0 (by omega) m hg hr5 hlt)
            clear hon hnr hmo qo qm lo
            go_wp2
            go_roundw
            case rel => exact ⟨done ++ [[0, m]], cnt', HNX.out⟩
            case measure => exact Nat.lt_of_le_of_lt (Nat.le_of_eq HNX.out.rng.left_eq) (by rw [HR.out.rng.left_eq]; exact hlt)
          · obtain ⟨qo0, qo1, qo2⟩ := qo.three
            obtain ⟨qm0, qm1, qm2⟩ := (qm.beside ⟨ob, 1, none⟩ (by simp; omega) (.int .i64 m)).three
            have lo := HR.out.out.lt
            obtain ⟨qp0, qp1⟩ := ((Blk.new' w5 #[.int .i64 1, .int .i64 m] 53 (b := wr.heap.size) hs.symm).beside ⟨ob, 1, none⟩ (by simp; omega) (.int .i64 m)).two
            have HNX := Lib.hid (HR.out.step 1 (by omega) m hg hr5 hlt)
            clear hon hnr hmo qo qm lo
            go_wp2
            go_roundw
            case rel => exact ⟨done ++ [[1, m]], cnt', HNX.out⟩
            case measure => exact Nat.lt_of_le_of_lt (Nat.le_of_eq HNX.out.rng.left_eq) (by rw [HR.out.rng.left_eq]; exact hlt)
          · obtain ⟨qo0, qo1, qo2⟩ := qo.three
            obtain ⟨qm0, qm1, qm2⟩ := (qm.beside ⟨ob, 2, none⟩ (by simp; omega) (.int .i64 m)).three
            have lo := HR.out.out.lt
            obtain ⟨qp0, qp1⟩ := ((Blk.new' w5 #[.int .i64 2, .int .i64 m] 53 (b := wr.heap.size) hs.symm).beside ⟨ob, 2, none⟩ (by simp; omega) (.int .i64 m)).two
            have HNX := Lib.hid (HR.out.step 2 (by omega) m hg hr5 hlt)
            clear hon hnr hmo qo qm lo
            go_wp2
            go_roundw
            case rel => exact ⟨done ++ [[2, m]], cnt', HNX.out⟩
            case measure => exact Nat.lt_of_le_of_lt (Nat.le_of_eq HNX.out.rng.left_eq) (by rw [HR.out.rng.left_eq]; exact hlt)

end Go.Proofs.YtdmplinncaffpaaDoor
