/- What parterreref3.NumbersOf answers at a graph: as strong.Numbers. -/
import Derived.Test.YtllfccfpoigigaaNumbers
namespace Go.Proofs.Ytllfccfpoigigaa
open Go.RowKit

/-- What is kept of an answer's numbers: none was seen, or just this one. -/
def Kept (S : Int → Int → Prop) (c v : Int) : Prop := (v = -1 ∧ ∀ m, ¬ S c m) ∨ (0 ≤ v ∧ S c v ∧ ∀ m, S c m → m = v)
theorem Kept.other {S T : Int → Int → Prop} {c v x m0 : Int} (h : Kept S c v) (hT : ∀ c m, T c m ↔ S c m ∨ (c = x ∧ m = m0)) (hc : c ≠ x) : Kept T c v := by
  have h1 : ∀ m, T c m ↔ S c m := fun m => by rw [hT]; simp [hc]
  rcases h with ⟨h2, h3⟩ | ⟨h2, h3, h4⟩
  · exact .inl ⟨h2, fun m hm => h3 m ((h1 m).1 hm)⟩
  · exact .inr ⟨h2, (h1 v).2 h3, fun m hm => h4 m ((h1 m).1 hm)⟩
theorem Kept.same {S T : Int → Int → Prop} {v x m0 : Int} (h : Kept S x v) (hT : ∀ c m, T c m ↔ S c m ∨ (c = x ∧ m = m0)) (h0 : 0 ≤ m0) (hv : v < 0 ∨ v = m0) : Kept T x m0 := by
  refine .inr ⟨h0, (hT _ _).2 (.inr ⟨rfl, rfl⟩), fun m hm => ?_⟩
  rcases (hT _ _).1 hm with h1 | ⟨-, h1⟩
  · rcases h with ⟨h2, h3⟩ | ⟨h2, h3, h4⟩
    · exact absurd h1 (h3 m)
    · rw [h4 m h1]; omega
  · exact h1
theorem Kept.congr {S T : Int → Int → Prop} {c v : Int} (h : Kept S c v) (hT : ∀ c m, T c m ↔ S c m) : Kept T c v := by
  rcases h with ⟨h2, h3⟩ | ⟨h2, h3, h4⟩
  · exact .inl ⟨h2, fun m hm => h3 m ((hT c m).1 hm)⟩
  · exact .inr ⟨h2, (hT c v).2 h3, fun m hm => h4 m ((hT c m).1 hm)⟩
theorem Kept.is {S : Int → Int → Prop} {c v m : Int} (h : Kept S c v) (hm : S c m) : m = v := by
  rcases h with ⟨h2, h3⟩ | ⟨h2, h3, h4⟩
  · exact absurd hm (h3 m)
  · exact h4 m hm
theorem kept_out {xs : List Int} {n : Nat} {c v : Int} (h : Kept (SeenO xs n n) c v) : (if v < 0 then 0 else v) = outOf xs n c := by
  unfold outOf
  rcases h with ⟨h2, h3⟩ | ⟨h2, h3, h4⟩
  · rw [dif_neg (fun ⟨m, hm⟩ => h3 m hm), if_pos (by omega)]
  · rw [dif_pos ⟨_, h3⟩, if_neg (by omega)]
    exact (h4 _ (Classical.choose_spec (p := fun m => SeenO xs n n c m) ⟨_, h3⟩)).symm
theorem kept_noClash {xs : List Int} {n : Nat} (hm : IsTab n xs) {d p q : Int} (h2 : Kept (SeenO xs n n) 2 d) (h1 : Kept (SeenO xs n n) 1 p) (h0 : Kept (SeenO xs n n) 0 q) : ¬ Clash xs n := by
  rintro ⟨c, m, m', hS, hS', hne⟩
  rcases (seenO_c hm hS).1 with rfl | rfl | rfl
  · exact hne ((h0.is hS).trans (h0.is hS').symm)
  · exact hne ((h1.is hS).trans (h1.is hS').symm)
  · exact hne ((h2.is hS).trans (h2.is hS').symm)
theorem seenAt_all {xs : List Int} {n i j : Nat} {c m : Int} (hi : i < n) (hj : j ≤ i) (h : SeenAt xs n i j c m) : SeenO xs n n c m := by
  rcases h with (⟨p, h1, h2⟩ | ⟨p, q, h1, h2, h3⟩) | ⟨h1, h2⟩ | ⟨q, h1, h2⟩
  · exact .inl ⟨p, by omega, h2⟩
  · exact .inr ⟨p, q, by omega, h2, h3⟩
  · exact .inl ⟨i, hi, h1, h2⟩
  · exact .inr ⟨i, q, hi, by omega, h2⟩
theorem seenAt_zero {xs : List Int} {n i : Nat} (c m : Int) : SeenAt xs n i 0 c m ↔ SeenO xs n i c m ∨ (c = 2 ∧ m = comTo xs n i i n) := by
  unfold SeenAt
  constructor
  · rintro (h | h | ⟨q, h, _⟩)
    · exact .inl h
    · exact .inr h
    · omega
  · rintro (h | h)
    · exact .inl h
    · exact .inr (.inl h)
theorem seenAt_step {xs : List Int} {n i j : Nat} (c m : Int) : SeenAt xs n i (j + 1) c m ↔ SeenAt xs n i j c m ∨ (c = nth xs (i * n + j) ∧ m = comTo xs n i j n) := by
  unfold SeenAt
  constructor
  · rintro (h | h | ⟨q, h, h2⟩)
    · exact .inl (.inl h)
    · exact .inl (.inr (.inl h))
    · rcases Nat.lt_succ_iff_lt_or_eq.1 h with h' | rfl
      · exact .inl (.inr (.inr ⟨q, h', h2⟩))
      · exact .inr h2
  · rintro ((h | h | ⟨q, h, h2⟩) | h)
    · exact .inl h
    · exact .inr (.inl h)
    · exact .inr (.inr ⟨q, by omega, h2⟩)
    · exact .inr (.inr ⟨j, by omega, h⟩)
theorem kept_none {xs : List Int} {n : Nat} (c : Int) : Kept (SeenO xs n 0) c (-1) :=
  .inl ⟨rfl, fun m => by rintro (⟨p, h, _⟩ | ⟨p, q, h, _⟩) <;> omega⟩

/-- Under way. -/
structure NoSt (w wr : World) (r n len b off cap : Nat) (xs : List Int) : Prop where
  ext : Ext w wr
  box : Blk wr r #[.int .i64 n, .slice (some ⟨b, off, none⟩) len cap] 30
  res : Blk wr (r + 1) #[.int .i64 0, .int .i64 0, .int .i64 0, .int .i64 0] 23
  tab : TabAt wr n len b off xs
  r0 : w.heap.size ≤ r
theorem NoSt.carry {w wr w' : World} {r n len b off cap : Nat} {xs : List Int} (h : NoSt w wr r n len b off cap xs) (hx : Ext wr w') : NoSt w w' r n len b off cap xs :=
  ⟨h.ext.trans hx, h.box.ext hx, h.res.ext hx, h.tab.ext hx, h.r0⟩
/-- The result's stores. -/
theorem NoSt.out {w wr : World} {r n len b off cap : Nat} {xs : List Int} (h : NoSt w wr r n len b off cap xs) (v0 v1 v2 v3 : Value) :
    Blk ((((wr.setCell ⟨r + 1, 0, none⟩ v0).setCell ⟨r + 1, 1, none⟩ v1).setCell ⟨r + 1, 2, none⟩ v2).setCell ⟨r + 1, 3, none⟩ v3) (r + 1) #[v0, v1, v2, v3] 23 ∧
      Ext w ((((wr.setCell ⟨r + 1, 0, none⟩ v0).setCell ⟨r + 1, 1, none⟩ v1).setCell ⟨r + 1, 2, none⟩ v2).setCell ⟨r + 1, 3, none⟩ v3) := by
  have h0 := h.r0
  exact ⟨(((h.res.set 0 v0).set 1 v1).set 2 v2).set 3 v3, (((h.ext.set (by simp; omega) v0).set (by simp; omega) v1).set (by simp; omega) v2).set (by simp; omega) v3⟩

set_option maxHeartbeats 8000000 in
set_option maxRecDepth 100000 in
theorem numbersOf_ok (n : Nat) (ao : Option Addr) (len cap : Nat) (xs : List Int) (w : World) (hl : xs.length = len) (hr : Reads w ao (ints xs)) (hm : IsTab n xs) :
    Calls Try.prog 17 #[.agg #[.int .i64 n, .slice ao len cap]] w fun e w' =>
      (Clash xs n → e = .returned (.tuple #[.agg #[.int .i64 0, .int .i64 0, .int .i64 0, .int .i64 0], .int .i64 4])) ∧
      (¬ Clash xs n → e = .returned (.tuple #[.agg #[.int .i64 n, .int .i64 (outOf xs n 2), .int .i64 (outOf xs n 1), .int .i64 (outOf xs n 0)], .int .i64 0])) ∧ Ext w w' := by
  have hl2 : len = n * n := by rw [← hl]; exact hm.len
  obtain ⟨b, off, rfl, ht⟩ := tabAt_of hm hr
  rw [← hl2] at ht
  have h24 := hm.big
  have h1 := hm.one
  have HCM : Hid (∀ i j w', i < n → j < n → TabAt w' n len b off xs → Calls Try.prog 28 #[.agg #[.int .i64 n, .slice (some ⟨b, off, none⟩) len cap], .int .i64 i, .int .i64 j] w' fun e w'' => e = .returned (.int .i64 (comTo xs n i j n)) ∧ Ext w' w'') :=
    fun i j w' hi hj ht => commonTo_at n len b off cap i j xs w' hi hj ht
  have HT := Lib.hid ht
  have HM := Lib.hid hm
  have HL2 := Lib.hid hl2
  have hq := sq_bound h24
  rw [← hl2] at hq
  clear ht hm hr hl hl2
  go_enter Try.func17, Try.ntmps17
  go_wp2
  obtain ⟨r, hr⟩ : ∃ r, r = w.heap.size := ⟨_, rfl⟩
  have H0 : Hid (NoSt w ((w.alloc (.cells #[.int .i64 n, .slice (some ⟨b, off, none⟩) len cap] 30)).alloc (.cells #[.int .i64 0, .int .i64 0, .int .i64 0, .int .i64 0] 23)) r n len b off cap xs) :=
    ⟨((Ext.refl w).alloc _).alloc _, by rw [hr]; exact (Blk.new w _ _).alloc _, Blk.new' _ _ _ (by simp [hr]), HT.out.ext (((Ext.refl w).alloc _).alloc _), by omega⟩
  obtain ⟨w1, hw1⟩ : ∃ w1, w1 = (w.alloc (.cells #[.int .i64 n, .slice (some ⟨b, off, none⟩) len cap] 30)).alloc (.cells #[.int .i64 0, .int .i64 0, .int .i64 0, .int .i64 0] 23) := ⟨_, rfl⟩
  rw [← hw1] at H0 ⊢
  rw [← hr]
  clear hw1 hr
  go_loopw [5, 6, 7, 8] (fun dg p q a wr => ∃ (i : Nat) (dv pv qv : Int), i ≤ n ∧ a = .int .i64 i ∧ dg = .int .i64 dv ∧ p = .int .i64 pv ∧ q = .int .i64 qv ∧ NoSt w wr r n len b off cap xs ∧
    Hid ((i = 0 ∨ 0 ≤ dv) ∧ Kept (SeenO xs n i) 2 (if i = 0 then -1 else dv) ∧ Kept (SeenO xs n i) 1 pv ∧ Kept (SeenO xs n i) 0 qv)) (fun _ _ _ a _ => n - (intOf a).toNat)
  case atStart => exact ⟨0, 0, -1, -1, by omega, rfl, rfl, rfl, rfl, H0.out, .inl rfl, kept_none _, kept_none _, kept_none _⟩
  case round =>
    obtain ⟨i, dv, pv, qv, hi, rfl, rfl, rfl, rfl, hst, HK⟩ := hrel
    have HI := Lib.hid hst
    clear hst H0
    by_cases hin : i < n
    · obtain ⟨wo, rfl⟩ : ∃ wo : World, wo = wr := ⟨_, rfl⟩
      go_wp2
      go_loopw [9, 10] (fun y a wr => ∃ j : Nat, j ≤ n ∧ a = .int .i64 j ∧ y = .int .i64 (comTo xs n i i j) ∧ NoSt w wr r n len b off cap xs) (fun _ a _ => n - (intOf a).toNat)
      case atStart => exact ⟨0, by omega, rfl, rfl, HI.out⟩
      case round =>
        obtain ⟨j, hj, rfl, rfl, hst⟩ := hrel
        have HJ := Lib.hid hst
        clear hst HI
        obtain ⟨k0, k1⟩ := HJ.out.box.two
        by_cases hjn : j < n
        · have p1 := place_lt hin hjn
          have s1 := nth_bit HM.out _ p1
          rw [← HL2.out] at p1
          have c1 := HJ.out.tab.cells _ p1
          have hbn := comTo_bound HM.out i i hin hin j hj
          have HS : Hid (comTo xs n i i (j + 1) = comTo xs n i i j + nth xs (i * n + j)) := by
            show _ = _
            rw [comTo]
            rcases s1 with h | h <;> rw [h] <;> simp
          obtain ⟨u, hu⟩ : ∃ u, i * n = u := ⟨_, rfl⟩
          have hu' : (i : Int) * (n : Int) = u := by rw [← hu, Int.natCast_mul]
          obtain ⟨x, hx⟩ : ∃ x, nth xs (i * n + j) = x := ⟨_, rfl⟩
          obtain ⟨s, hs⟩ : ∃ s, comTo xs n i i j = s := ⟨_, rfl⟩
          rw [hs] at hbn HS ⊢
          rw [hx] at c1 s1 HS
          rw [hu] at p1 c1
          obtain ⟨hb0, hb1⟩ := hbn
          have hx01 : 0 ≤ x ∧ x ≤ 1 := by omega
          obtain ⟨hx0, hx1⟩ := hx01
          clear hx hu hs s1
          go_wp2
          go_roundw
          case rel => exact ⟨j + 1, by omega, by go_num, by rw [HS.out], HJ.out⟩
          case measure => simp [intOf] <;> omega
        · obtain rfl : n = j := by omega
          obtain ⟨cm, hcm⟩ : ∃ cm, comTo xs n i i n = cm := ⟨_, rfl⟩
          have hcb := comTo_bound HM.out i i hin hin n (Nat.le_refl _)
          have HZ : Hid (∀ c m, SeenAt xs n i 0 c m ↔ SeenO xs n i c m ∨ (c = 2 ∧ m = cm)) := fun c m => by rw [← hcm]; exact seenAt_zero c m
          rw [hcm] at hcb ⊢
          obtain ⟨hcb0, hcb1⟩ := hcb
          clear hcm
          have hgo : (0 < i ∧ dv ≠ cm) ∨ ¬ (0 < i ∧ dv ≠ cm) := Classical.em _
          rcases hgo with ⟨hi0, hne⟩ | hgo
          · have HCL : Hid (Clash xs n) := by
              have h2 := HK.out.2.1
              rw [if_neg (by omega)] at h2
              have h3 : SeenO xs n i 2 dv := by
                rcases h2 with ⟨h4, -⟩ | ⟨-, h4, -⟩
                · have := HK.out.1; omega
                · exact h4
              exact ⟨2, dv, cm, seenAt_all hin (Nat.zero_le _) ((HZ.out _ _).2 (.inl h3)), seenAt_all hin (Nat.zero_le _) ((HZ.out _ _).2 (.inr ⟨rfl, rfl⟩)), hne⟩
            have b1 : (cm != dv) = true := by rw [bne_iff_ne]; omega
            have q2 := HJ.out.res.four
            have q3 := HJ.out.res.f 0
            have q4 := HJ.out.res.f 1
            have q5 := HJ.out.res.f 2
            have q6 := HJ.out.res.f 3
            clear hne
            go_wp2
            have HO := Lib.hid (HJ.out.out (.int .i64 0) (.int .i64 0) (.int .i64 0) (.int .i64 0))
            obtain ⟨e0, e1, e2, e3⟩ := HO.out.1.four
            exact bodyPost_ret (v := .tuple #[.agg #[.int .i64 0, .int .i64 0, .int .i64 0, .int .i64 0], .int .i64 4]) (by simp [results, Try.results17, go_sem, e0, e1, e2, e3]) rfl ⟨fun _ => rfl, fun h => absurd HCL.out h, HO.out.2⟩
          · have HK2 : Hid (Kept (SeenAt xs n i 0) 2 cm ∧ Kept (SeenAt xs n i 0) 1 pv ∧ Kept (SeenAt xs n i 0) 0 qv) :=
              ⟨HK.out.2.1.same HZ.out hcb0 (by by_cases h : i = 0
                                               · rw [if_pos h]; left; omega
                                               · rw [if_neg h]; right; omega), HK.out.2.2.1.other HZ.out (by omega), HK.out.2.2.2.other HZ.out (by omega)⟩
            have hgo2 : (i = 0) ∨ (0 < i ∧ cm = dv) := by omega
            clear HK HZ hgo
            have hwalk : (¬ 0 < i) ∨ (0 < i ∧ (cm != dv) = false) := by
              rcases hgo2 with h | ⟨h, h2⟩
              · left; omega
              · right; exact ⟨h, by rw [h2]; simp⟩
            clear hgo2
            rcases hwalk with b1 | ⟨b1, b2⟩
            all_goals
              obtain ⟨wq, rfl⟩ : ∃ wq : World, wq = wr := ⟨_, rfl⟩
              go_wp2
              go_loopw [6, 7, 11] (fun p q a wr => ∃ (j : Nat) (pv qv : Int), j ≤ i ∧ a = .int .i64 j ∧ p = .int .i64 pv ∧ q = .int .i64 qv ∧ NoSt w wr r n len b off cap xs ∧
                Hid (Kept (SeenAt xs n i j) 2 cm ∧ Kept (SeenAt xs n i j) 1 pv ∧ Kept (SeenAt xs n i j) 0 qv)) (fun _ _ a _ => i - (intOf a).toNat)
              case atStart => exact ⟨0, pv, qv, by omega, rfl, rfl, rfl, HJ.out, HK2.out⟩
              case round =>
                obtain ⟨j, pv, qv, hj, rfl, rfl, rfl, hst, HK3⟩ := hrel
                have HJ2 := Lib.hid hst
                clear hst HJ HK2 b1 k0 k1
                obtain ⟨k0, k1⟩ := HJ2.out.box.two
                by_cases hji : j < i
                · have HCC := Lib.hid (HCM.out i j wr hin (by omega) HJ2.out.tab)
                  have h2b := comTo_bound HM.out i j hin (by omega) n (Nat.le_refl _)
                  have HZ : Hid (∀ c m, SeenAt xs n i (j + 1) c m ↔ SeenAt xs n i j c m ∨ (c = nth xs (i * n + j) ∧ m = comTo xs n i j n)) := fun c m => seenAt_step c m
                  obtain ⟨cm2, hcm2⟩ : ∃ cm2, comTo xs n i j n = cm2 := ⟨_, rfl⟩
                  rw [hcm2] at HCC h2b HZ
                  have p1 := place_lt hin (show j < n by omega)
                  have s1 := nth_bit HM.out _ p1
                  rw [← HL2.out] at p1
                  have c1 := HJ2.out.tab.cells _ p1
                  have hbl := HJ2.out.tab.lt
                  obtain ⟨u, hu⟩ : ∃ u, i * n = u := ⟨_, rfl⟩
                  have hu' : (i : Int) * (n : Int) = u := by rw [← hu, Int.natCast_mul]
                  obtain ⟨x, hx⟩ : ∃ x, nth xs (i * n + j) = x := ⟨_, rfl⟩
                  rw [hx] at c1 s1 HZ
                  rw [hu] at p1 c1
                  obtain ⟨h20, h21⟩ := h2b
                  clear hx hu hcm2
                  rcases s1 with rfl | rfl
                  · skip
                    by_cases hv0 : qv < 0
                    · have b2 : decide ((0 : Int) ≤ qv) = false := decide_eq_false (by omega)
                      have HC2 : Hid (qv < 0 ∨ qv = cm2) := .inl hv0
                      go_wp2_with (go_at_call 28; refine Calls.mono HCC.out ?_; rintro e w2 ⟨rfl, hx2⟩; have HX2 := Lib.hid hx2; have k2 := (HJ2.out.box.ext hx2).two; have c2 := (hx2.cell hbl).trans c1; have q2 := (HJ2.out.res.ext hx2).four; have q3 := (HJ2.out.res.ext hx2).f 0; have q4 := (HJ2.out.res.ext hx2).f 1; have q5 := (HJ2.out.res.ext hx2).f 2; have q6 := (HJ2.out.res.ext hx2).f 3; clear hx2)
                      go_roundw
                      case rel => exact ⟨j + 1, pv, cm2, by omega, by go_num, rfl, rfl, HJ2.out.carry HX2.out, HK3.out.1.other HZ.out (by omega), HK3.out.2.1.other HZ.out (by omega), HK3.out.2.2.same HZ.out h20 HC2.out⟩
                      case measure => simp [intOf] <;> omega
                    · have b2 : decide ((0 : Int) ≤ qv) = true := decide_eq_true (by omega)
                      by_cases hne : qv = cm2
                      · have HC2 : Hid (qv < 0 ∨ qv = cm2) := .inr hne
                        have b3 : (qv != cm2) = false := by rw [hne]; simp
                        clear hne
                        go_wp2_with (go_at_call 28; refine Calls.mono HCC.out ?_; rintro e w2 ⟨rfl, hx2⟩; have HX2 := Lib.hid hx2; have k2 := (HJ2.out.box.ext hx2).two; have c2 := (hx2.cell hbl).trans c1; have q2 := (HJ2.out.res.ext hx2).four; have q3 := (HJ2.out.res.ext hx2).f 0; have q4 := (HJ2.out.res.ext hx2).f 1; have q5 := (HJ2.out.res.ext hx2).f 2; have q6 := (HJ2.out.res.ext hx2).f 3; clear hx2)
                        go_roundw
                        case rel => exact ⟨j + 1, pv, cm2, by omega, by go_num, rfl, rfl, HJ2.out.carry HX2.out, HK3.out.1.other HZ.out (by omega), HK3.out.2.1.other HZ.out (by omega), HK3.out.2.2.same HZ.out h20 HC2.out⟩
                        case measure => simp [intOf] <;> omega
                      · skip
                        have HCL : Hid (Clash xs n) := ⟨0, qv, cm2, seenAt_all hin (show j + 1 ≤ i by omega) ((HZ.out _ _).2 (.inl (by rcases HK3.out.2.2 with ⟨h4, -⟩ | ⟨-, h4, -⟩; (exact absurd h4 (by omega)); exact h4))), seenAt_all hin (show j + 1 ≤ i by omega) ((HZ.out _ _).2 (.inr ⟨rfl, rfl⟩)), hne⟩
                        have b3 : (qv != cm2) = true := by rw [bne_iff_ne]; exact hne
                        clear hne HZ HK3
                        go_wp2_with (go_at_call 28; refine Calls.mono HCC.out ?_; rintro e w2 ⟨rfl, hx2⟩; have HX2 := Lib.hid hx2; have k2 := (HJ2.out.box.ext hx2).two; have c2 := (hx2.cell hbl).trans c1; have q2 := (HJ2.out.res.ext hx2).four; have q3 := (HJ2.out.res.ext hx2).f 0; have q4 := (HJ2.out.res.ext hx2).f 1; have q5 := (HJ2.out.res.ext hx2).f 2; have q6 := (HJ2.out.res.ext hx2).f 3; clear hx2)
                        have HO := Lib.hid ((HJ2.out.carry HX2.out).out (.int .i64 0) (.int .i64 0) (.int .i64 0) (.int .i64 0))
                        obtain ⟨e0, e1, e2, e3⟩ := HO.out.1.four
                        exact bodyPost_ret (v := .tuple #[.agg #[.int .i64 0, .int .i64 0, .int .i64 0, .int .i64 0], .int .i64 4]) (by simp [results, Try.results17, go_sem, e0, e1, e2, e3]) rfl ⟨fun _ => rfl, fun h => absurd HCL.out h, HO.out.2⟩
                  · skip
                    by_cases hv0 : pv < 0
                    · have b2 : decide ((0 : Int) ≤ pv) = false := decide_eq_false (by omega)
                      have HC2 : Hid (pv < 0 ∨ pv = cm2) := .inl hv0
                      go_wp2_with (go_at_call 28; refine Calls.mono HCC.out ?_; rintro e w2 ⟨rfl, hx2⟩; have HX2 := Lib.hid hx2; have k2 := (HJ2.out.box.ext hx2).two; have c2 := (hx2.cell hbl).trans c1; have q2 := (HJ2.out.res.ext hx2).four; have q3 := (HJ2.out.res.ext hx2).f 0; have q4 := (HJ2.out.res.ext hx2).f 1; have q5 := (HJ2.out.res.ext hx2).f 2; have q6 := (HJ2.out.res.ext hx2).f 3; clear hx2)
                      go_roundw
                      case rel => exact ⟨j + 1, cm2, qv, by omega, by go_num, rfl, rfl, HJ2.out.carry HX2.out, HK3.out.1.other HZ.out (by omega), HK3.out.2.1.same HZ.out h20 HC2.out, HK3.out.2.2.other HZ.out (by omega)⟩
                      case measure => simp [intOf] <;> omega
                    · have b2 : decide ((0 : Int) ≤ pv) = true := decide_eq_true (by omega)
                      by_cases hne : pv = cm2
                      · have HC2 : Hid (pv < 0 ∨ pv = cm2) := .inr hne
                        have b3 : (pv != cm2) = false := by rw [hne]; simp
                        clear hne
                        go_wp2_with (go_at_call 28; refine Calls.mono HCC.out ?_; rintro e w2 ⟨rfl, hx2⟩; have HX2 := Lib.hid hx2; have k2 := (HJ2.out.box.ext hx2).two; have c2 := (hx2.cell hbl).trans c1; have q2 := (HJ2.out.res.ext hx2).four; have q3 := (HJ2.out.res.ext hx2).f 0; have q4 := (HJ2.out.res.ext hx2).f 1; have q5 := (HJ2.out.res.ext hx2).f 2; have q6 := (HJ2.out.res.ext hx2).f 3; clear hx2)
                        go_roundw
                        case rel => exact ⟨j + 1, cm2, qv, by omega, by go_num, rfl, rfl, HJ2.out.carry HX2.out, HK3.out.1.other HZ.out (by omega), HK3.out.2.1.same HZ.out h20 HC2.out, HK3.out.2.2.other HZ.out (by omega)⟩
                        case measure => simp [intOf] <;> omega
                      · skip
                        have HCL : Hid (Clash xs n) := ⟨1, pv, cm2, seenAt_all hin (show j + 1 ≤ i by omega) ((HZ.out _ _).2 (.inl (by rcases HK3.out.2.1 with ⟨h4, -⟩ | ⟨-, h4, -⟩; (exact absurd h4 (by omega)); exact h4))), seenAt_all hin (show j + 1 ≤ i by omega) ((HZ.out _ _).2 (.inr ⟨rfl, rfl⟩)), hne⟩
                        have b3 : (pv != cm2) = true := by rw [bne_iff_ne]; exact hne
                        clear hne HZ HK3
                        go_wp2_with (go_at_call 28; refine Calls.mono HCC.out ?_; rintro e w2 ⟨rfl, hx2⟩; have HX2 := Lib.hid hx2; have k2 := (HJ2.out.box.ext hx2).two; have c2 := (hx2.cell hbl).trans c1; have q2 := (HJ2.out.res.ext hx2).four; have q3 := (HJ2.out.res.ext hx2).f 0; have q4 := (HJ2.out.res.ext hx2).f 1; have q5 := (HJ2.out.res.ext hx2).f 2; have q6 := (HJ2.out.res.ext hx2).f 3; clear hx2)
                        have HO := Lib.hid ((HJ2.out.carry HX2.out).out (.int .i64 0) (.int .i64 0) (.int .i64 0) (.int .i64 0))
                        obtain ⟨e0, e1, e2, e3⟩ := HO.out.1.four
                        exact bodyPost_ret (v := .tuple #[.agg #[.int .i64 0, .int .i64 0, .int .i64 0, .int .i64 0], .int .i64 4]) (by simp [results, Try.results17, go_sem, e0, e1, e2, e3]) rfl ⟨fun _ => rfl, fun h => absurd HCL.out h, HO.out.2⟩
                · obtain rfl : j = i := by omega
                  go_wp2
                  go_roundw
                  case rel => exact ⟨j + 1, cm, pv, qv, by omega, by go_num, rfl, rfl, rfl, HJ2.out, .inr hcb0, by rw [if_neg (by omega)]; exact HK3.out.1.congr (fun c m => seen_succ.symm), HK3.out.2.1.congr (fun c m => seen_succ.symm), HK3.out.2.2.congr (fun c m => seen_succ.symm)⟩
                  case measure => simp [intOf] <;> omega
    · obtain rfl : n = i := by omega
      have HK2 : Hid (Kept (SeenO xs n n) 2 dv ∧ (if dv < 0 then 0 else dv) = outOf xs n 2 ∧ (if pv < 0 then 0 else pv) = outOf xs n 1 ∧ (if qv < 0 then 0 else qv) = outOf xs n 0) := by
        have h2 := HK.out.2.1
        rw [if_neg (by omega)] at h2
        exact ⟨h2, kept_out h2, kept_out HK.out.2.2.1, kept_out HK.out.2.2.2⟩
      have HNC := Lib.hid (kept_noClash HM.out HK2.out.1 HK.out.2.2.1 HK.out.2.2.2)
      have hdv : 0 ≤ dv := by have := HK.out.1; omega
      have HV2 : Hid (outOf xs n 2 = dv) := by have h := HK2.out.2.1; rw [if_neg (by omega)] at h; exact h.symm
      have HV1 := Lib.hid HK2.out.2.2.1
      have HV0 := Lib.hid HK2.out.2.2.2
      clear HK2 HK
      have q2 := HI.out.res.four
      have q3 := HI.out.res.f 0
      have q4 := HI.out.res.f 1
      have q5 := HI.out.res.f 2
      have q6 := HI.out.res.f 3
      by_cases hp : pv < 0
      · have d1 : decide (pv < 0) = true := decide_eq_true hp
        rw [if_pos hp] at HV1
        by_cases hq0 : qv < 0
        · have d2 : decide (qv < 0) = true := decide_eq_true hq0
          rw [if_pos hq0] at HV0
          go_wp2
          have HO := Lib.hid (HI.out.out (.int .i64 n) (.int .i64 dv) (.int .i64 0) (.int .i64 0))
          obtain ⟨e0, e1, e2, e3⟩ := HO.out.1.four
          exact bodyPost_ret (v := .tuple #[.agg #[.int .i64 n, .int .i64 dv, .int .i64 0, .int .i64 0], .int .i64 0]) (by simp [results, Try.results17, go_sem, e0, e1, e2, e3]) rfl ⟨fun h => absurd h HNC.out, fun _ => by rw [HV2.out, ← HV1.out, ← HV0.out], HO.out.2⟩
        · have d2 : decide (qv < 0) = false := decide_eq_false hq0
          rw [if_neg hq0] at HV0
          go_wp2
          have HO := Lib.hid (HI.out.out (.int .i64 n) (.int .i64 dv) (.int .i64 0) (.int .i64 qv))
          obtain ⟨e0, e1, e2, e3⟩ := HO.out.1.four
          exact bodyPost_ret (v := .tuple #[.agg #[.int .i64 n, .int .i64 dv, .int .i64 0, .int .i64 qv], .int .i64 0]) (by simp [results, Try.results17, go_sem, e0, e1, e2, e3]) rfl ⟨fun h => absurd h HNC.out, fun _ => by rw [HV2.out, ← HV1.out, ← HV0.out], HO.out.2⟩
      · have d1 : decide (pv < 0) = false := decide_eq_false hp
        rw [if_neg hp] at HV1
        by_cases hq0 : qv < 0
        · have d2 : decide (qv < 0) = true := decide_eq_true hq0
          rw [if_pos hq0] at HV0
          go_wp2
          have HO := Lib.hid (HI.out.out (.int .i64 n) (.int .i64 dv) (.int .i64 pv) (.int .i64 0))
          obtain ⟨e0, e1, e2, e3⟩ := HO.out.1.four
          exact bodyPost_ret (v := .tuple #[.agg #[.int .i64 n, .int .i64 dv, .int .i64 pv, .int .i64 0], .int .i64 0]) (by simp [results, Try.results17, go_sem, e0, e1, e2, e3]) rfl ⟨fun h => absurd h HNC.out, fun _ => by rw [HV2.out, ← HV1.out, ← HV0.out], HO.out.2⟩
        · have d2 : decide (qv < 0) = false := decide_eq_false hq0
          rw [if_neg hq0] at HV0
          go_wp2
          have HO := Lib.hid (HI.out.out (.int .i64 n) (.int .i64 dv) (.int .i64 pv) (.int .i64 qv))
          obtain ⟨e0, e1, e2, e3⟩ := HO.out.1.four
          exact bodyPost_ret (v := .tuple #[.agg #[.int .i64 n, .int .i64 dv, .int .i64 pv, .int .i64 qv], .int .i64 0]) (by simp [results, Try.results17, go_sem, e0, e1, e2, e3]) rfl ⟨fun h => absurd h HNC.out, fun _ => by rw [HV2.out, ← HV1.out, ← HV0.out], HO.out.2⟩

end Go.Proofs.Ytllfccfpoigigaa
