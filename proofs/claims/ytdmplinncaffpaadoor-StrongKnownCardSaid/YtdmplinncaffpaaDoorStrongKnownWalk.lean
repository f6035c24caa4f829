/- What StrongKnown returns. Condition: the variable of primes holds them. -/
import Derived.Test.YtdmplinncaffpaaDoorKnownPaley
import Derived.Test.YtdmplinncaffpaaDoorKnownLatin
import Derived.Test.YtdmplinncaffpaaDoorTriangleNo
import Derived.Test.YtdmplinncaffpaaDoorArgSquare
import Derived.Test.YtdmplinncaffpaaDoorArgField
import Derived.Deep.CutRange
namespace Go.Proofs.YtdmplinncaffpaaDoor
open Go.RowKit

/-- The world of the walk: the square that came in, and the graph at hand. -/
structure SkSt (w wr : World) (m : Int) (ao : Option Addr) (len cap b : Nat) : Prop where
  ext : Ext w wr
  b0 : w.heap.size + 2 ≤ b
  sb : Blk wr (w.heap.size + 1) #[.int .i64 m, .slice ao len cap] 26
  gb : ∃ u v, Blk wr b #[u, v] 26
theorem SkSt.carry {w wr w' : World} {m : Int} {ao : Option Addr} {len cap b : Nat} (h : SkSt w wr m ao len cap b) (hx : Ext wr w') : SkSt w w' m ao len cap b :=
  ⟨h.ext.trans hx, h.b0, h.sb.ext hx, by obtain ⟨u, v, hb⟩ := h.gb; exact ⟨u, v, hb.ext hx⟩⟩

theorem SkSt.put {w wr : World} {m : Int} {ao : Option Addr} {len cap b : Nat} (h : SkSt w wr m ao len cap b) (u v : Value) : SkSt w ((wr.setCell ⟨b, 0, none⟩ u).setCell ⟨b, 1, none⟩ v) m ao len cap b ∧ Blk ((wr.setCell ⟨b, 0, none⟩ u).setCell ⟨b, 1, none⟩ v) b #[u, v] 26 := by
  have h0 := h.b0
  obtain ⟨x, y, hb⟩ := h.gb
  have hb2 : Blk ((wr.setCell ⟨b, 0, none⟩ u).setCell ⟨b, 1, none⟩ v) b #[u, v] 26 := (hb.set 0 u).set 1 v
  refine ⟨⟨(h.ext.set (show w.heap.size ≤ b by omega) u).set (show w.heap.size ≤ b by omega) v, h0, (h.sb.beside _ (show b ≠ w.heap.size + 1 by omega) u).beside _ (show b ≠ w.heap.size + 1 by omega) v, u, v, hb2⟩, hb2⟩

/-- A graph's numbers, when they are asked. -/
def NumsAt (xs : List Int) (m : Int) (ao : Option Addr) (len cap : Nat) (d l : Int) (F : Int → Prop) : Prop :=
  ∀ w3, Reads w3 ao (ints xs) → Calls Tryd.prog 14 #[.agg #[.int .i64 m, .slice ao len cap]] w3 fun e w4 => ∃ a f : Int, e = .returned (.tuple #[.agg #[.int .i64 a, .int .i64 d, .int .i64 l, .int .i64 f], .int .i64 0]) ∧ F f ∧ Ext w3 w4

theorem nums_of {n : Nat} (ao : Option Addr) (cap : Nat) {xs : List Int} {d l m : Int} {far : Prop} (h : KnownTab n xs d l m far) : NumsAt xs n ao (n * n) cap d l (fun f => far → f = m) := by
  intro w3 hx
  refine (numbers_ok n ao (n * n) cap xs w3 h.tab.len hx h.tab h.sym).mono fun e w4 he => ?_
  obtain ⟨_, he, hx4⟩ := he
  have := he h.no
  rw [h.deg, h.near] at this
  exact ⟨n, _, this, h.far, hx4⟩

/-- What a maker of a graph answers. -/
def Makes (f : FuncId) (args : Array Value) (w : World) (d l : Int → Int) (F : Int → Int → Prop) (ok : Int → Prop) (ask : Int → Prop) : Prop :=
  Calls Tryd.prog f args w fun e w' => ∃ (m : Int) (ao : Option Addr) (len cap : Nat) (c : Int), e = .returned (.tuple #[.agg #[.int .i64 m, .slice ao len cap], .int .i64 c]) ∧ Ext w w' ∧
    (c = 0 → ask m → ok m ∧ ∃ xs, RowOf 3 w' w.heap.size ao len cap (ints xs) ∧ NumsAt xs m ao len cap (d m) (l m) (F m))

set_option maxHeartbeats 4000000 in
set_option maxRecDepth 100000 in
theorem strongKnown_go (p k : Int) (fo : Option Addr) (fn fcap : Nat) (n m : Int) (ao : Option Addr) (len cap : Nat) (w : World)
    (hpal : ∀ w', Ext w w' → Makes 5 #[.agg #[.int .i64 p, .int .i64 k, .slice fo fn fcap]] w' (fun q => (q - 1) / 2) (fun q => (q - 5) / 4) (fun q f => f = (q - 1) / 4) (fun q => q = 5 ∨ q = 9 ∨ q = 13 ∨ q = 17) (fun _ => True))
    (htri : ∀ w', Ext w w' → Makes 8 #[.int .i64 n] w' (fun _ => 2 * (n - 2)) (fun _ => n - 2) (fun _ f => f = 4) (fun _ => n ≤ 7) (fun _ => 3 < n))
    (hlat : ∀ w', Ext w w' → Makes 10 #[.agg #[.int .i64 m, .slice ao len cap]] w' (fun _ => 3 * (m - 1)) (fun _ => m) (fun _ f => f = 6 ∨ m = 3) (fun _ => m ≤ 4) (fun _ => 3 ≤ m)) :
    Calls Tryd.prog 4 #[.agg #[.int .i64 p, .int .i64 k, .slice fo fn fcap], .int .i64 n, .agg #[.int .i64 m, .slice ao len cap]] w fun e w' => e = .returned (.bool true) ∧ Ext w w' := by
  have HPA := Lib.hid hpal
  have HTR := Lib.hid htri
  have HLA := Lib.hid hlat
  clear hpal htri hlat
  have E0 := Lib.hid (((Ext.refl w).alloc (.cells #[.int .i64 p, .int .i64 k, .slice fo fn fcap] 24)).alloc (.cells #[.int .i64 m, .slice ao len cap] 26))
  have F0 := Lib.hid ((Blk.new w #[.int .i64 p, .int .i64 k, .slice fo fn fcap] 24).alloc (.cells #[.int .i64 m, .slice ao len cap] 26))
  have S0 : Hid (Blk ((w.alloc (.cells #[.int .i64 p, .int .i64 k, .slice fo fn fcap] 24)).alloc (.cells #[.int .i64 m, .slice ao len cap] 26)) (w.heap.size + 1) #[.int .i64 m, .slice ao len cap] 26) := Blk.new' _ _ _ (by simp)
  go_enter Tryd.func4, Tryd.ntmps4
  go_wp2_with fail
  refine Calls.mono (strongFact_ok _) ?_
  rintro e w1 ⟨rfl, hx⟩
  have E1 := Lib.hid (E0.out.trans hx)
  have k1 := (F0.out.ext hx).three
  have S1 := Lib.hid (S0.out.ext hx)
  clear hx
  go_wp2_with fail
  refine Calls.mono (HPA.out _ E1.out) ?_
  rintro e w2 ⟨g, go, gl, gc, c, rfl, hx, hg⟩
  have HG := Lib.hid hg
  have E2 := Lib.hid (E1.out.trans hx)
  have S2 := Lib.hid (S1.out.ext hx)
  have h20 := E2.out.size
  have h21 := S2.out.lt
  have HS : Hid (SkSt w (w2.alloc (.cells #[.int .i64 g, .slice go gl gc] 26)) m ao len cap w2.heap.size) := ⟨E2.out.alloc _, by omega, S2.out.alloc _, _, _, Blk.new _ _ _⟩
  clear hx hg k1
  go_upto_if 25 with fail
  go_cut [8] from 16 (fun s8 wx => ∃ b : Nat, s8 = .pointer (some ⟨b, 0, none⟩) ∧ SkSt w wx m ao len cap b)
  case first =>
    by_cases hc : c = 0
    · subst hc
      obtain ⟨ok, xs, row, nums⟩ := HG.out rfl trivial
      have HR := Lib.hid row.reads
      have G2 := Lib.hid (Blk.new w2 #[.int .i64 g, .slice go gl gc] 26)
      rcases ok with rfl | rfl | rfl | rfl
      all_goals
        first | have HN := Lib.hid (show NumsAt xs 5 go gl gc 2 0 (fun f => f = 1) from nums) | have HN := Lib.hid (show NumsAt xs 9 go gl gc 4 1 (fun f => f = 2) from nums) | have HN := Lib.hid (show NumsAt xs 13 go gl gc 6 2 (fun f => f = 3) from nums) | have HN := Lib.hid (show NumsAt xs 17 go gl gc 8 3 (fun f => f = 4) from nums)
        have k2 := G2.out.two
        clear nums row
        go_wp2_with fail
        refine Calls.mono (HN.out _ ((ext_box _ _ _).reads HR.out)) ?_
        rintro e w3 ⟨a, f, rfl, rfl, hx⟩
        have G3 := Lib.hid (G2.out.ext hx)
        have k3 := fun d l f : Int => (G3.out.alloc (.cells #[.int .i64 a, .int .i64 d, .int .i64 l, .int .i64 f] 37)).two
        have k4 := fun d l f : Int => (Blk.new w3 #[.int .i64 a, .int .i64 d, .int .i64 l, .int .i64 f] 37).four
        have HE : Hid (∀ d l f : Int, _) := fun d l f : Int => HS.out.carry (hx.alloc (.cells #[.int .i64 a, .int .i64 d, .int .i64 l, .int .i64 f] 37))
        clear hx k2
        go_wp2
        go_meet
        exact ⟨_, rfl, HE.out _ _ _⟩
    · have b1 : (c == 0) = false := by simpa using hc
      go_wp2
      go_meet
      exact ⟨_, rfl, HS.out⟩
  case rest =>
    obtain ⟨b, rfl, hst⟩ := hcut
    have HT := Lib.hid hst
    clear hst
    go_wp2_with fail
    refine Calls.mono (HTR.out _ HT.out.ext) ?_
    rintro e w4 ⟨g2, go2, gl2, gc2, c2, rfl, hx, hg⟩
    have HG2 := Lib.hid hg
    have HX4 := Lib.hid hx
    have HT4 := Lib.hid (HT.out.carry hx)
    obtain ⟨x, y, hb0⟩ := HT.out.gb
    have hb := hb0.ext hx
    have q1 := hb.two
    have q2 := hb.f
    have HP := Lib.hid (HT4.out.put (.int .i64 g2) (.slice go2 gl2 gc2))
    have HB0 := Lib.hid hb0
    clear hx hg hb hb0
    go_upto_region 11 with fail
    obtain ⟨w5, hw5⟩ : ∃ w5, w5 = (w4.setCell ⟨b, 0, none⟩ (.int .i64 g2)).setCell ⟨b, 1, none⟩ (.slice go2 gl2 gc2) := ⟨_, rfl⟩
    have HX5 : Hid (∀ w', Ext w5 w' → Ext w w') := fun w' h => by rw [hw5] at h; exact HP.out.1.ext.trans h
    rw [← hw5] at HP ⊢
    have hblt := HB0.out.lt
    have hb4 := HT4.out.b0
    have HNA : Hid (c2 = 0 → 3 < n → n ≤ 7 ∧ ∃ xs, Reads w5 go2 (ints xs) ∧ NumsAt xs g2 go2 gl2 gc2 (2 * (n - 2)) (n - 2) (fun f => f = 4)) := fun h0 h1 => by
      obtain ⟨ok, xs, row, nums⟩ := HG2.out h0 h1
      rw [hw5]
      exact ⟨ok, xs, ((row.beside ⟨b, 0, none⟩ hblt _).beside ⟨b, 1, none⟩ hblt _).reads, nums⟩
    clear hblt hb4
    clear q1 q2 hw5
    go_cut [8, 69] from 16 (fun s8 s69 wx => s8 = .pointer (some ⟨b, 0, none⟩) ∧ s69 = .bool (decide (c2 = 0 ∧ 3 < n)) ∧ wx = w5)
    case first =>
      by_cases h1 : c2 = 0
      · have b1 : (c2 == 0) = true := by rw [h1]; rfl
        have H1 := Lib.hid h1
        clear h1
        by_cases h2 : 3 < n
        · have b2 : decide (3 < n) = true := decide_eq_true h2
          go_wp2
          go_meet
          exact ⟨rfl, by rw [decide_eq_true ⟨H1.out, h2⟩], rfl⟩
        · have b2 : decide (3 < n) = false := decide_eq_false h2
          go_wp2
          go_meet
          exact ⟨rfl, by rw [decide_eq_false (fun h => absurd h.2 (by omega))], rfl⟩
      · have b1 : (c2 == 0) = false := by rw [beq_eq_false_iff_ne]; exact h1
        go_wp2
        go_meet
        exact ⟨rfl, by rw [decide_eq_false (fun h => h1 h.1)], rfl⟩
    case rest =>
      obtain ⟨rfl, rfl, rfl⟩ := hcut
      go_upto_if 69 with fail
      go_cut [8] from 16 (fun s8 wx => s8 = .pointer (some ⟨b, 0, none⟩) ∧ SkSt w wx m ao len cap b)
      case first =>
        by_cases hq : c2 = 0 ∧ 3 < n
        · have b3 : decide (c2 = 0 ∧ 3 < n) = true := decide_eq_true hq
          obtain ⟨h7, xs, hr, nums⟩ := HNA.out hq.1 hq.2
          have HR := Lib.hid hr
          have HQ := Lib.hid hq
          have n4 : n = 4 ∨ n = 5 ∨ n = 6 ∨ n = 7 := by omega
          rw [b3]
          clear hr hq b3 h7
          rcases n4 with rfl | rfl | rfl | rfl
          all_goals
            first | have HN := Lib.hid (show NumsAt xs g2 go2 gl2 gc2 4 2 (fun f => f = 4) from nums) | have HN := Lib.hid (show NumsAt xs g2 go2 gl2 gc2 6 3 (fun f => f = 4) from nums) | have HN := Lib.hid (show NumsAt xs g2 go2 gl2 gc2 8 4 (fun f => f = 4) from nums) | have HN := Lib.hid (show NumsAt xs g2 go2 gl2 gc2 10 5 (fun f => f = 4) from nums)
            have k2 := HP.out.2.two
            clear nums
            go_wp2_with fail
            refine Calls.mono (HN.out _ HR.out) ?_
            rintro e w6 ⟨a, f, rfl, rfl, hx⟩
            have k4 := fun d l f : Int => (Blk.new w6 #[.int .i64 a, .int .i64 d, .int .i64 l, .int .i64 f] 37).four
            have HE : Hid (∀ d l f : Int, _) := fun d l f : Int => HP.out.1.carry (hx.alloc (.cells #[.int .i64 a, .int .i64 d, .int .i64 l, .int .i64 f] 37))
            clear hx k2
            go_wp2
            go_meet
            exact ⟨rfl, HE.out _ _ _⟩
        · have b3 : decide (c2 = 0 ∧ 3 < n) = false := decide_eq_false hq
          rw [b3]
          clear hq b3
          go_wp2
          go_meet
          exact ⟨rfl, HP.out.1⟩
      case rest =>
        obtain ⟨rfl, hst⟩ := hcut
        have HZ := Lib.hid hst
        have k5 := hst.sb.two
        clear hst
        go_wp2_with fail
        refine Calls.mono (HLA.out _ HZ.out.ext) ?_
        rintro e w7 ⟨g3, go3, gl3, gc3, c3, rfl, hx, hg⟩
        have HG3 := Lib.hid hg
        obtain ⟨x, y, hb0⟩ := HZ.out.gb
        have hb := hb0.ext hx
        have HB0 := Lib.hid hb0
        have q1 := hb.two
        have q2 := hb.f
        have q3 := (HZ.out.sb.ext hx).two
        have HZ7 := Lib.hid (HZ.out.carry hx)
        have HP7 := Lib.hid (HZ7.out.put (.int .i64 g3) (.slice go3 gl3 gc3))
        clear hx hg hb hb0 k5
        go_upto_region 16 with fail
        obtain ⟨w8, hw8⟩ : ∃ w8, w8 = (w7.setCell ⟨b, 0, none⟩ (.int .i64 g3)).setCell ⟨b, 1, none⟩ (.slice go3 gl3 gc3) := ⟨_, rfl⟩
        rw [← hw8] at HP7 ⊢
        have HNB : Hid (c3 = 0 → 3 ≤ m → m ≤ 4 ∧ ∃ xs, Reads w8 go3 (ints xs) ∧ NumsAt xs g3 go3 gl3 gc3 (3 * (m - 1)) m (fun f => f = 6 ∨ m = 3)) := fun h0 h1 => by
          obtain ⟨ok, xs, row, nums⟩ := HG3.out h0 h1
          rw [hw8]
          exact ⟨ok, xs, ((row.beside ⟨b, 0, none⟩ HB0.out.lt _).beside ⟨b, 1, none⟩ HB0.out.lt _).reads, nums⟩
        have k6 := HP7.out.1.sb.two
        clear q1 q2 q3 hw8
        by_cases h1 : c3 = 0
        · have b1 : (c3 != 0) = false := by rw [h1]; rfl
          by_cases h2 : m < 3
          · have b2 : decide (m < 3) = true := decide_eq_true h2
            clear h1
            go_wp2
            go_ret
            exact ⟨rfl, HP7.out.1.ext⟩
          · have b2 : decide (m < 3) = false := decide_eq_false h2
            obtain ⟨h4, xs, hr, nums⟩ := HNB.out h1 (by omega)
            have HR := Lib.hid hr
            have m4 : m = 3 ∨ m = 4 := by omega
            clear h1 hr h4 h2
            rcases m4 with rfl | rfl
            · have HN := Lib.hid (show NumsAt xs g3 go3 gl3 gc3 6 3 (fun _ => True) from fun w3 h => (nums w3 h).mono fun e w4 ⟨a, f, h1, h2, h3⟩ => ⟨a, f, h1, trivial, h3⟩)
              have k7 := HP7.out.2.two
              clear nums
              go_wp2_with fail
              refine Calls.mono (HN.out _ HR.out) ?_
              rintro e w9 ⟨a, f, rfl, _, hx⟩
              by_cases h6 : f = 6
              · subst h6
                have k8 := ((HP7.out.1.sb.ext hx).alloc (.cells #[.int .i64 a, .int .i64 6, .int .i64 3, .int .i64 6] 37)).two
                have k9 := (Blk.new w9 #[.int .i64 a, .int .i64 6, .int .i64 3, .int .i64 6] 37).four
                have HE := Lib.hid ((HP7.out.1.ext.trans hx).alloc (.cells #[.int .i64 a, .int .i64 6, .int .i64 3, .int .i64 6] 37))
                clear hx k6 k7
                go_wp2
                go_ret
                exact ⟨by simp, HE.out⟩
              · have b6 : (f == 6) = false := by rw [beq_eq_false_iff_ne]; exact h6
                clear h6
                have k8 := ((HP7.out.1.sb.ext hx).alloc (.cells #[.int .i64 a, .int .i64 6, .int .i64 3, .int .i64 f] 37)).two
                have k9 := (Blk.new w9 #[.int .i64 a, .int .i64 6, .int .i64 3, .int .i64 f] 37).four
                have HE := Lib.hid ((HP7.out.1.ext.trans hx).alloc (.cells #[.int .i64 a, .int .i64 6, .int .i64 3, .int .i64 f] 37))
                clear hx k6 k7
                go_wp2
                go_ret
                exact ⟨by simp, HE.out⟩
            · have HN := Lib.hid (show NumsAt xs g3 go3 gl3 gc3 9 4 (fun f => f = 6) from fun w3 h => (nums w3 h).mono fun e w4 ⟨a, f, h1, h2, h3⟩ => ⟨a, f, h1, by omega, h3⟩)
              have k7 := HP7.out.2.two
              clear nums
              go_wp2_with fail
              refine Calls.mono (HN.out _ HR.out) ?_
              rintro e w9 ⟨a, f, rfl, rfl, hx⟩
              have k8 := ((HP7.out.1.sb.ext hx).alloc (.cells #[.int .i64 a, .int .i64 9, .int .i64 4, .int .i64 6] 37)).two
              have k9 := (Blk.new w9 #[.int .i64 a, .int .i64 9, .int .i64 4, .int .i64 6] 37).four
              have HE := Lib.hid ((HP7.out.1.ext.trans hx).alloc (.cells #[.int .i64 a, .int .i64 9, .int .i64 4, .int .i64 6] 37))
              clear hx k6 k7
              go_wp2
              go_ret
              exact ⟨by simp, HE.out⟩
        · have b1 : (c3 != 0) = true := by rw [bne_iff_ne]; exact h1
          clear h1
          go_wp2
          go_ret
          exact ⟨rfl, HP7.out.1.ext⟩

theorem strongKnown_any (p k : Int) (fo : Option Addr) (fn fcap : Nat) (low : List Int) {w : World} (hf : IntsArg w fo fn fcap low) (n : Int) (_ : -9223372036854775808 ≤ n ∧ n ≤ 9223372036854775807)
    (m : Int) (ao : Option Addr) (len cap : Nat) (xs : List Int) (hx : IntsArg w ao len cap xs) (_ : -9223372036854775808 ≤ m) (_ : m ≤ 9223372036854775807) (hP : Primes w) :
    Calls Tryd.prog 4 #[.agg #[.int .i64 p, .int .i64 k, .slice fo fn fcap], .int .i64 n, .agg #[.int .i64 m, .slice ao len cap]] w fun e w' => e = .returned (.bool true) ∧ Below w.heap.size w w' := by
  refine strongKnown_go p k fo fn fcap n m ao len cap w (fun w' hx' => ?_) (fun w' hx' => ?_) (fun w' hx' => ?_)
  · by_cases h0 : fieldFault p k low = 0
    · obtain ⟨P, Q, rfl, rfl, hF, _⟩ := fieldFault_zero h0
      obtain rfl : fn = Q := by rw [← hf.len]; exact hF.len
      refine (paley_is P fn fo fcap low w' (hP.ext hx') hF (hx'.reads hf.reads)).mono fun e w'' ⟨h1, h2, h3⟩ => ?_
      by_cases h24 : P ^ fn ≤ 24
      · by_cases h4 : P ^ fn % 4 = 1
        · obtain ⟨ao', cap', he, hrow, hE⟩ := h3 h24 h4
          have hk := paley_known hF h24 h4
          refine ⟨_, ao', _, cap', 0, he, hE, fun _ _ => ⟨?_, _, hrow, ?_⟩⟩
          · have hb : P < 25 := by
              have h1 : P ^ 1 ≤ P ^ fn := Nat.pow_le_pow_right (by have := hF.p2; omega) hF.k1
              rw [Nat.pow_one] at h1
              omega
            rcases paley_orders P hb fn (by have := hF.k6; omega) hF.k1 hF.prime h24 h4 with ⟨rfl, rfl⟩ | ⟨rfl, rfl⟩ | ⟨rfl, rfl⟩ | ⟨rfl, rfl⟩ <;> decide
          · intro w3 h
            exact (nums_of ao' cap' hk w3 h).mono fun e w4 ⟨a, f, h1, h2, h3⟩ => ⟨a, f, h1, h2 trivial, h3⟩
        · obtain ⟨he, hE⟩ := h2 h24 h4
          exact ⟨_, _, _, _, 4, he, hE, fun h => absurd h (by decide)⟩
      · obtain ⟨he, hE⟩ := h1 (by omega)
        exact ⟨_, _, _, _, 3, he, hE, fun h => absurd h (by decide)⟩
    · exact (paley_no p k fo fn fcap low w' (hP.ext hx') hf.len (hx'.reads hf.reads) h0).mono fun e w'' ⟨he, hE⟩ => ⟨_, _, _, _, _, he, hE, fun h => absurd h h0⟩
  · by_cases h : n < 2 ∨ 7 < n
    · exact (triangle_no n w' h).mono fun e w'' ⟨he, hE⟩ => ⟨_, _, _, _, 1, he, hE, fun h => absurd h (by decide)⟩
    · obtain ⟨N, rfl⟩ : ∃ N : Nat, n = N := ⟨n.toNat, by omega⟩
      refine (triangle_ok N w' (by omega) (by omega)).mono fun e w'' ⟨ao', cap', he, hrow, hE⟩ => ?_
      refine ⟨_, ao', _, cap', 0, he, hE, fun _ h3 => ⟨by omega, _, hrow, ?_⟩⟩
      intro w3 h
      exact (nums_of ao' cap' (triangle_known N (by omega) (by omega)) w3 h).mono fun e w4 ⟨a, f, h1, h2, h3⟩ => ⟨a, f, h1, h2 trivial, h3⟩
  · by_cases h0 : latinFaultOf m xs = 0
    · obtain ⟨N, rfl, hL⟩ := latinFaultOf_zero h0
      by_cases h4 : 4 < (N : Int)
      · exact (latin_full N ao len cap xs w' hx.len (hx'.reads hx.reads) h0 h4).mono fun e w'' ⟨he, hE⟩ => ⟨_, _, _, _, 3, he, hE, fun h => absurd h (by decide)⟩
      · refine (latin_ok N ao len cap xs w' hx.len (hx'.reads hx.reads) h0 (by omega)).mono fun e w'' ⟨ao', cap', he, hrow, hE⟩ => ?_
        refine ⟨_, ao', _, cap', 0, he, hE, fun _ h3 => ⟨by omega, _, hrow, ?_⟩⟩
        intro w3 h
        refine (nums_of ao' cap' (latin_known hL (by omega) (by omega)) w3 h).mono fun e w4 ⟨a, f, h1, h2, h3⟩ => ⟨a, f, h1, ?_, h3⟩
        by_cases h5 : 4 ≤ N
        · exact .inl (h2 h5)
        · exact .inr (by omega)
    · exact (latin_no m ao len cap xs w' hx.len (hx'.reads hx.reads) h0).mono fun e w'' ⟨he, hE⟩ => ⟨_, _, _, _, _, he, hE, fun h => absurd h h0⟩

end Go.Proofs.YtdmplinncaffpaaDoor
