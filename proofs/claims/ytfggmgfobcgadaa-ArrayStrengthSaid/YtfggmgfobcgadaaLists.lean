/- What parterreref1.Lists answers: are two lists of lists the same? Conditions: both can be read. -/
import Derived.Test.YtfggmgfobcgadaaIntsEq
import Derived.Test.YtfggmgfobcgadaaBlk
namespace Go.Proofs.Ytfggmgfobcgadaa
open Go.RowKit

/-- A slice that reads as a list of ints. -/
def Inner (w : World) (v : Value) (xs : List Int) : Prop := ∃ a c, v = .slice a xs.length c ∧ Reads w a (ints xs) ∧ xs.length ≤ maxLen
theorem Inner.ext {w w' : World} {v : Value} {xs : List Int} (h : Inner w v xs) (hx : Ext w w') : Inner w' v xs := by
  obtain ⟨a, c, rfl, hr, hl⟩ := h
  exact ⟨a, c, rfl, hx.reads hr, hl⟩
/-- The row of a number. -/
def row (xss : List (List Int)) (j : Nat) : List Int := xss.getD j []
theorem row_eq (xss : List (List Int)) (j : Nat) (h : j < xss.length) : row xss j = xss[j] := by simp [row, List.getElem?_eq_getElem h]
theorem row_ext (xs ys : List (List Int)) (hl : xs.length = ys.length) (h : ∀ j, j < xs.length → row xs j = row ys j) : xs = ys := by
  apply List.ext_getElem hl
  intro j h1 h2
  have := h j h1
  rwa [row_eq _ _ h1, row_eq _ _ h2] at this
/-- Slices that read as lists of ints. -/
def Rows2 (w : World) (vs : List Value) (xss : List (List Int)) : Prop := vs.length = xss.length ∧ ∀ j v, vs[j]? = some v → Inner w v (row xss j)
theorem Rows2.ext {w w' : World} {vs : List Value} {xss : List (List Int)} (h : Rows2 w vs xss) (hx : Ext w w') : Rows2 w' vs xss := ⟨h.1, fun j v hv => (h.2 j v hv).ext hx⟩
theorem Rows2.nil (w : World) : Rows2 w [] [] := ⟨rfl, fun j v hv => by simp at hv⟩
theorem Rows2.snoc {w : World} {vs : List Value} {xss : List (List Int)} (h : Rows2 w vs xss) {v : Value} {xs : List Int} (hv : Inner w v xs) : Rows2 w (vs ++ [v]) (xss ++ [xs]) := by
  refine ⟨by simp [h.1], fun j u hu => ?_⟩
  have hj : j < vs.length + 1 := by have := (List.getElem?_eq_some_iff.1 hu).1; simpa using this
  by_cases hlt : j < vs.length
  · rw [List.getElem?_append_left hlt] at hu
    have := h.2 j u hu
    rwa [show row (xss ++ [xs]) j = row xss j by unfold row; rw [List.getD_eq_getElem?_getD, List.getD_eq_getElem?_getD, List.getElem?_append_left (by rw [← h.1]; exact hlt)]]
  · obtain rfl : j = vs.length := by omega
    rw [List.getElem?_append_right (Nat.le_refl _), Nat.sub_self] at hu
    simp at hu
    subst hu
    rwa [show row (xss ++ [xs]) vs.length = xs by unfold row; rw [List.getD_eq_getElem?_getD, h.1, List.getElem?_append_right (Nat.le_refl _), Nat.sub_self]; rfl]
/-- A slice of slices that reads as a list of lists. -/
def ReadsL (w : World) (ao : Option Addr) (xss : List (List Int)) : Prop := ∃ vs, Reads w ao vs ∧ Rows2 w vs xss
theorem ReadsL.ext {w w' : World} {ao : Option Addr} {xss : List (List Int)} (h : ReadsL w ao xss) (hx : Ext w w') : ReadsL w' ao xss := by
  obtain ⟨vs, h1, h2⟩ := h
  exact ⟨vs, hx.reads h1, h2.ext hx⟩
theorem ReadsL.nil (w : World) (ao : Option Addr) : ReadsL w ao [] := ⟨[], .inl rfl, Rows2.nil w⟩
/-- A row that is read. -/
theorem ReadsL.row {w : World} {ao : Option Addr} {xss : List (List Int)} (h : ReadsL w ao xss) (hn : 0 < xss.length) :
    ∃ b off, ao = some ⟨b, off, none⟩ ∧ b < w.heap.size ∧ ∀ j, j < xss.length → ∃ a c, w.cell? ⟨b, off + j, none⟩ = some (.slice a (row xss j).length c) ∧ Reads w a (ints (row xss j)) ∧ (row xss j).length ≤ maxLen := by
  obtain ⟨vs, h1, h2⟩ := h
  rcases h1 with h1 | ⟨b, off, ha, hlt, hc⟩
  · have := h2.1; rw [h1] at this; simp at this; omega
  · refine ⟨b, off, ha, hlt, fun j hj => ?_⟩
    have hj' : j < vs.length := by rw [h2.1]; exact hj
    have hv := List.getElem?_eq_getElem hj'
    obtain ⟨a, c, e, hr, hl⟩ := h2.2 j _ hv
    exact ⟨a, c, by rw [hc j _ hv, e], hr, hl⟩

set_option maxHeartbeats 400000 in
theorem lists_any (ao bo : Option Addr) (n m cap cap' : Nat) (xss yss : List (List Int)) (w : World) (hx : xss.length = n) (hy : yss.length = m) (hbig : n ≤ maxLen) (hbig' : m ≤ maxLen) (ra : ReadsL w ao xss) (rb : ReadsL w bo yss) :
    Calls Try.prog 15 #[.slice ao n cap, .slice bo m cap'] w fun e w' => e = .returned (.bool (decide (xss = yss))) ∧ Drawn w w' := by
  unfold maxLen at hbig hbig'
  have HX := Lib.hid hx
  have HY := Lib.hid hy
  have RA := Lib.hid ra
  have RB := Lib.hid rb
  clear hx ra rb hy
  by_cases hnm : n = m
  · subst hnm
    go_enter Try.func15, Try.ntmps15
    go_wp2
    go_loopw [5] (fun i wr => ∃ k : Nat, k ≤ n ∧ i = .int .i64 k ∧ Drawn w wr ∧ ∀ j, j < k → row xss j = row yss j) (fun i _ => n - (intOf i).toNat)
    case atStart => exact ⟨0, by omega, rfl, Drawn.refl _, fun j hj => by omega⟩
    case round =>
      obtain ⟨k, hk, rfl, hd, hall⟩ := hrel
      have HA := Lib.hid hall
      clear hall
      by_cases hlt : k < n
      · obtain ⟨b, off, rfl, hb, hc⟩ := RA.out.row (by rw [HX.out]; omega)
        obtain ⟨b', off', rfl, hb', hc'⟩ := RB.out.row (by rw [HY.out]; omega)
        obtain ⟨a1, q1, c1, r1, l1⟩ := hc k (by rw [HX.out]; omega)
        obtain ⟨a2, q2, c2, r2, l2⟩ := hc' k (by rw [HY.out]; omega)
        rw [← hd.cell] at c1 c2
        have HD := Lib.hid hd
        have HI : Hid (∀ w', Drawn wr w' → _) := fun w' hd' => ints_any a1 a2 _ _ q1 q2 (row xss k) (row yss k) w' rfl rfl l1 l2 ((hd.trans hd').ext.reads r1) ((hd.trans hd').ext.reads r2)
        unfold maxLen at l1 l2
        clear hc hc' hd r1 r2
        obtain ⟨p, hp⟩ : ∃ p, (row xss k).length = p := ⟨_, rfl⟩
        obtain ⟨q, hq⟩ : ∃ q, (row yss k).length = q := ⟨_, rfl⟩
        rw [hp] at c1 HI
        rw [hq] at c2 HI
        clear hp hq l1 l2
        by_cases he : row xss k = row yss k
        · have HE := Lib.hid he
          rw [decide_eq_true he] at HI
          clear he
          go_wp2_with fail
          go_quiet ((go_at_call 28; exact Calls.quiet_of (HI.out _ (Drawn.drewN _ _))))
          go_wp2
          go_roundw
          case rel => exact ⟨k + 1, by omega, by go_num, HD.out.trans (Drawn.drewN _ _), fun j hj => by
            rcases Nat.lt_succ_iff_lt_or_eq.1 hj with h | rfl
            · exact HA.out j h
            · exact HE.out⟩
          case measure => simp [intOf]; omega
        · have HE : Hid (xss ≠ yss) := fun e => he (by rw [e])
          rw [decide_eq_false he] at HI
          clear he
          go_wp2_with fail
          go_quiet ((go_at_call 28; exact Calls.quiet_of (HI.out _ (Drawn.drewN _ _))))
          go_wp2
          go_ret
          exact ⟨by rw [decide_eq_false HE.out]; rfl, HD.out.trans (Drawn.drewN _ _)⟩
      · have HE : Hid (xss = yss) := row_ext xss yss (by rw [HX.out, HY.out]) fun j hj => HA.out j (by rw [HX.out] at hj; omega)
        have HD := Lib.hid hd
        clear hd
        go_wp2
        go_ret
        exact ⟨by rw [decide_eq_true HE.out]; rfl, HD.out⟩
  · have hb2 : ((n : Int) != (m : Int)) = true := by rw [bne_iff_ne]; omega
    have HE : Hid (xss ≠ yss) := fun e => hnm (by rw [← HX.out, ← HY.out, e])
    clear hnm
    go_enter Try.func15, Try.ntmps15
    go_wp2
    go_ret
    exact ⟨by rw [decide_eq_false HE.out]; rfl, Drawn.refl _⟩

end Go.Proofs.Ytfggmgfobcgadaa
