/- What array.Check and parterreref3.RunsFault answer at any runs. -/
import Derived.Test.YtnhdngnolepkcaaSlicesFunc
import Derived.Test.YtnhdngnolepkcaaReadsL
namespace Go.Proofs.Ytnhdngnolepkcaa
open Go.RowKit

/-- No level. -/
def badAt (s x : Int) : Bool := decide (x < 0) || decide (s ≤ x)
/-- What is wrong with one run. -/
def rowFault (s : Int) (k : Nat) (r : List Int) : Int := if r.length ≠ k ∨ k = 0 ∨ 8 < k then 2 else if r.any (badAt s) = true then 1 else 0
/-- The first fault of all runs, or 0. -/
def FirstFault (s : Int) (xss : List (List Int)) (c : Int) : Prop :=
  (∃ j, j < xss.length ∧ (∀ i, i < j → rowFault s (row xss 0).length (row xss i) = 0) ∧ rowFault s (row xss 0).length (row xss j) = c ∧ c ≠ 0) ∨ ((∀ i, i < xss.length → rowFault s (row xss 0).length (row xss i) = 0) ∧ c = 0)
theorem FirstFault.one {s : Int} {xss : List (List Int)} {c d : Int} (h : FirstFault s xss c) (h' : FirstFault s xss d) : c = d := by
  rcases h with ⟨j, h1, h2, h3, h4⟩ | ⟨h1, h2⟩ <;> rcases h' with ⟨j', k1, k2, k3, k4⟩ | ⟨k1, k2⟩
  · rcases Nat.lt_trichotomy j j' with h | h | h
    · exact absurd (h3 ▸ k2 j h) h4
    · subst h; rw [← h3, k3]
    · exact absurd (k3 ▸ h2 j' h) k4
  · exact absurd (h3 ▸ k1 j h1) h4
  · exact absurd (k3 ▸ h1 j' k1) k4
  · omega
/-- What is answered. -/
def RunsAre (s : Int) (xss : List (List Int)) (c : Int) : Prop :=
  ((s < 2 ∨ 64 < s) ∧ c = 1) ∨ (2 ≤ s ∧ s ≤ 64 ∧ xss.length = 0 ∧ c = 2) ∨ (2 ≤ s ∧ s ≤ 64 ∧ 128 < xss.length ∧ c = 3) ∨ (2 ≤ s ∧ s ≤ 64 ∧ 1 ≤ xss.length ∧ xss.length ≤ 128 ∧ FirstFault s xss c)
theorem RunsAre.one {s : Int} {xss : List (List Int)} {c d : Int} (h : RunsAre s xss c) (h' : RunsAre s xss d) : c = d := by
  rcases h with h | h | h | h <;> rcases h' with h' | h' | h' | h'
  case inr.inr.inr.inr.inr.inr => exact h.2.2.2.2.one h'.2.2.2.2
  all_goals omega
/-- Runs. -/
structure IsRuns (s : Int) (xss : List (List Int)) : Prop where
  s2 : 2 ≤ s
  s64 : s ≤ 64
  n1 : 1 ≤ xss.length
  n128 : xss.length ≤ 128
  k1 : 1 ≤ (row xss 0).length
  k8 : (row xss 0).length ≤ 8
  len : ∀ i, i < xss.length → (row xss i).length = (row xss 0).length
  lev : ∀ i, i < xss.length → ∀ x ∈ row xss i, 0 ≤ x ∧ x < s
theorem rowFault_zero {s : Int} {k : Nat} {r : List Int} (h : rowFault s k r = 0) : r.length = k ∧ 1 ≤ k ∧ k ≤ 8 ∧ ∀ x ∈ r, 0 ≤ x ∧ x < s := by
  unfold rowFault at h
  split at h
  · omega
  · rename_i h1
    split at h
    · omega
    · rename_i h2
      refine ⟨by omega, by omega, by omega, fun x hx => ?_⟩
      have h3 : r.any (badAt s) = false := by simpa using h2
      have := List.any_eq_false.1 h3 x hx
      unfold badAt at this
      simp at this
      omega
theorem RunsAre.zero {s : Int} {xss : List (List Int)} (h : RunsAre s xss 0) : IsRuns s xss := by
  rcases h with h | h | h | ⟨h1, h2, h3, h4, h5⟩
  · omega
  · omega
  · omega
  · rcases h5 with ⟨_, _, _, _, h6⟩ | ⟨h6, _⟩
    · exact absurd rfl h6
    · obtain ⟨e1, e2, e3, e4⟩ := rowFault_zero (h6 0 (by omega))
      exact ⟨h1, h2, h3, h4, e2, e3, fun i hi => (rowFault_zero (h6 i hi)).1, fun i hi => (rowFault_zero (h6 i hi)).2.2.2⟩

theorem bad_pred (s : Int) (xs : List Int) (r : Nat) (w : World) (hb : Blk w r #[.int .i64 s] 3) : PredOn 19 #[.pointer (some ⟨r, 0, none⟩)] xs (badAt s) w := by
  intro x _ w' hd
  have k0 := (hb.drawn hd).one
  clear hd
  unfold badAt
  obtain ⟨p, hp⟩ : ∃ p, decide (x < 0) = p := ⟨_, rfl⟩
  obtain ⟨q, hq⟩ : ∃ q, decide (s ≤ x) = q := ⟨_, rfl⟩
  rw [hp, hq]
  cases p
  all_goals
    go_enter Try.func19, Try.ntmps19
    go_wp2
    go_ret
    exact ⟨by simp [*], Drawn.refl _⟩

set_option maxHeartbeats 400000 in
theorem check_range (s : Int) (ao : Option Addr) (n cap : Nat) (w : World) (hm : s < 2 ∨ 64 < s) :
    Calls Try.prog 11 #[.int .i64 s, .slice ao n cap] w fun e w' => e = .returned (.int .i64 1) ∧ Ext w w' := by
  rcases hm with hm | hm
  · have b1 : decide (s < 2) = true := decide_eq_true hm
    go_enter Try.func11, Try.ntmps11
    go_wp2
    go_ret
    exact ⟨rfl, (Ext.refl _).alloc _⟩
  · have b1 : decide (s < 2) = false := decide_eq_false (by omega)
    have b2 : decide (64 < s) = true := decide_eq_true hm
    go_enter Try.func11, Try.ntmps11
    go_wp2
    go_ret
    exact ⟨rfl, (Ext.refl _).alloc _⟩

set_option maxHeartbeats 400000 in
theorem check_shape (s : Int) (ao : Option Addr) (n cap : Nat) (w : World) (h1 : 2 ≤ s) (h2 : s ≤ 64) (hn : n = 0 ∨ 128 < n) (hbig : n ≤ maxLen) :
    Calls Try.prog 11 #[.int .i64 s, .slice ao n cap] w fun e w' => e = .returned (.int .i64 (if n = 0 then 2 else 3)) ∧ Ext w w' := by
  unfold maxLen at hbig
  have b1 : decide (s < 2) = false := decide_eq_false (by omega)
  have b2 : decide (64 < s) = false := decide_eq_false (by omega)
  rcases hn with rfl | hn
  · go_enter Try.func11, Try.ntmps11
    go_wp2
    go_ret
    exact ⟨rfl, (Ext.refl _).alloc _⟩
  · rw [if_neg (by omega)]
    have b3 : ((n : Int) == 0) = false := by rw [beq_eq_false_iff_ne]; omega
    go_enter Try.func11, Try.ntmps11
    go_wp2
    go_ret
    exact ⟨rfl, (Ext.refl _).alloc _⟩

set_option maxHeartbeats 2000000 in
theorem check_rows (s : Int) (ao : Option Addr) (n cap : Nat) (xss : List (List Int)) (w : World) (hl : xss.length = n) (hr : ReadsL w ao xss) (h1 : 2 ≤ s) (h2 : s ≤ 64) (hn : 1 ≤ n) (hn2 : n ≤ 128) :
    Calls Try.prog 11 #[.int .i64 s, .slice ao n cap] w fun e w' => ∃ c, e = .returned (.int .i64 c) ∧ FirstFault s xss c ∧ Ext w w' := by
  have b1 : decide (s < 2) = false := decide_eq_false (by omega)
  have b2 : decide (64 < s) = false := decide_eq_false (by omega)
  obtain ⟨b, off, rfl, hb, hc⟩ := hr.row (by omega)
  have HC := Lib.hid hc
  have HL := Lib.hid hl
  obtain ⟨a0, q0, c0, r0, l0⟩ := hc 0 (by omega)
  have l0' := l0
  unfold maxLen at l0'
  obtain ⟨k, hk⟩ : ∃ k, (row xss 0).length = k := ⟨_, rfl⟩
  have hFF : ∀ c, FirstFault s xss c ↔ (∃ j, j < n ∧ (∀ i, i < j → rowFault s k (row xss i) = 0) ∧ rowFault s k (row xss j) = c ∧ c ≠ 0) ∨ ((∀ i, i < n → rowFault s k (row xss i) = 0) ∧ c = 0) := fun c => by unfold FirstFault; rw [hk, hl]
  have HFF := Lib.hid hFF
  rw [hk] at c0 l0'
  rw [Nat.add_zero] at c0
  have b3 : ((n : Int) == 0) = false := by rw [beq_eq_false_iff_ne]; omega
  clear hr hl r0 l0 hc hk hFF
  go_enter Try.func11, Try.ntmps11
  go_wp2
  have HX : Hid (Blk (w.alloc (.cells #[.int .i64 s] 3)) w.heap.size #[.int .i64 s] 3) := Blk.new _ _ _
  have HE : Hid (Ext w (w.alloc (.cells #[.int .i64 s] 3))) := (Ext.refl w).alloc _
  obtain ⟨w0, hw0⟩ : ∃ w0, w0 = w.alloc (.cells #[.int .i64 s] 3) := ⟨_, rfl⟩
  rw [← hw0] at HX HE ⊢
  clear hw0 c0
  go_loopw [29] (fun a wr => ∃ i : Nat, i ≤ n ∧ a = .int .i64 i ∧ Drawn w0 wr ∧ ∀ j, j < i → rowFault s k (row xss j) = 0) (fun a _ => n - (intOf a).toNat)
  case atStart => exact ⟨0, by omega, rfl, Drawn.refl _, fun j h => by omega⟩
  case round =>
    obtain ⟨i, hi, rfl, hd, hall⟩ := hrel
    have HD := Lib.hid hd
    have HA := Lib.hid hall
    clear hd hall
    by_cases hin : i < n
    · obtain ⟨a, q, c1, r1, l1⟩ := HC.out i (by rw [HL.out]; exact hin)
      rw [← (HE.out.drawn HD.out).cell hb] at c1
      have hread := (HE.out.drawn HD.out).reads r1
      obtain ⟨xs, hxs⟩ : ∃ xs, row xss i = xs := ⟨_, rfl⟩
      have hbad : rowFault s k (row xss i) ≠ 0 → FirstFault s xss (rowFault s k (row xss i)) := fun h => (HFF.out _).2 (.inl ⟨i, hin, HA.out, rfl, h⟩)
      have hgood : rowFault s k (row xss i) = 0 → ∀ j, j < i + 1 → rowFault s k (row xss j) = 0 := fun h j hj => by
        rcases Nat.lt_succ_iff_lt_or_eq.1 hj with h' | rfl
        · exact HA.out j h'
        · exact h
      rw [hxs] at hbad hgood c1 hread l1
      have HB := Lib.hid hbad
      have HG := Lib.hid hgood
      have l1' := l1
      unfold maxLen at l1'
      obtain ⟨z, hz⟩ : ∃ z, xs.length = z := ⟨_, rfl⟩
      rw [hz] at c1 l1'
      have HCF := Lib.hid (containsFunc_any 19 #[.pointer (some ⟨w.heap.size, 0, none⟩)] a z q xs (badAt s) wr hz (by rw [← hz]; exact l1) hread (bad_pred s xs _ _ (HX.out.drawn HD.out)) (fun _ _ => rfl))
      have HZ := Lib.hid hz
      clear hbad hgood l1 r1 hread hxs hz
      by_cases hsh : z ≠ k ∨ k = 0 ∨ 8 < k
      · have HV : Hid (rowFault s k xs = 2) := by show _ = _; unfold rowFault; rw [HZ.out, if_pos hsh]
        rw [HV.out] at HB
        have hcs : ((z : Int) != (k : Int)) = true ∨ (((z : Int) != (k : Int)) = false ∧ ((k : Int) == 0) = true) ∨ (((z : Int) != (k : Int)) = false ∧ ((k : Int) == 0) = false ∧ 8 < k) := by
          by_cases h1 : z = k
          · have e1 : ((z : Int) != (k : Int)) = false := by rw [h1]; simp
            by_cases h2 : k = 0
            · exact .inr (.inl ⟨e1, by rw [h2]; rfl⟩)
            · exact .inr (.inr ⟨e1, by rw [beq_eq_false_iff_ne]; omega, by omega⟩)
          · exact .inl (by rw [bne_iff_ne]; omega)
        clear hsh
        rcases hcs with e1 | ⟨e1, e2⟩ | ⟨e1, e2, e3⟩
        all_goals
          go_wp2
          go_ret
          exact ⟨2, rfl, HB.out (by decide), HE.out.drawn HD.out⟩
      · have e1 : ((z : Int) != (k : Int)) = false := by rw [show z = k by omega]; simp
        have e2 : ((k : Int) == 0) = false := by rw [beq_eq_false_iff_ne]; omega
        have e3 : ¬ 8 < k := by omega
        cases hany : xs.any (badAt s) with
        | true =>
          have HV : Hid (rowFault s k xs = 1) := by show _ = _; unfold rowFault; rw [HZ.out, if_neg hsh, if_pos hany]
          rw [HV.out] at HB
          rw [hany] at HCF
          clear hsh hany
          go_wp2_with (go_at_call 15; refine HCF.out.mono ?_; rintro e w1 ⟨rfl, hd⟩; have HD2 := Lib.hid hd; clear hd)
          go_ret
          exact ⟨1, rfl, HB.out (by decide), (HE.out.drawn HD.out).drawn HD2.out⟩
        | false =>
          have HV : Hid (rowFault s k xs = 0) := by show _ = _; unfold rowFault; rw [HZ.out, if_neg hsh, if_neg (by rw [hany]; simp)]
          rw [hany] at HCF
          clear hsh hany
          go_wp2_with (go_at_call 15; refine HCF.out.mono ?_; rintro e w1 ⟨rfl, hd⟩; have HD2 := Lib.hid hd; clear hd)
          go_roundw
          case rel => exact ⟨i + 1, by omega, by go_num, HD.out.trans HD2.out, HG.out HV.out⟩
          case measure => simp [intOf] <;> omega
    · obtain rfl : n = i := by omega
      go_wp2
      go_ret
      exact ⟨0, rfl, (HFF.out _).2 (.inr ⟨HA.out, rfl⟩), HE.out.drawn HD.out⟩

theorem runsCheck_any (s : Int) (ao : Option Addr) (n cap : Nat) (xss : List (List Int)) (w : World) (hl : xss.length = n) (hbig : n ≤ maxLen) (hr : ReadsL w ao xss) :
    Calls Try.prog 11 #[.int .i64 s, .slice ao n cap] w fun e w' => ∃ c, e = .returned (.int .i64 c) ∧ RunsAre s xss c ∧ Ext w w' := by
  by_cases h : s < 2 ∨ 64 < s
  · exact (check_range s ao n cap w h).mono fun e w' h' => ⟨_, h'.1, .inl ⟨h, rfl⟩, h'.2⟩
  · by_cases hn : n = 0 ∨ 128 < n
    · refine (check_shape s ao n cap w (by omega) (by omega) hn hbig).mono fun e w' h' => ⟨_, h'.1, ?_, h'.2⟩
      by_cases h0 : n = 0
      · rw [if_pos h0]; exact .inr (.inl ⟨by omega, by omega, by omega, rfl⟩)
      · rw [if_neg h0]; exact .inr (.inr (.inl ⟨by omega, by omega, by omega, rfl⟩))
    · exact (check_rows s ao n cap xss w hl hr (by omega) (by omega) (by omega) (by omega)).mono fun e w' ⟨c, h1, h2, h3⟩ => ⟨c, h1, .inr (.inr (.inr ⟨by omega, by omega, by omega, by omega, h2⟩)), h3⟩

theorem IsRuns.zero {s : Int} {xss : List (List Int)} (h : IsRuns s xss) {c : Int} (hc : RunsAre s xss c) : c = 0 := by
  have h1 := h.s2
  have h2 := h.s64
  have h3 := h.n1
  have h4 := h.n128
  rcases hc with h | h | h | ⟨_, _, _, _, h5⟩
  · omega
  · omega
  · omega
  · rcases h5 with ⟨j, j1, j2, j3, j4⟩ | ⟨_, h5⟩
    · exfalso
      have hk1 := h.k1
      have hk8 := h.k8
      apply j4
      rw [← j3]
      unfold rowFault
      rw [h.len j j1, if_neg (by omega), if_neg]
      simp only [List.any_eq_true, not_exists, not_and, Bool.not_eq_true]
      intro x hx
      have := h.lev j j1 x hx
      unfold badAt
      rw [decide_eq_false (by omega), decide_eq_false (by omega)]
      rfl
    · exact h5
/-- A first row. -/
theorem IsRuns.first {s : Int} {xss : List (List Int)} (h : IsRuns s xss) {w : World} {ao : Option Addr} (hr : ReadsL w ao xss) :
    ∃ b off a c, ao = some ⟨b, off, none⟩ ∧ b < w.heap.size ∧ w.cell? ⟨b, off, none⟩ = some (.slice a (row xss 0).length c) := by
  obtain ⟨b, off, h1, h2, h3⟩ := hr.row (by have := h.n1; omega)
  obtain ⟨a, c, h4, _, _⟩ := h3 0 (by have := h.n1; omega)
  exact ⟨b, off, a, c, h1, h2, h4⟩

end Go.Proofs.Ytnhdngnolepkcaa
