/- What field.with answers at any field. Condition: the variable of primes holds them. -/
import Derived.Test.YtnfonobdfkpkeaaDoorFOpen
namespace Go.Proofs.YtnfonobdfkpkeaaDoor
open Go.RowKit

/-- What is wrong with a field and elements. -/
def withFault (p k : Int) (low xs : List Int) : Int := if fieldFault p k low ≠ 0 then fieldFault p k low else if xs.any (badDg (ordF p k)) = true then 1 else 0
/-- What is answered. -/
def WithIs (p k : Int) (ao : Option Addr) (len cap : Nat) (low xs : List Int) (e : Ending) : Prop :=
  (withFault p k low xs ≠ 0 → e = .returned (.tuple #[.agg #[.int .i64 0, .int .i64 0, .slice none 0 0, .int .i64 0], .int .i64 (withFault p k low xs)])) ∧
  (withFault p k low xs = 0 → e = .returned (.tuple #[.agg #[.int .i64 p, .int .i64 k, .slice ao len cap, .int .i64 (ordF p k)], .int .i64 0]))
theorem withFault_bad {p k : Int} {low xs : List Int} (h : fieldFault p k low ≠ 0) : withFault p k low xs = fieldFault p k low := by unfold withFault; rw [if_pos h]
theorem withFault_ok {p k : Int} {low xs : List Int} (h : fieldFault p k low = 0) : withFault p k low xs = if xs.any (badDg (ordF p k)) = true then 1 else 0 := by unfold withFault; rw [if_neg (fun h' => h' h)]

/-- The world of an opening with elements. -/
theorem zero4 (w : World) (p k : Int) (ao : Option Addr) (len cap : Nat) : OpSt w ((w.alloc (.cells #[.int .i64 p, .int .i64 k, .slice ao len cap] 24)).alloc (.cells #[.int .i64 0, .int .i64 0, .slice none 0 0, .int .i64 0] 55)) p k ao len cap := OpSt.start w p k ao len cap

set_option maxHeartbeats 4000000 in
theorem with_any (p k : Int) (ao : Option Addr) (len cap : Nat) (low xs : List Int) (eo : Option Addr) (en ecap : Nat) (w : World) (hP : Primes w) (hl : low.length = len) (hr : Reads w ao (ints low)) (hel : xs.length = en) (hbig : en ≤ maxLen) (her : Reads w eo (ints xs)) :
    Calls Tryd.prog 26 #[.agg #[.int .i64 p, .int .i64 k, .slice ao len cap], .slice eo en ecap] w fun e w' => WithIs p k ao len cap low xs e ∧ Ext w w' := by
  unfold maxLen at hbig
  have H0 := Lib.hid (OpSt.start w p k ao len cap)
  have HO := Lib.hid (open_any p k ao len cap low _ (hP.ext H0.out.ext) hl (H0.out.ext.reads hr))
  have HEL := Lib.hid hel
  have HER := Lib.hid her
  obtain ⟨w0, hw0⟩ : ∃ w0, w0 = (w.alloc (.cells #[.int .i64 p, .int .i64 k, .slice ao len cap] 24)).alloc (.cells #[.int .i64 0, .int .i64 0, .slice none 0 0, .int .i64 0] 55) := ⟨_, rfl⟩
  rw [← hw0] at H0 HO
  clear hP hl hr hel her
  obtain ⟨c, hc⟩ : ∃ c, fieldFault p k low = c := ⟨_, rfl⟩
  have HC := Lib.hid hc
  by_cases h0 : c = 0
  · have HW : Hid (withFault p k low xs = if xs.any (badDg (ordF p k)) = true then 1 else 0) := withFault_ok (by rw [hc]; exact h0)
    obtain ⟨q, hq⟩ : ∃ q, ordF p k = q := ⟨_, rfl⟩
    have HQ := Lib.hid hq
    rw [hq] at HW
    clear hc
    go_enter Tryd.func26, Tryd.ntmps26
    go_wp2_with fail
    rw [← hw0]
    clear hw0
    refine Calls.mono HO.out ?_
    rintro e w1 ⟨hoi, hx⟩
    obtain rfl := hoi.2 (by rw [HC.out]; exact h0)
    rw [hq]
    have H1 := Lib.hid (H0.out.carry hx)
    clear hx hoi h0 hq
    have H2 : Hid (OpSt w (w1.alloc (.cells #[.int .i64 p, .int .i64 k, .slice ao len cap, .int .i64 q] 55)) p k ao len cap ∧ Blk (w1.alloc (.cells #[.int .i64 p, .int .i64 k, .slice ao len cap, .int .i64 q] 55)) w1.heap.size #[.int .i64 p, .int .i64 k, .slice ao len cap, .int .i64 q] 55) := ⟨H1.out.carry ((Ext.refl _).alloc _), Blk.new _ _ _⟩
    go_wp2
    obtain ⟨rb, hrb⟩ : ∃ rb, rb = w1.heap.size := ⟨_, rfl⟩
    obtain ⟨w2, hw2⟩ : ∃ w2, w2 = w1.alloc (.cells #[.int .i64 p, .int .i64 k, .slice ao len cap, .int .i64 q] 55) := ⟨_, rfl⟩
    rw [← hw2, ← hrb] at H2
    rw [← hw2, ← hrb]
    clear hw2 hrb
    go_loopw [21] (fun a wr => ∃ j : Nat, j ≤ en ∧ a = .int .i64 j ∧ wr = w2 ∧ ∀ i, i < j → badDg q (nth xs i) = false) (fun a _ => en - (intOf a).toNat)
    case atStart => exact ⟨0, by omega, rfl, rfl, fun i h => by omega⟩
    case round =>
      obtain ⟨j, hj, rfl, rfl, hall⟩ := hrel
      have HA := Lib.hid hall
      clear hall
      have HS := Lib.hid H2.out.1
      have HR := Lib.hid H2.out.2
      have hr1 := HS.out.rb.four
      have hr2 := HS.out.rb.f
      have hr3 := HR.out.four
      have HXX : ∀ (u0 u1 u2 u3 : Value), Hid (Ext w ((((wr.setCell ⟨w.heap.size + 1, 0, none⟩ u0).setCell ⟨w.heap.size + 1, 1, none⟩ u1).setCell ⟨w.heap.size + 1, 2, none⟩ u2).setCell ⟨w.heap.size + 1, 3, none⟩ u3)) := fun u0 u1 u2 u3 =>
        (((HS.out.ext.set (p := ⟨w.heap.size + 1, 0, none⟩) (by simp) _).set (p := ⟨w.heap.size + 1, 1, none⟩) (by simp) _).set (p := ⟨w.heap.size + 1, 2, none⟩) (by simp) _).set (p := ⟨w.heap.size + 1, 3, none⟩) (by simp) _
      by_cases hjk : j < en
      · obtain ⟨b, off, rfl, hb, hcc⟩ := Reads.int HER.out (by rw [HEL.out]; omega)
        have k1 := (HS.out.ext.cell hb).trans (hcc j (by rw [HEL.out]; exact hjk))
        have HMEM : Hid (nth xs j ∈ xs) := nth_mem xs j (by rw [HEL.out]; exact hjk)
        obtain ⟨x, hx⟩ : ∃ x, nth xs j = x := ⟨_, rfl⟩
        have HXE := Lib.hid hx
        rw [hx] at k1
        clear hx hcc
        by_cases hbad : badDg q x = true
        · have HB : Hid (withFault p k low xs = 1) := by show _ = _; rw [HW.out, if_pos (List.any_eq_true.2 ⟨_, HMEM.out, by rw [HXE.out]; exact hbad⟩)]
          have HRB := Lib.hid ((((HS.out.rb.set 0 (.int .i64 0)).set 1 (.int .i64 0)).set 2 (.slice none 0 0)).set 3 (.int .i64 0))
          have HXX2 := HXX (.int .i64 0) (.int .i64 0) (.slice none 0 0) (.int .i64 0)
          clear HXX
          have hcs : decide (x < 0) = true ∨ (decide (x < 0) = false ∧ decide ((q : Int) ≤ x) = true) := by
            unfold badDg at hbad
            rw [Bool.or_eq_true] at hbad
            by_cases h : x < 0
            · exact .inl (decide_eq_true h)
            · exact .inr ⟨decide_eq_false h, by rcases hbad with h' | h'; exact absurd (of_decide_eq_true h') h; exact h'⟩
          clear hbad
          rcases hcs with d1 | ⟨d1, d2⟩
          all_goals
            go_wp2
            have k9 := HRB.out.four
            exact bodyPost_ret (v := .tuple #[.agg #[.int .i64 0, .int .i64 0, .slice none 0 0, .int .i64 0], .int .i64 1]) (by simp [results, Tryd.results26, go_sem, k9]) rfl ⟨⟨fun _ => by rw [HB.out], fun h => by rw [HB.out] at h; cases h⟩, HXX2.out⟩
        · have hbf : badDg q x = false := by simpa using hbad
          have HB := Lib.hid hbf
          have d1 : decide (x < 0) = false ∧ decide ((q : Int) ≤ x) = false := by unfold badDg at hbf; rw [Bool.or_eq_false_iff] at hbf; exact hbf
          obtain ⟨d1, d2⟩ := d1
          clear hbf hbad HXX
          go_wp2
          exact ⟨⟨j + 1, by omega, by go_num, trivial, fun i hi => by
            rcases Nat.lt_succ_iff_lt_or_eq.1 hi with h | rfl
            · exact HA.out i h
            · rw [HXE.out]; exact HB.out⟩, by simp [intOf]; omega⟩
      · obtain rfl : en = j := by omega
        have HB : Hid (withFault p k low xs = 0) := by
          show _ = _
          rw [HW.out, if_neg]
          rw [List.any_eq_true]
          rintro ⟨x, hx, hb⟩
          obtain ⟨i, hi, rfl⟩ := mem_nth _ _ hx
          rw [HA.out i (by rw [HEL.out] at hi; exact hi)] at hb
          cases hb
        have HRB := Lib.hid ((((HS.out.rb.set 0 (.int .i64 p)).set 1 (.int .i64 k)).set 2 (.slice ao len cap)).set 3 (.int .i64 q))
        have HXX2 := HXX (.int .i64 p) (.int .i64 k) (.slice ao len cap) (.int .i64 q)
        clear HXX
        go_wp2
        have k9 := HRB.out.four
        exact bodyPost_ret (v := .tuple #[.agg #[.int .i64 p, .int .i64 k, .slice ao len cap, .int .i64 q], .int .i64 0]) (by simp [results, Tryd.results26, go_sem, k9]) rfl ⟨⟨fun h => absurd HB.out h, fun _ => by rw [HQ.out]⟩, HXX2.out⟩
  · have HW : Hid (withFault p k low xs = c) := by show _ = _; rw [withFault_bad (by rw [hc]; exact h0), hc]
    have b1 : (c != 0) = true := by rw [bne_iff_ne]; exact h0
    clear hc
    go_enter Tryd.func26, Tryd.ntmps26
    go_wp2_with fail
    rw [← hw0]
    clear hw0
    refine Calls.mono HO.out ?_
    rintro e w1 ⟨hoi, hx⟩
    obtain rfl := hoi.1 (by rw [HC.out]; exact h0)
    rw [HC.out]
    have H1 := Lib.hid ((H0.out.carry hx).carry ((Ext.refl w1).alloc (.cells #[.int .i64 0, .int .i64 0, .slice none 0 0, .int .i64 0] 55)))
    have H00 := Lib.hid h0
    clear hx hoi h0
    have hr1 := H1.out.rb.four
    have hr2 := H1.out.rb.f
    have HRB := Lib.hid ((((H1.out.rb.set 0 (.int .i64 0)).set 1 (.int .i64 0)).set 2 (.slice none 0 0)).set 3 (.int .i64 0))
    have HXX : Hid (Ext w _) := (((H1.out.ext.set (p := ⟨w.heap.size + 1, 0, none⟩) (by simp) (.int .i64 0)).set (p := ⟨w.heap.size + 1, 1, none⟩) (by simp) (.int .i64 0)).set (p := ⟨w.heap.size + 1, 2, none⟩) (by simp) (.slice none 0 0)).set (p := ⟨w.heap.size + 1, 3, none⟩) (by simp) (.int .i64 0)
    go_wp2
    have k9 := HRB.out.four
    exact bodyPost_ret (v := .tuple #[.agg #[.int .i64 0, .int .i64 0, .slice none 0 0, .int .i64 0], .int .i64 c]) (by simp [results, Tryd.results26, go_sem, k9]) rfl ⟨⟨fun _ => by rw [HW.out], fun h => absurd (HW.out.symm.trans h) H00.out⟩, HXX.out⟩

end Go.Proofs.YtnfonobdfkpkeaaDoor
