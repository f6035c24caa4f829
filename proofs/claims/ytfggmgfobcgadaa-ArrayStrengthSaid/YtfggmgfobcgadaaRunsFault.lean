/- What parterreref3.RunsFault answers at any runs: as array.Check. -/
import Derived.Test.YtfggmgfobcgadaaRuns
namespace Go.Proofs.Ytfggmgfobcgadaa
open Go.RowKit

theorem any_no {p : Int → Bool} {xs : List Int} (h : ∀ q, q < xs.length → p (nth xs q) = false) : xs.any p = false := by
  rw [List.any_eq_false]
  intro x hx
  obtain ⟨j, hj, rfl⟩ := List.getElem_of_mem hx
  rw [← nth_eq _ _ hj, h j hj]; simp
theorem any_yes {p : Int → Bool} {xs : List Int} {q : Nat} (hq : q < xs.length) (h : p (nth xs q) = true) : xs.any p = true :=
  List.any_eq_true.2 ⟨_, nth_mem xs q hq, h⟩

set_option maxHeartbeats 400000 in
theorem fault_range (s : Int) (ao : Option Addr) (n cap : Nat) (w : World) (hm : s < 2 ∨ 64 < s) :
    Calls Try.prog 16 #[.int .i64 s, .slice ao n cap] w fun e w' => e = .returned (.int .i64 1) ∧ Drawn w w' := by
  rcases hm with hm | hm
  · have b1 : decide (s < 2) = true := decide_eq_true hm
    go_enter Try.func16, Try.ntmps16
    go_wp2
    go_ret
    exact ⟨rfl, Drawn.refl _⟩
  · have b1 : decide (s < 2) = false := decide_eq_false (by omega)
    have b2 : decide (64 < s) = true := decide_eq_true hm
    go_enter Try.func16, Try.ntmps16
    go_wp2
    go_ret
    exact ⟨rfl, Drawn.refl _⟩

set_option maxHeartbeats 400000 in
theorem fault_shape (s : Int) (ao : Option Addr) (n cap : Nat) (w : World) (h1 : 2 ≤ s) (h2 : s ≤ 64) (hn : n = 0 ∨ 128 < n) (hbig : n ≤ maxLen) :
    Calls Try.prog 16 #[.int .i64 s, .slice ao n cap] w fun e w' => e = .returned (.int .i64 (if n = 0 then 2 else 3)) ∧ Drawn w w' := by
  unfold maxLen at hbig
  have b1 : decide (s < 2) = false := decide_eq_false (by omega)
  have b2 : decide (64 < s) = false := decide_eq_false (by omega)
  rcases hn with rfl | hn
  · go_enter Try.func16, Try.ntmps16
    go_wp2
    go_ret
    exact ⟨rfl, Drawn.refl _⟩
  · rw [if_neg (by omega)]
    have b3 : ((n : Int) == 0) = false := by rw [beq_eq_false_iff_ne]; omega
    go_enter Try.func16, Try.ntmps16
    go_wp2
    go_ret
    exact ⟨rfl, Drawn.refl _⟩

set_option maxHeartbeats 4000000 in
set_option maxRecDepth 100000 in
theorem fault_rows (s : Int) (ao : Option Addr) (n cap : Nat) (xss : List (List Int)) (w : World) (hl : xss.length = n) (hr : ReadsL w ao xss) (h1 : 2 ≤ s) (h2 : s ≤ 64) (hn : 1 ≤ n) (hn2 : n ≤ 128) :
    Calls Try.prog 16 #[.int .i64 s, .slice ao n cap] w fun e w' => ∃ c, e = .returned (.int .i64 c) ∧ FirstFault s xss c ∧ Drawn w w' := by
  have b1 : decide (s < 2) = false := decide_eq_false (by omega)
  have b2 : decide (64 < s) = false := decide_eq_false (by omega)
  have b3 : ((n : Int) == 0) = false := by rw [beq_eq_false_iff_ne]; omega
  obtain ⟨b, off, rfl, hb, hc⟩ := hr.row (by omega)
  have HC := Lib.hid hc
  have HL := Lib.hid hl
  obtain ⟨a0, q0, c0, r0, l0⟩ := hc 0 (by omega)
  have l0' := l0
  unfold maxLen at l0'
  obtain ⟨k, hk⟩ : ∃ k, (row xss 0).length = k := ⟨_, rfl⟩
  have hFF : ∀ c, FirstFault s xss c ↔ (∃ j, j < n ∧ (∀ i, i < j → rowFault s k (row xss i) = 0) ∧ rowFault s k (row xss j) = c ∧ c ≠ 0) ∨ ((∀ i, i < n → rowFault s k (row xss i) = 0) ∧ c = 0) := fun c => by unfold FirstFault; rw [hk, hl]
  have HFF := Lib.hid hFF
  rw [hk] at c0 l0'
  rw [Nat.add_zero] at c0
  clear hr hl r0 l0 hc hk hFF
  go_enter Try.func16, Try.ntmps16
  go_wp2
  clear c0
  go_loopw [6] (fun a wr => ∃ i : Nat, i ≤ n ∧ a = .int .i64 i ∧ Drawn w wr ∧ ∀ j, j < i → rowFault s k (row xss j) = 0) (fun a _ => n - (intOf a).toNat)
  case atStart => exact ⟨0, by omega, rfl, Drawn.refl _, fun j h => by omega⟩
  case round =>
    obtain ⟨i, hi, rfl, hd, hall⟩ := hrel
    have HD := Lib.hid hd
    have HA := Lib.hid hall
    clear hd hall
    by_cases hin : i < n
    · obtain ⟨a, q, c1, r1, l1⟩ := HC.out i (by rw [HL.out]; exact hin)
      have HC1 := Lib.hid c1
      have HRR := Lib.hid r1
      obtain ⟨xs, hxs⟩ : ∃ xs, row xss i = xs := ⟨_, rfl⟩
      have hbad : rowFault s k (row xss i) ≠ 0 → FirstFault s xss (rowFault s k (row xss i)) := fun h => (HFF.out _).2 (.inl ⟨i, hin, HA.out, rfl, h⟩)
      have hgood : rowFault s k (row xss i) = 0 → ∀ j, j < i + 1 → rowFault s k (row xss j) = 0 := fun h j hj => by
        rcases Nat.lt_succ_iff_lt_or_eq.1 hj with h' | rfl
        · exact HA.out j h'
        · exact h
      rw [← HD.out.cell] at c1
      rw [hxs] at hbad hgood c1 l1 HC1 HRR
      have HB := Lib.hid hbad
      have HG := Lib.hid hgood
      have l1' := l1
      unfold maxLen at l1'
      obtain ⟨z, hz⟩ : ∃ z, xs.length = z := ⟨_, rfl⟩
      rw [hz] at c1 l1' HC1
      have HZ := Lib.hid hz
      clear hbad hgood l1 r1 hxs hz
      by_cases hsh : z ≠ k ∨ k = 0 ∨ 8 < k
      · have HV : Hid (rowFault s k xs = 2) := by show _ = _; unfold rowFault; rw [HZ.out, if_pos hsh]
        rw [HV.out] at HB
        have hcs : ((z : Int) != (k : Int)) = true ∨ (((z : Int) != (k : Int)) = false ∧ ((k : Int) == 0) = true) ∨ (((z : Int) != (k : Int)) = false ∧ ((k : Int) == 0) = false ∧ 8 < k) := by
          by_cases h1 : z = k
          · have e1 : ((z : Int) != (k : Int)) = false := by rw [h1]; simp
            by_cases h2 : k = 0
            · exact .inr (.inl ⟨e1, by rw [h2]; rfl⟩)
            · exact .inr (.inr ⟨e1, by rw [beq_eq_false_iff_ne]; omega, by omega⟩)
          · exact .inl (by rw [bne_iff_ne]; omega)
        clear hsh
        rcases hcs with e1 | ⟨e1, e2⟩ | ⟨e1, e2, e3⟩
        all_goals
          go_wp2
          go_ret
          exact ⟨2, rfl, HB.out (by decide), HD.out⟩
      · have e1 : ((z : Int) != (k : Int)) = false := by rw [show z = k by omega]; simp
        have e2 : ((k : Int) == 0) = false := by rw [beq_eq_false_iff_ne]; omega
        have e3 : ¬ 8 < k := by omega
        have e4 : k = z := by omega
        have HSH := Lib.hid hsh
        have HKZ := Lib.hid e4
        clear hsh e4
        obtain ⟨wo, rfl⟩ : ∃ wo : World, wo = wr := ⟨_, rfl⟩
        go_wp2
        go_loopw [7] (fun a wr => ∃ j : Nat, j ≤ k ∧ a = .int .i64 j ∧ Drawn w wr ∧ ∀ q, q < j → badAt s (nth xs q) = false) (fun a _ => k - (intOf a).toNat)
        case atStart => exact ⟨0, by omega, rfl, HD.out, fun q h => by omega⟩
        case round =>
          obtain ⟨j, hj, rfl, hd, hall⟩ := hrel
          have HD2 := Lib.hid hd
          have HA2 := Lib.hid hall
          clear hd hall c1
          by_cases hjk : j < k
          · have c1 := HC1.out
            rw [← HD2.out.cell] at c1
            obtain ⟨bi, oi, rfl, hbi, hci⟩ := Reads.int HRR.out (by rw [HZ.out]; have := HKZ.out; omega)
            have c2 := hci j (by rw [HZ.out]; have := HKZ.out; omega)
            rw [← HD2.out.cell] at c2
            have HBD : Hid (badAt s (nth xs j) = true → FirstFault s xss 1) := fun h => by
              have hv : rowFault s k xs = 1 := by unfold rowFault; rw [HZ.out, if_neg HSH.out, if_pos (any_yes (by rw [HZ.out]; have := HKZ.out; omega) h)]
              have := HB.out (by rw [hv]; decide)
              rwa [hv] at this
            have HOK : Hid (badAt s (nth xs j) = false → ∀ q, q < j + 1 → badAt s (nth xs q) = false) := fun h q hq => by
              rcases Nat.lt_succ_iff_lt_or_eq.1 hq with h' | rfl
              · exact HA2.out q h'
              · exact h
            have hjz : j < z := by have := HKZ.out; omega
            obtain ⟨x, hx⟩ : ∃ x, nth xs j = x := ⟨_, rfl⟩
            rw [hx] at c2 HBD HOK
            clear hx hci
            by_cases x0 : x < 0
            · have d1 : decide (x < 0) = true := decide_eq_true x0
              have HV : Hid (badAt s x = true) := by show _ = _; unfold badAt; rw [d1]; rfl
              clear x0
              go_wp2
              go_ret
              exact ⟨1, rfl, HBD.out HV.out, HD2.out⟩
            · have d1 : decide (x < 0) = false := decide_eq_false x0
              by_cases xs0 : s ≤ x
              · have d2 : decide (s ≤ x) = true := decide_eq_true xs0
                have HV : Hid (badAt s x = true) := by show _ = _; unfold badAt; rw [d2]; simp
                clear x0 xs0
                go_wp2
                go_ret
                exact ⟨1, rfl, HBD.out HV.out, HD2.out⟩
              · have d2 : decide (s ≤ x) = false := decide_eq_false xs0
                have HV : Hid (badAt s x = false) := by show _ = _; unfold badAt; rw [d1, d2]; rfl
                clear x0 xs0
                go_wp2
                go_roundw
                case rel => exact ⟨j + 1, by omega, by go_num, HD2.out, HOK.out HV.out⟩
                case measure => simp [intOf] <;> omega
          · obtain rfl : k = j := by omega
            have HV : Hid (rowFault s k xs = 0) := by
              show _ = _; unfold rowFault
              rw [HZ.out, if_neg HSH.out, if_neg]
              rw [any_no (fun q hq => HA2.out q (by rw [HZ.out] at hq; have := HKZ.out; omega))]
              simp
            go_wp2
            go_roundw
            case rel => exact ⟨i + 1, by omega, by go_num, HD2.out, HG.out HV.out⟩
            case measure => simp [intOf] <;> omega
    · obtain rfl : n = i := by omega
      go_wp2
      go_ret
      exact ⟨0, rfl, (HFF.out _).2 (.inr ⟨HA.out, rfl⟩), HD.out⟩

theorem runsFault_any (s : Int) (ao : Option Addr) (n cap : Nat) (xss : List (List Int)) (w : World) (hl : xss.length = n) (hbig : n ≤ maxLen) (hr : ReadsL w ao xss) :
    Calls Try.prog 16 #[.int .i64 s, .slice ao n cap] w fun e w' => ∃ c, e = .returned (.int .i64 c) ∧ RunsAre s xss c ∧ Drawn w w' := by
  by_cases h : s < 2 ∨ 64 < s
  · exact (fault_range s ao n cap w h).mono fun e w' h' => ⟨_, h'.1, .inl ⟨h, rfl⟩, h'.2⟩
  · by_cases hn : n = 0 ∨ 128 < n
    · refine (fault_shape s ao n cap w (by omega) (by omega) hn hbig).mono fun e w' h' => ⟨_, h'.1, ?_, h'.2⟩
      by_cases h0 : n = 0
      · rw [if_pos h0]; exact .inr (.inl ⟨by omega, by omega, by omega, rfl⟩)
      · rw [if_neg h0]; exact .inr (.inr (.inl ⟨by omega, by omega, by omega, rfl⟩))
    · exact (fault_rows s ao n cap xss w hl hr (by omega) (by omega) (by omega) (by omega)).mono fun e w' ⟨c, h1, h2, h3⟩ => ⟨c, h1, .inr (.inr (.inr ⟨by omega, by omega, by omega, by omega, h2⟩)), h3⟩

end Go.Proofs.Ytfggmgfobcgadaa
