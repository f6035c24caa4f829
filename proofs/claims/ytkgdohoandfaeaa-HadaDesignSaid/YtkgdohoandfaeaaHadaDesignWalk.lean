/- HadaDesign is true at any square. -/
import Derived.Test.YtkgdohoandfaeaaBlocks
import Derived.Test.YtkgdohoandfaeaaHadaFact
import Derived.Test.YtkgdohoandfaeaaDgLevel
import Derived.Test.YtkgdohoandfaeaaArgSquare
namespace Go.Proofs.Ytkgdohoandfaeaa
open Go.RowKit
set_option linter.unusedVariables false

set_option maxHeartbeats 1000000 in
theorem hadaDesign_no (m : Int) (ao : Option Addr) (len cap : Nat) (w : World) (c : Int) (hc : c ≠ 0)
    (hb : ∀ W, Ext w W → Calls Try.prog 9 #[.agg #[.int .i64 m, .slice ao len cap]] W fun e w' => e = .returned (.tuple #[.agg #[.int .i64 0, .slice none 0 0], .int .i64 c]) ∧ Ext W w') :
    Calls Try.prog 4 #[.agg #[.int .i64 m, .slice ao len cap]] w fun e w' => e = .returned (.bool true) ∧ Ext w w' := by
  have E0 := Lib.hid (ext_box w #[.int .i64 m, .slice ao len cap] 24)
  have F0 := Lib.hid (Blk.new w #[.int .i64 m, .slice ao len cap] 24)
  have HB := Lib.hid hb
  have b0 : (c != 0) = true := by rw [bne_iff_ne]; exact hc
  clear hb hc
  go_enter Try.func4, Try.ntmps4
  go_wp2_with fail
  refine Calls.mono (hadaFact_any _) ?_
  rintro e w1 ⟨rfl, hx⟩
  have E1 := Lib.hid (E0.out.trans hx)
  have F1 := Lib.hid (F0.out.ext hx)
  have k1 := F1.out.two
  clear hx
  go_wp2_with fail
  refine Calls.mono (HB.out w1 E1.out) ?_
  rintro e w2 ⟨rfl, hx⟩
  have E2 := Lib.hid (E1.out.trans hx)
  clear hx k1
  go_wp2
  go_ret
  exact ⟨by simp, E2.out.alloc _⟩

set_option maxHeartbeats 2000000 in
theorem hadaDesign_ok (n : Nat) (ao : Option Addr) (len cap : Nat) (xs : List Int) (w : World) (hl : xs.length = len) (hr : Reads w ao (ints xs)) (hm : IsMat n xs) (ho : Orth n xs) (h4 : 4 ≤ n) :
    Calls Try.prog 4 #[.agg #[.int .i64 n, .slice ao len cap]] w fun e w' => e = .returned (.bool true) ∧ Ext w w' := by
  have hm2 := isMat_evenOf hm
  have ho2 := orth_evenOf hm ho
  have hri : Rims n (evenOf n xs) := fun i hi => by
    have h1 := at2_evenOf xs (i := 0) (show 0 < n by omega) hi
    have h2 := at2_evenOf xs hi (show 0 < n by omega)
    rw [evenCell_row hm hi] at h1
    rw [evenCell_col hm hi] at h2
    unfold at2 at h1 h2
    rw [Nat.zero_mul, Nat.zero_add] at h1
    exact ⟨h1, h2⟩
  have hn4 : n % 4 = 0 := by rcases side_law hm ho with h | h | h <;> omega
  obtain ⟨q, rfl⟩ : ∃ q, n = 4 * q := ⟨n / 4, by omega⟩
  have hq1 : 1 ≤ q := by omega
  have hq6 : q ≤ 6 := by have := hm.big; omega
  have HB : Hid (∀ W, Ext w W → _) := fun W (h : Ext w W) => blocks_ok (4 * q) ao len cap xs W hl (h.reads hr) hm ho h4
  have hlev : ∀ bo cap' W, ReadsL W bo (blocksOf (4 * q) (evenOf (4 * q) xs)) → Calls Try.prog 15 #[.agg #[.int .i64 ((4 * q - 1 : Nat) : Int), .slice bo (4 * q - 1) cap'], .int .i64 2] W fun e w' => e = .returned (.tuple #[.int .i64 ((2 * q - 1 : Nat) : Int), .int .i64 ((q - 1 : Nat) : Int), .int .i64 0]) ∧ Ext W w' := fun bo cap' W h => by
    have hrow : ∀ i, i < 4 * q - 1 → row (blocksOf (4 * q) (evenOf (4 * q) xs)) i = onesTo (evenOf (4 * q) xs) (4 * q) (i + 1) (4 * q - 1) := fun i hi => row_blocksTo _ _ _ i hi
    refine level_ok (4 * q - 1) (4 * q - 1) (2 * q - 1) (q - 1) bo cap' (blocksOf (4 * q) (evenOf (4 * q) xs)) W (by omega) (by omega) (blocksTo_length _ _ _) (by omega) (by omega) h (fun i hi => ?_) (fun i hi => ?_) (fun a b hab hb => ?_)
    · rw [hrow i hi]; exact block_onesTo _ _ _ _
    · rw [hrow i hi]
      have := size_law hm2 ho2 hri h4 (i + 1) (by omega) (by omega)
      omega
    · have := level_law hm2 ho2 hri h4 a b hab hb
      omega
  have HL : Hid (∀ bo cap' W, ReadsL W bo (blocksOf (4 * q) (evenOf (4 * q) xs)) → _) := hlev
  have HCV : Hid (((4 * q : Nat) : Int) - 1 = ((4 * q - 1 : Nat) : Int)) := by show _ = _; omega
  obtain ⟨P, hP⟩ : ∃ P : Nat, 4 * q - 1 = P := ⟨_, rfl⟩
  obtain ⟨K, hK⟩ : ∃ K : Nat, 2 * q - 1 = K := ⟨_, rfl⟩
  obtain ⟨L, hL⟩ : ∃ L : Nat, q - 1 = L := ⟨_, rfl⟩
  obtain ⟨n, hn⟩ : ∃ n : Nat, 4 * q = n := ⟨_, rfl⟩
  rw [hP, hK, hL] at HL
  rw [HCV.out, hP] at HB
  have hdiv : (n : Int) / 4 = q := by omega
  have hb1 : ((K : Int) == 2 * (q : Int) - 1) = true := by rw [beq_iff_eq]; omega
  have hb2 : ((L : Int) == (q : Int) - 1) = true := by rw [beq_iff_eq]; omega
  have hb3 : ((P : Int) == (n : Int) - 1) = true := by rw [beq_iff_eq]; omega
  rw [hn] at HL HB ⊢
  have hn24 : n ≤ 24 := by omega
  have hn4' : 4 ≤ n := by omega
  clear hlev HCV hP hK hL hn hl hr hm ho h4 hm2 ho2 hri hn4
  have E0 := Lib.hid (ext_box w #[.int .i64 n, .slice ao len cap] 24)
  have F0 := Lib.hid (Blk.new w #[.int .i64 n, .slice ao len cap] 24)
  go_enter Try.func4, Try.ntmps4
  go_wp2_with fail
  refine Calls.mono (hadaFact_any _) ?_
  rintro e w1 ⟨rfl, hx⟩
  have E1 := Lib.hid (E0.out.trans hx)
  have F1 := Lib.hid (F0.out.ext hx)
  have k1 := F1.out.two
  clear hx
  go_wp2_with fail
  refine Calls.mono (HB.out w1 E1.out) ?_
  rintro e w2 ⟨bo, bc, rfl, hrl, hx⟩
  have E2 := Lib.hid ((E1.out.trans hx).alloc (.cells #[.int .i64 P, .slice bo P bc] 33))
  have F2 := Lib.hid ((F1.out.ext hx).alloc (.cells #[.int .i64 P, .slice bo P bc] 33))
  have D2 := Lib.hid (Blk.new w2 #[.int .i64 P, .slice bo P bc] 33)
  have LV := Lib.hid (HL.out bo bc _ (hrl.ext (ext_box w2 #[.int .i64 P, .slice bo P bc] 33)))
  have k2 := F2.out.two
  clear hx hrl k1
  go_wp2_with fail
  refine Calls.mono LV.out ?_
  rintro e w3 ⟨rfl, hx⟩
  have E3 := Lib.hid (E2.out.trans hx)
  have k3 := (F2.out.ext hx).two
  have k4 := (D2.out.ext hx).two
  clear hx k2
  go_wp2
  go_ret
  exact ⟨by simp, E3.out⟩

theorem hadaDesign_any (m : Int) (ao : Option Addr) (n cap : Nat) (xs : List Int) {w : World} (hx : IntsArg w ao n cap xs) (_ : -9223372036854775808 ≤ m) (_ : m ≤ 9223372036854775807) :
    Calls Try.prog 4 #[.agg #[.int .i64 m, .slice ao n cap]] w fun e w' => e = .returned (.bool true) ∧ Below w.heap.size w w' := by
  by_cases h : signsFaultOf m xs = 0
  · obtain ⟨k, rfl, hm, ho⟩ := signsFaultOf_zero h
    by_cases h4 : k < 4
    · exact hadaDesign_no k ao n cap w 2 (by decide) fun W hW => blocks_small k ao n cap xs W hx.len (hW.reads hx.reads) hm ho h4
    · exact hadaDesign_ok k ao n cap xs w hx.len hx.reads hm ho (by omega)
  · exact hadaDesign_no m ao n cap w _ h fun W hW => blocks_bad m ao n cap xs W hx.len (hW.reads hx.reads) h

end Go.Proofs.Ytkgdohoandfaeaa
