/- PlaneMakes is true at any field. Condition: primes. -/
import Derived.Test.YtnfonobdfkpkeaaDoorPlPlaneOf
import Derived.Test.YtnfonobdfkpkeaaDoorPlConic
import Derived.Test.YtnfonobdfkpkeaaDoorDesigns
import Derived.Test.YtnfonobdfkpkeaaDoorIntsEq
import Derived.Test.YtnfonobdfkpkeaaDoorArgField
namespace Go.Proofs.YtnfonobdfkpkeaaDoor
open Go.RowKit
set_option linter.unusedVariables false

set_option maxHeartbeats 4000000 in
theorem planeMakes_no (p k : Int) (ao : Option Addr) (len cap : Nat) (w : World) (c : Int) (hc : c ≠ 0)
    (hf : ∀ W, Ext w W → Calls Tryd.prog 4 #[.agg #[.int .i64 p, .int .i64 k, .slice ao len cap]] W fun e w' => e = .returned (.int .i64 c) ∧ Ext W w')
    (hm : ∀ W, Ext w W → Calls Tryd.prog 5 #[.agg #[.int .i64 p, .int .i64 k, .slice ao len cap]] W fun e w' => e = .returned (.tuple #[.agg #[.int .i64 0, .slice none 0 0], .int .i64 c]) ∧ Ext W w')
    (hn : ∀ W, Ext w W → Calls Tryd.prog 6 #[.agg #[.int .i64 p, .int .i64 k, .slice ao len cap]] W fun e w' => e = .returned (.tuple #[.slice none 0 0, .int .i64 c]) ∧ Ext W w') :
    Calls Tryd.prog 3 #[.agg #[.int .i64 p, .int .i64 k, .slice ao len cap]] w fun e w' => e = .returned (.bool true) ∧ Ext w w' := by
  have E0 := Lib.hid (ext_box w #[.int .i64 p, .int .i64 k, .slice ao len cap] 24)
  have F0 := Lib.hid (Blk.new w #[.int .i64 p, .int .i64 k, .slice ao len cap] 24)
  have HF := Lib.hid hf
  have HM := Lib.hid hm
  have HN := Lib.hid hn
  have b0 : (c != 0) = true := by rw [bne_iff_ne]; exact hc
  have b1 : (c != c) = false := by simp
  clear hf hm hn hc
  go_enter Tryd.func3, Tryd.ntmps3
  go_wp2_with fail
  refine Calls.mono (HF.out _ E0.out) ?_
  rintro e w1 ⟨rfl, hx⟩
  have E1 := Lib.hid (E0.out.trans hx)
  have F1 := Lib.hid (F0.out.ext hx)
  have k1 := F1.out.three
  clear hx
  go_wp2_with fail
  refine Calls.mono (HM.out w1 E1.out) ?_
  rintro e w2 ⟨rfl, hx⟩
  have E2 := Lib.hid ((E1.out.trans hx).alloc (.cells #[.int .i64 0, .slice none 0 0] 29))
  have F2 := Lib.hid ((F1.out.ext hx).alloc (.cells #[.int .i64 0, .slice none 0 0] 29))
  have D2 := Lib.hid (Blk.new w2 #[.int .i64 0, .slice none 0 0] 29)
  have k2 := F2.out.three
  clear hx k1
  go_wp2_with fail
  refine Calls.mono (HN.out _ E2.out) ?_
  rintro e w3 ⟨rfl, hx⟩
  have E3 := Lib.hid (E2.out.trans hx)
  have k3 := (D2.out.ext hx).two
  clear hx k2
  go_wp2_with fail
  refine Calls.mono (designs_any 0 0 none none 0 0 0 0 [] [] _ rfl rfl (by decide) (by decide) (ReadsL.nil _ _) (ReadsL.nil _ _)) ?_
  rintro e w4 ⟨rfl, hx⟩
  have E4 := Lib.hid (E3.out.trans hx)
  clear hx k3
  go_wp2
  go_ret
  exact ⟨by simp, E4.out⟩

set_option maxHeartbeats 4000000 in
theorem planeMakes_ok (p k : Nat) (ao : Option Addr) (cap : Nat) (low : List Int) (w : World) (hP : Primes w) (hF : IsField p k low) (hr : Reads w ao (ints low)) (h5 : p ^ k ≤ 5) (hz : plFault p k low = 0) :
    Calls Tryd.prog 3 #[.agg #[.int .i64 p, .int .i64 k, .slice ao k cap]] w fun e w' => e = .returned (.bool true) ∧ Ext w w' := by
  have E0 := Lib.hid (ext_box w #[.int .i64 p, .int .i64 k, .slice ao k cap] 24)
  have F0 := Lib.hid (Blk.new w #[.int .i64 p, .int .i64 k, .slice ao k cap] 24)
  have HFT : Hid (∀ W, Ext w W → _) := fun W (h : Ext w W) => planeFault_any p k ao k cap low W hF.len (h.reads hr)
  rw [hz] at HFT
  have HM : Hid (∀ W, Ext w W → _) := fun W (h : Ext w W) => plMake_ok p k ao cap low W (hP.ext h) hF (h.reads hr) h5
  have HN : Hid (∀ W, Ext w W → _) := fun W (h : Ext w W) => plConic_ok p k ao cap low W (hP.ext h) hF (h.reads hr) h5
  have HPO : Hid (∀ W, Ext w W → _) := fun W (h : Ext w W) => planeOf_any p k ao cap low W hF (h.reads hr) h5
  have HCO : Hid (∀ W, Ext w W → _) := fun W (h : Ext w W) => conicOf_any p k ao cap low W hF (h.reads hr) h5
  obtain ⟨hm1, hm31⟩ := triL_len (p ^ k) (two_le_ord hF) h5
  have HBL := Lib.hid (blksTo_len (meetB p k low) (triL (p ^ k)).length (triL (p ^ k)).length)
  have HCL := Lib.hid (selTo_len (onB p k low) (triL (p ^ k)).length)
  obtain ⟨BS, hBS⟩ : ∃ BS, blksTo (meetB p k low) (triL (p ^ k)).length (triL (p ^ k)).length = BS := ⟨_, rfl⟩
  obtain ⟨CS, hCS⟩ : ∃ CS, selTo (onB p k low) (triL (p ^ k)).length = CS := ⟨_, rfl⟩
  rw [hBS] at HM HPO HBL
  rw [hCS] at HN HCO HCL
  obtain ⟨m, hm⟩ : ∃ m, (triL (p ^ k)).length = m := ⟨_, rfl⟩
  rw [hm] at HM HPO HBL HCL hm1 hm31
  clear hP hF hr h5 hz hBS hCS hm
  go_enter Tryd.func3, Tryd.ntmps3
  go_wp2_with fail
  refine Calls.mono (HFT.out _ E0.out) ?_
  rintro e w1 ⟨rfl, hx⟩
  have E1 := Lib.hid (E0.out.trans hx)
  have F1 := Lib.hid (F0.out.ext hx)
  have k1 := F1.out.three
  clear hx
  go_wp2_with fail
  refine Calls.mono (HM.out w1 E1.out) ?_
  rintro e w2 ⟨bo, bc, rfl, hrl, hx⟩
  have E2 := Lib.hid ((E1.out.trans hx).alloc (.cells #[.int .i64 m, .slice bo m bc] 29))
  have F2 := Lib.hid ((F1.out.ext hx).alloc (.cells #[.int .i64 m, .slice bo m bc] 29))
  have D2 := Lib.hid (Blk.new w2 #[.int .i64 m, .slice bo m bc] 29)
  have R2 := Lib.hid (hrl.ext (ext_box w2 #[.int .i64 m, .slice bo m bc] 29))
  have k2 := F2.out.three
  clear hx k1 hrl
  go_wp2_with fail
  refine Calls.mono (HN.out _ E2.out) ?_
  rintro e w3 ⟨co, cn, cc, rfl, hcn, hcr, hx⟩
  have E3 := Lib.hid (E2.out.trans hx)
  have F3 := Lib.hid (F2.out.ext hx)
  have D3 := Lib.hid (D2.out.ext hx)
  have R3 := Lib.hid (R2.out.ext hx)
  have C3 := Lib.hid hcr
  have N3 := Lib.hid hcn
  have k3 := F3.out.three
  clear hx k2 hcr hcn
  go_wp2_with fail
  refine Calls.mono (HPO.out w3 E3.out) ?_
  rintro e w4 ⟨bo2, bc2, rfl, hrl, hx⟩
  have E4 := Lib.hid ((E3.out.trans hx).alloc (.cells #[.int .i64 m, .slice bo2 m bc2] 29))
  have F4 := Lib.hid ((F3.out.ext hx).alloc (.cells #[.int .i64 m, .slice bo2 m bc2] 29))
  have D4 := Lib.hid ((D3.out.ext hx).alloc (.cells #[.int .i64 m, .slice bo2 m bc2] 29))
  have R4 := Lib.hid ((R3.out.ext hx).ext (ext_box w4 #[.int .i64 m, .slice bo2 m bc2] 29))
  have S4 := Lib.hid (hrl.ext (ext_box w4 #[.int .i64 m, .slice bo2 m bc2] 29))
  have C4 := Lib.hid ((hx.trans (ext_box w4 #[.int .i64 m, .slice bo2 m bc2] 29)).reads C3.out)
  have k4 := D4.out.two
  clear hx k3 hrl
  go_wp2_with fail
  refine Calls.mono (designs_any m m bo bo2 m m bc bc2 BS BS _ HBL.out HBL.out (by unfold maxLen; omega) (by unfold maxLen; omega) R4.out S4.out) ?_
  rintro e w5 ⟨rfl, hx⟩
  rw [decide_eq_true (show (m : Int) = m ∧ BS = BS from ⟨rfl, rfl⟩)]
  have E5 := Lib.hid (E4.out.trans hx)
  have k5 := (F4.out.ext hx).three
  have C5 := Lib.hid (Ext.reads hx C4.out)
  clear hx k4
  go_wp2_with fail
  refine Calls.mono (HCO.out w5 E5.out) ?_
  rintro e w6 ⟨co2, cn2, cc2, rfl, hcn2, hcr2, hx⟩
  have E6 := Lib.hid (E5.out.trans hx)
  have C6 := Lib.hid (Ext.reads hx C5.out)
  have hcl := HCL.out
  have hn3 := N3.out
  have HI := Lib.hid (ints_any co co2 cn cn2 cc cc2 CS CS w6 N3.out hcn2 (by unfold maxLen; omega) (by unfold maxLen; omega) C6.out hcr2)
  rw [decide_eq_true rfl] at HI
  clear hx k5 hcr2 hcn2 hcl hn3
  go_wp2_with fail
  refine Calls.mono HI.out ?_
  rintro e w7 ⟨rfl, hd⟩
  have E7 := Lib.hid (E6.out.drawn hd)
  clear hd
  go_wp2
  go_ret
  exact ⟨by simp, E7.out⟩

/-- PlaneMakes at any input. -/
theorem planeMakes_any (p k : Int) (ao : Option Addr) (len cap : Nat) (low : List Int) {w : World} (hf : IntsArg w ao len cap low) (hP : Primes w) :
    Calls Tryd.prog 3 #[.agg #[.int .i64 p, .int .i64 k, .slice ao len cap]] w fun e w' => e = .returned (.bool true) ∧ Below w.heap.size w w' := by
  by_cases h0 : plFault p k low = 0
  · obtain ⟨P, K, rfl, rfl, hF, h5⟩ := plFault_zero h0
    obtain rfl : len = K := by rw [← hf.len]; exact hF.len
    exact planeMakes_ok P len ao cap low w hP hF hf.reads h5 h0
  · have ho : ∀ W, Ext w W → Calls Tryd.prog 13 #[.agg #[.int .i64 p, .int .i64 k, .slice ao len cap]] W fun e w' => e = .returned (.tuple #[.int .i64 0, .int .i64 (plFault p k low)]) ∧ Ext W w' := fun W h => by
      by_cases hff : fieldFault p k low = 0
      · obtain ⟨P, K, rfl, rfl, hF, ho⟩ := fieldFault_zero hff
        obtain rfl : len = K := by rw [← hf.len]; exact hF.len
        have h5 : 5 < P ^ len := by
          refine Classical.byContradiction fun h5 => h0 ?_
          unfold plFault
          rw [if_neg (fun g => g hff), ho, if_neg h5]
        have he : plFault P len low = 3 := by unfold plFault; rw [if_neg (fun g => g hff), ho, if_pos h5]
        rw [he]
        exact plOpen_field P len ao cap low W (hP.ext h) hF (h.reads hf.reads) 0 3 (.inl ⟨h5, rfl, rfl⟩)
      · have he : plFault p k low = fieldFault p k low := by unfold plFault; rw [if_pos hff]
        rw [he]
        exact plOpen_bad p k ao len cap low W (hP.ext h) hf.len (h.reads hf.reads) hff
    exact planeMakes_no p k ao len cap w _ h0 (fun W h => planeFault_any p k ao len cap low W hf.len (h.reads hf.reads)) (fun W h => plMake_bad p k ao len cap W _ h0 fun W' h' => ho W' (h.trans h')) (fun W h => plConic_bad p k ao len cap W _ h0 fun W' h' => ho W' (h.trans h'))

end Go.Proofs.YtnfonobdfkpkeaaDoor
