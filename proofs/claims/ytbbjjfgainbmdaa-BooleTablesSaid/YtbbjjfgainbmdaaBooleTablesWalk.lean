/- BooleTables is true at any list. -/
import Derived.Test.YtbbjjfgainbmdaaDegree
import Derived.Test.YtbbjjfgainbmdaaArgInts
namespace Go.Proofs.Ytbbjjfgainbmdaa
open Go.RowKit

theorem anfL_01 (xs : List Int) (k n i : Nat) : nth (anfL xs k n) i = 0 ∨ nth (anfL xs k n) i = 1 := by
  by_cases h : i < n
  · unfold anfL; rw [nth_tab _ _ _ h]; exact mixA_01 _ _ _
  · exact .inl (nth_out _ _ (by unfold anfL; rw [tab_length]; omega))

set_option maxRecDepth 100000 in
set_option maxHeartbeats 2000000 in
theorem booleTables_bad (ao : Option Addr) (n cap : Nat) (xs : List Int) (w : World) (hr : Reads w ao (ints xs)) (e : Int) (he : e ≠ 0) (hb : ∀ w, Reads w ao (ints xs) → BadTbl ao n cap e w) :
    Calls Try.prog 6 #[.slice ao n cap] w fun e w' => e = .returned (.bool true) ∧ Below w.heap.size w w' := by
  have HB : Hid (∀ w1, Ext w w1 → BadTbl ao n cap e w1) := fun w1 (hx : Ext w w1) => hb w1 (hx.reads hr)
  have HD : Hid (∀ w1, Ext w w1 → _) := fun w1 (hx : Ext w w1) => degree_bad ao n cap w1 e he (hb w1 (hx.reads hr))
  have b0 : (e != 0) = true := by rw [bne_iff_ne]; exact he
  have b1 : (e != e) = false := by simp
  have E0 := Lib.hid (Ext.refl w)
  clear hb hr he
  go_enter Try.func6, Try.ntmps6
  go_wp2_with fail
  refine Calls.mono ((HB.out _ E0.out).fault) ?_
  rintro en w1 ⟨rfl, hd⟩
  have E1 := Lib.hid (E0.out.drawn hd)
  clear hd
  go_wp2_with fail
  refine Calls.mono ((HB.out _ E1.out).check) ?_
  rintro en w2 ⟨rfl, hd⟩
  have E2 := Lib.hid (E1.out.drawn hd)
  clear hd
  go_wp2_with fail
  refine Calls.mono ((HB.out _ E2.out).anf) ?_
  rintro en w3 ⟨rfl, hd⟩
  have E3 := Lib.hid (E2.out.drawn hd)
  clear hd
  go_wp2_with fail
  refine Calls.mono (HD.out _ E3.out) ?_
  rintro en w4 ⟨rfl, hd⟩
  have E4 := Lib.hid (E3.out.drawn hd)
  clear hd
  go_wp2_with fail
  refine Calls.mono ((HB.out _ E4.out).spec) ?_
  rintro en w5 ⟨rfl, hd⟩
  have E5 := Lib.hid (E4.out.drawn hd)
  clear hd
  go_wp2
  go_ret
  exact ⟨rfl, E5.out⟩

set_option maxRecDepth 100000 in
set_option maxHeartbeats 2000000 in
theorem booleTables_ok (ao : Option Addr) (n cap k : Nat) (xs : List Int) (w : World) (hn : xs.length = n) (hr : Reads w ao (ints xs)) (ht : IsTable xs k) :
    Calls Try.prog 6 #[.slice ao n cap] w fun e w' => e = .returned (.bool true) ∧ Below w.heap.size w w' := by
  have hnk : n = 2 ^ k := by rw [← hn]; exact ht.len
  have hpos : 0 < n := by rw [hnk]; exact two_pow_pos k
  have hbig : n ≤ 256 := by rw [hnk]; exact pow8 ht.k8
  rcases hr with hr | ⟨b, off, rfl, hlt, hc⟩
  · have := congrArg List.length hr; rw [ints_length, hn] at this; simp at this; omega
  have HLT : ∀ w1, Ext w w1 → b < w1.heap.size := fun w1 hx => Nat.lt_of_lt_of_le hlt hx.size
  have HCC : ∀ w1, Ext w w1 → ∀ j u, (ints xs)[j]? = some u → w1.cell? ⟨b, off + j, none⟩ = some u := fun w1 hx j u hu => by rw [hx.cell hlt]; exact hc j u hu
  have H1 : Hid (∀ w1, Ext w w1 → _) := fun w1 (hx : Ext w w1) => tableFault_yes (some ⟨b, off, none⟩) cap xs n k w1 hn ht (.inr ⟨b, off, rfl, HLT w1 hx, HCC w1 hx⟩)
  have H2 : Hid (∀ w1, Ext w w1 → _) := fun w1 (hx : Ext w w1) => check_yes (some ⟨b, off, none⟩) cap xs n k w1 hn ht (.inr ⟨b, off, rfl, HLT w1 hx, HCC w1 hx⟩)
  have H3 : Hid (∀ w1, Ext w w1 → _) := fun w1 (hx : Ext w w1) => anf_yes b off n cap k xs w1 hn ht (HLT w1 hx) (HCC w1 hx)
  have H4 : Hid (∀ w1, Ext w w1 → _) := fun w1 (hx : Ext w w1) => degree_yes b off n cap k xs w1 hn ht (HLT w1 hx) (HCC w1 hx)
  have H5 : Hid (∀ w1, Ext w w1 → _) := fun w1 (hx : Ext w w1) => spectrum_yes b off n cap k xs w1 hn ht (HLT w1 hx) (HCC w1 hx)
  have H6 : Hid (∀ w1 : World, _) := fun w1 => bitsOf_yes k n w1 ht.k8 hnk
  have h7 := fun w1 (hx : Ext w w1) => anfOf_any b off n cap xs w1 hn hbig ht.nth01 (HLT w1 hx) (HCC w1 hx)
  have h9 := fun w1 (hx : Ext w w1) => spectrumOf_any b off n cap xs w1 hn hbig ht.nth01 (HLT w1 hx) (HCC w1 hx)
  have e7 : anfOfL xs n = anfL xs k n := by rw [hnk]; exact anfOf_eq xs k
  have e9 : tab (fun a => spAcc xs a n) n = tab (spec xs k) n := by rw [hnk]; exact spTab_spec xs k ht.k8 ht.nth01
  rw [e7] at h7
  rw [e9] at h9
  have H7 := Lib.hid h7
  have H9 := Lib.hid h9
  have E0 := Lib.hid (Ext.refl w)
  have b1 : ((k : Int) == (k : Int)) = true := by simp
  have HL := Lib.hid (tab_length (mixA (nth xs) k) n)
  have H01 := Lib.hid (anfL_01 xs k n)
  have HLS := Lib.hid (tab_length (spec xs k) n)
  have HAL : Hid ((anfL xs k n).length = n) := HL.out
  obtain ⟨ys, hys⟩ : ∃ ys, anfL xs k n = ys := ⟨_, rfl⟩
  obtain ⟨zs, hzs⟩ : ∃ zs, tab (spec xs k) n = zs := ⟨_, rfl⟩
  rw [hys] at H3 H4 H7 H01 HAL
  rw [hzs] at H5 H9 HLS
  obtain ⟨d, hd⟩ : ∃ d, degTo ys n = d := ⟨_, rfl⟩
  have HD := Lib.hid hd
  rw [hd] at H4
  have b2 : (d == d) = true := by simp
  clear hc ht hnk hn HLT HCC h7 h9 e7 e9 hys hzs hd HL
  go_enter Try.func6, Try.ntmps6
  go_wp2_with fail
  refine Calls.mono (H1.out _ E0.out) ?_
  rintro en w1 ⟨rfl, hd⟩
  have E1 := Lib.hid (E0.out.drawn hd)
  clear hd
  go_wp2_with fail
  refine Calls.mono (H2.out _ E1.out) ?_
  rintro en w2 ⟨rfl, hd⟩
  have E2 := Lib.hid (E1.out.drawn hd)
  clear hd
  go_wp2_with fail
  refine Calls.mono (H3.out _ E2.out) ?_
  rintro en w3 ⟨g3, cp3, rfl, hrow, hx⟩
  have E3 := Lib.hid (E2.out.trans hx)
  have R3 := Lib.hid (RowOf.reads hrow)
  clear hx hrow
  go_wp2_with fail
  refine Calls.mono (H4.out _ E3.out) ?_
  rintro en w4 ⟨rfl, hx⟩
  have E4 := Lib.hid (E3.out.trans hx)
  have R4 := Lib.hid (Ext.reads hx R3.out)
  clear hx R3
  go_wp2_with fail
  refine Calls.mono (H5.out _ E4.out) ?_
  rintro en w5 ⟨g5, cp5, rfl, hrow, hx⟩
  have E5 := Lib.hid (E4.out.trans hx)
  have R5 := Lib.hid (Ext.reads hx R4.out)
  have S5 := Lib.hid (RowOf.reads hrow)
  clear hx hrow R4
  go_wp2_with fail
  refine Calls.mono (H6.out _) ?_
  rintro en w6 ⟨rfl, rfl⟩
  go_wp2_with fail
  refine Calls.mono (H7.out _ E5.out) ?_
  rintro en w7 ⟨ao7, cp7, rfl, hrow, hx⟩
  have E7 := Lib.hid (E5.out.trans hx)
  have R7 := Lib.hid (Ext.reads hx R5.out)
  have S7 := Lib.hid (Ext.reads hx S5.out)
  have T7 := Lib.hid (RowOf.reads hrow)
  have K7 : Hid (∃ b off, ao7 = some ⟨b, off, none⟩ ∧ ∀ j u, (ints ys)[j]? = some u → w7.cell? ⟨b, off + j, none⟩ = some u) := by
    rcases RowOf.reads hrow with h | ⟨b, off, h1, _, h2⟩
    · have := congrArg List.length h; rw [ints_length, HAL.out] at this; simp at this; omega
    · exact ⟨b, off, h1, h2⟩
  clear hrow hx R5 S5 E5
  obtain ⟨b7, off7, rfl, hc7⟩ := K7.out
  have HC7 := Lib.hid hc7
  clear hc7 K7
  have h8 := degreeOf_any b7 off7 n cp7 ys w7 HAL.out hbig H01.out HC7.out
  rw [HD.out] at h8
  have H8 := Lib.hid h8
  clear h8
  go_wp2_with fail
  refine Calls.mono H8.out ?_
  rintro en w8 ⟨rfl, rfl⟩
  go_wp2_with fail
  refine Calls.mono (H9.out _ E7.out) ?_
  rintro en w9 ⟨ao9, cp9, rfl, hrow, hx⟩
  have E9 := Lib.hid (E7.out.trans hx)
  have R9 := Lib.hid (Ext.reads hx R7.out)
  have S9 := Lib.hid (Ext.reads hx S7.out)
  have T9 := Lib.hid (Ext.reads hx T7.out)
  have U9 := Lib.hid (RowOf.reads hrow)
  clear hrow hx R7 S7 T7
  go_wp2_with fail
  refine Calls.mono (ints_any _ _ n n cp3 cp7 ys ys w9 HAL.out HAL.out (by unfold maxLen; omega) (by unfold maxLen; omega) R9.out T9.out) ?_
  rintro en w10 ⟨rfl, hd⟩
  rw [decide_eq_true (show ys = ys from rfl)]
  have E10 := Lib.hid (E9.out.drawn hd)
  have S10 := Lib.hid (hd.ext.reads S9.out)
  have U10 := Lib.hid (hd.ext.reads U9.out)
  clear hd
  go_wp2_with fail
  refine Calls.mono (ints_any _ _ n n cp5 cp9 zs zs w10 HLS.out HLS.out (by unfold maxLen; omega) (by unfold maxLen; omega) S10.out U10.out) ?_
  rintro en w11 ⟨rfl, hd⟩
  rw [decide_eq_true (show zs = zs from rfl)]
  have E11 := Lib.hid (E10.out.drawn hd)
  clear hd
  go_wp2
  go_ret
  exact ⟨by simp, E11.out⟩

theorem booleTables_any (ao : Option Addr) (n cap : Nat) (xs : List Int) {w : World} (hx : IntsArg w ao n cap xs) :
    Calls Try.prog 6 #[.slice ao n cap] w fun e w' => e = .returned (.bool true) ∧ Below w.heap.size w w' := by
  rcases bad_or xs n hx.len with ⟨e, he, hb⟩ | ⟨k, ht⟩
  · exact booleTables_bad ao n cap xs w hx.reads e he (fun w hr => hb ao cap w hr)
  · exact booleTables_ok ao n cap k xs w hx.len hx.reads ht

end Go.Proofs.Ytbbjjfgainbmdaa
