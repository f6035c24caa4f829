/- BooleSiegenthaler is true at any list. -/
import Derived.Test.YtbbjjfgainbmdaaSiegLaw
import Derived.Test.YtbbjjfgainbmdaaArgInts
namespace Go.Proofs.Ytbbjjfgainbmdaa
open Go.RowKit

set_option maxHeartbeats 1000000 in
theorem booleSieg_bad (ao : Option Addr) (n cap : Nat) (xs : List Int) (w : World) (hr : Reads w ao (ints xs)) (e : Int) (he : e ≠ 0) (hb : ∀ w, Reads w ao (ints xs) → BadTbl ao n cap e w) :
    Calls Try.prog 8 #[.slice ao n cap] w fun e w' => e = .returned (.bool true) ∧ Below w.heap.size w w' := by
  have HB : Hid (∀ w1, Ext w w1 → BadTbl ao n cap e w1) := fun w1 (hx : Ext w w1) => hb w1 (hx.reads hr)
  have b0 : (e != 0) = true := by rw [bne_iff_ne]; exact he
  have E0 := Lib.hid (Ext.refl w)
  clear hb hr he
  go_enter Try.func8, Try.ntmps8
  go_wp2_with fail
  refine Calls.mono (booleFact_any _) ?_
  rintro en w1 ⟨rfl, hx⟩
  have E1 := Lib.hid (E0.out.trans hx)
  clear hx
  go_wp2_with fail
  refine Calls.mono ((HB.out _ E1.out).check) ?_
  rintro en w2 ⟨rfl, hd⟩
  have E2 := Lib.hid (E1.out.drawn hd)
  clear hd
  go_wp2
  go_ret
  exact ⟨rfl, E2.out⟩

set_option maxHeartbeats 1000000 in
theorem booleSieg_ok (ao : Option Addr) (n cap k : Nat) (xs : List Int) (w : World) (hn : xs.length = n) (hr : Reads w ao (ints xs)) (ht : IsTable xs k) :
    Calls Try.prog 8 #[.slice ao n cap] w fun e w' => e = .returned (.bool true) ∧ Below w.heap.size w w' := by
  have hnk : n = 2 ^ k := by rw [← hn]; exact ht.len
  have hpos : 0 < n := by rw [hnk]; exact two_pow_pos k
  have hbig : n ≤ 256 := by rw [hnk]; exact pow8 ht.k8
  rcases hr with hr | ⟨b, off, rfl, hlt, hc⟩
  · have := congrArg List.length hr; rw [ints_length, hn] at this; simp at this; omega
  have HLT : ∀ w1, Ext w w1 → b < w1.heap.size := fun w1 hx => Nat.lt_of_lt_of_le hlt hx.size
  have HCC : ∀ w1, Ext w w1 → ∀ j u, (ints xs)[j]? = some u → w1.cell? ⟨b, off + j, none⟩ = some u := fun w1 hx j u hu => by rw [hx.cell hlt]; exact hc j u hu
  have H2 : Hid (∀ w1, Ext w w1 → _) := fun w1 (hx : Ext w w1) => check_yes (some ⟨b, off, none⟩) cap xs n k w1 hn ht (.inr ⟨b, off, rfl, HLT w1 hx, HCC w1 hx⟩)
  have H4 : Hid (∀ w1, Ext w w1 → _) := fun w1 (hx : Ext w w1) => degree_yes b off n cap k xs w1 hn ht (HLT w1 hx) (HCC w1 hx)
  have H5 : Hid (∀ w1, Ext w w1 → _) := fun w1 (hx : Ext w w1) => immune_yes b off n cap k xs w1 hn ht (HLT w1 hx) (HCC w1 hx)
  have hsg := siegenthaler xs k ht
  rw [← hnk] at hsg
  have hd := degTo_bound (anfL xs k n) n
  have hi := immTo_bound (tab (spec xs k) n) k n hbig
  have hk8 := ht.k8
  obtain ⟨d, hdd⟩ : ∃ d, degTo (anfL xs k n) n = d := ⟨_, rfl⟩
  obtain ⟨m, hmm⟩ : ∃ m, immTo (tab (spec xs k) n) k n = m := ⟨_, rfl⟩
  rw [hdd] at H4 hsg hd
  rw [hmm] at H5 hsg hi
  obtain ⟨hd1, hd2⟩ := hd
  have hle : decide (d + m ≤ (k : Int)) = true := decide_eq_true hsg
  have E0 := Lib.hid (Ext.refl w)
  clear hc ht hnk hn HLT HCC hdd hmm
  go_enter Try.func8, Try.ntmps8
  go_wp2_with fail
  refine Calls.mono (booleFact_any _) ?_
  rintro en w1 ⟨rfl, hx⟩
  have E1 := Lib.hid (E0.out.trans hx)
  clear hx
  go_wp2_with fail
  refine Calls.mono (H2.out _ E1.out) ?_
  rintro en w2 ⟨rfl, hd⟩
  have E2 := Lib.hid (E1.out.drawn hd)
  clear hd
  go_wp2_with fail
  refine Calls.mono (H4.out _ E2.out) ?_
  rintro en w3 ⟨rfl, hx⟩
  have E3 := Lib.hid (E2.out.trans hx)
  clear hx
  go_wp2_with fail
  refine Calls.mono (H5.out _ E3.out) ?_
  rintro en w4 ⟨rfl, hx⟩
  have E4 := Lib.hid (E3.out.trans hx)
  clear hx
  go_wp2
  go_ret
  exact ⟨by simp, E4.out⟩

theorem booleSieg_any (ao : Option Addr) (n cap : Nat) (xs : List Int) {w : World} (hx : IntsArg w ao n cap xs) :
    Calls Try.prog 8 #[.slice ao n cap] w fun e w' => e = .returned (.bool true) ∧ Below w.heap.size w w' := by
  rcases bad_or xs n hx.len with ⟨e, he, hb⟩ | ⟨k, ht⟩
  · exact booleSieg_bad ao n cap xs w hx.reads e he (fun w hr => hb ao cap w hr)
  · exact booleSieg_ok ao n cap k xs w hx.len hx.reads ht

end Go.Proofs.Ytbbjjfgainbmdaa
