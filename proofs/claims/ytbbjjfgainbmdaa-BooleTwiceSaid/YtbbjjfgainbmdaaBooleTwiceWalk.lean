/- BooleTwice is true at any list. -/
import Derived.Test.YtbbjjfgainbmdaaBooleBad
import Derived.Test.YtbbjjfgainbmdaaArgInts
namespace Go.Proofs.Ytbbjjfgainbmdaa
open Go.RowKit

/-- The spectrum leads back. -/
theorem mix_spec (t : List Int) (k j : Nat) (hj : j < 2 ^ k) : mix sg (nth (tab (spec t k) (2 ^ k))) k j = 2 ^ k * (1 - 2 * nth t j) := by
  rw [mix_all _ _ _ _ hj, ← spec_back (fun x => 1 - 2 * nth t x) k j hj]
  exact sumN_congr fun a ha => by rw [nth_tab _ _ _ ha]; rfl

theorem back_spec (b off cap k n : Nat) (t : List Int) (w : World) (ht : IsTable t k) (hn : n = 2 ^ k) (hlt : b < w.heap.size) (hc : ∀ j u, (ints (tab (spec t k) n))[j]? = some u → w.cell? ⟨b, off + j, none⟩ = some u) :
    Calls Try.prog 10 #[.slice (some ⟨b, off, none⟩) n cap] w fun e w' => ∃ ao' cap', e = .returned (.tuple #[.slice ao' n cap', .int .i64 0]) ∧ RowOf 3 w' w.heap.size ao' n cap' (ints t) ∧ Ext w w' := by
  have hsb := specL_bound t k n hn ht.nth01
  have h256 : n ≤ 256 := by rw [hn]; exact pow8 ht.k8
  have ho : (tab (spec t k) n).any (outP n) = false := by
    rw [List.any_eq_false]
    intro x hx
    obtain ⟨i, _, rfl⟩ := mem_nth _ _ hx
    have := hsb i
    unfold outP
    simp
    omega
  refine (back_in b off n cap k _ w ht.k8 hn (tab_length _ _) hlt hc ho (fun i => by have := hsb i; omega)).mono ?_
  rintro e w' ⟨hx, ⟨_, ao', cap', rfl, hr⟩ | ⟨⟨j, hj, h1, h2⟩, _⟩⟩
  · refine ⟨ao', cap', rfl, ?_, hx⟩
    have e : tab (fun j => bitOf n (mix sg (nth (tab (spec t k) n)) k j)) n = t := by
      apply nth_ext
      · rw [tab_length, ht.len, hn]
      · intro j hj
        rw [tab_length] at hj
        rw [nth_tab _ _ _ hj]
        subst hn
        rw [mix_spec t k j hj]
        have hP := two_pow_pos k
        have e2 : ((2 ^ k : Nat) : Int) = (2 : Int) ^ k := by simp
        rcases ht.nth01 j with h | h <;> rw [h] <;> unfold bitOf
        · rw [if_pos (by rw [e2]; omega)]
        · rw [if_neg (by rw [← e2]; omega)]
    rw [e] at hr
    exact hr
  · exfalso
    subst hn
    rw [mix_spec t k j hj] at h1 h2
    have e2 : ((2 ^ k : Nat) : Int) = (2 : Int) ^ k := by simp
    rcases ht.nth01 j with h | h <;> rw [h] at h1 h2 <;> rw [e2] at h1 h2 <;> omega

theorem anf_table (t : List Int) (k : Nat) (ht : IsTable t k) : IsTable (anfL t k (2 ^ k)) k :=
  ⟨ht.k8, tab_length _ _, fun x hx => by
    obtain ⟨i, hi, rfl⟩ := mem_nth _ _ hx
    unfold anfL at hi ⊢
    rw [tab_length] at hi
    rw [nth_tab _ _ _ hi]
    exact mixA_01 _ _ _⟩

set_option maxHeartbeats 1000000 in
theorem booleTwice_bad (ao : Option Addr) (n cap : Nat) (xs : List Int) (w : World) (hr : Reads w ao (ints xs)) (e : Int) (he : e ≠ 0) (hb : ∀ w, Reads w ao (ints xs) → BadTbl ao n cap e w) :
    Calls Try.prog 5 #[.slice ao n cap] w fun e w' => e = .returned (.bool true) ∧ Below w.heap.size w w' := by
  have HB : Hid (∀ w1, Ext w w1 → _) := fun w1 (hx : Ext w w1) => (hb w1 (hx.reads hr)).anf
  have b0 : (e != 0) = true := by rw [bne_iff_ne]; exact he
  clear hb hr he
  go_enter Try.func5, Try.ntmps5
  go_wp2_with fail
  refine Calls.mono (booleFact_any _) ?_
  rintro en w1 ⟨rfl, hx⟩
  go_wp2_with fail
  refine Calls.mono (HB.out _ hx) ?_
  rintro en w2 ⟨rfl, hd⟩
  have E2 := Lib.hid (Ext.drawn hx hd)
  clear hd hx
  go_wp2
  go_ret
  exact ⟨rfl, E2.out⟩

set_option maxHeartbeats 1000000 in
theorem booleTwice_ok (ao : Option Addr) (n cap k : Nat) (xs : List Int) (w : World) (hn : xs.length = n) (hr : Reads w ao (ints xs)) (ht : IsTable xs k) :
    Calls Try.prog 5 #[.slice ao n cap] w fun e w' => e = .returned (.bool true) ∧ Below w.heap.size w w' := by
  have hnk : n = 2 ^ k := by rw [← hn]; exact ht.len
  have hpos : 0 < n := by rw [hnk]; exact two_pow_pos k
  have hbig : n ≤ 256 := by rw [hnk]; exact pow8 ht.k8
  rcases hr with hr | ⟨b, off, rfl, hlt, hc⟩
  · have := congrArg List.length hr; rw [ints_length, hn] at this; simp at this; omega
  have H1 : Hid (∀ w1, Ext w w1 → _) := fun w1 (hx : Ext w w1) => anf_yes b off n cap k xs w1 hn ht (Nat.lt_of_lt_of_le hlt hx.size) (fun j u hu => by rw [hx.cell hlt]; exact hc j u hu)
  have H2 : Hid (∀ w1, Ext w w1 → _) := fun w1 (hx : Ext w w1) => spectrum_yes b off n cap k xs w1 hn ht (Nat.lt_of_lt_of_le hlt hx.size) (fun j u hu => by rw [hx.cell hlt]; exact hc j u hu)
  have HR : Hid (Reads w (some ⟨b, off, none⟩) (ints xs)) := .inr ⟨b, off, rfl, hlt, hc⟩
  have HT := Lib.hid ht
  have HTA := Lib.hid (anf_table xs k ht)
  have HTW := Lib.hid (anf_twice xs k ht)
  have HNK := Lib.hid hnk
  have HN := Lib.hid hn
  rw [← HNK.out] at HTA HTW
  clear hc ht hnk hn
  go_enter Try.func5, Try.ntmps5
  go_wp2_with fail
  refine Calls.mono (booleFact_any _) ?_
  rintro en w1 ⟨rfl, hx⟩
  have E1 : Hid (Ext w w1) := hx
  clear hx
  go_wp2_with fail
  refine Calls.mono (H1.out _ E1.out) ?_
  rintro en w2 ⟨g, cp, rfl, hrow, hx⟩
  have E2 := Lib.hid (E1.out.trans hx)
  have R2 := Lib.hid hrow.known
  clear hx hrow
  go_wp2_with fail
  refine Calls.mono (anf_yes g 0 n cp k (anfL xs k n) w2 (tab_length _ _) HTA.out R2.out.2.1 (fun j u hu => by rw [Nat.zero_add]; exact R2.out.2.2.1 j u hu)) ?_
  rintro en w3 ⟨g', cp', rfl, hrow, hx⟩
  rw [HTW.out] at hrow
  have E3 := Lib.hid (E2.out.trans hx)
  have R3 := Lib.hid hrow.reads
  clear hx hrow
  go_wp2_with fail
  refine Calls.mono (ints_any _ _ n n cp' cap xs xs w3 HN.out HN.out (by unfold maxLen; omega) (by unfold maxLen; omega) R3.out (E3.out.reads HR.out)) ?_
  rintro en w4 ⟨rfl, hd⟩
  rw [decide_eq_true (show xs = xs from rfl)]
  have E4 := Lib.hid (E3.out.drawn hd)
  clear hd
  go_wp2_with fail
  refine Calls.mono (H2.out _ E4.out) ?_
  rintro en w5 ⟨g5, cp5, rfl, hrow, hx⟩
  have E5 := Lib.hid (E4.out.trans hx)
  have R5 := Lib.hid (RowOf.known hrow)
  clear hx hrow
  go_wp2_with fail
  refine Calls.mono (back_spec g5 0 cp5 k n xs w5 HT.out HNK.out R5.out.2.1 (fun j u hu => by rw [Nat.zero_add]; exact R5.out.2.2.1 j u hu)) ?_
  rintro en w6 ⟨ao6, cp6, rfl, hrow, hx⟩
  have E6 := Lib.hid (E5.out.trans hx)
  have R6 := Lib.hid (RowOf.reads hrow)
  clear hx hrow
  go_wp2_with fail
  refine Calls.mono (ints_any _ _ n n cp6 cap xs xs w6 HN.out HN.out (by unfold maxLen; omega) (by unfold maxLen; omega) R6.out (E6.out.reads HR.out)) ?_
  rintro en w7 ⟨rfl, hd⟩
  rw [decide_eq_true (show xs = xs from rfl)]
  have E7 := Lib.hid (E6.out.drawn hd)
  clear hd
  go_wp2
  go_ret
  exact ⟨by simp, E7.out⟩

theorem booleTwice_any (ao : Option Addr) (n cap : Nat) (xs : List Int) {w : World} (hx : IntsArg w ao n cap xs) :
    Calls Try.prog 5 #[.slice ao n cap] w fun e w' => e = .returned (.bool true) ∧ Below w.heap.size w w' := by
  rcases bad_or xs n hx.len with ⟨e, he, hb⟩ | ⟨k, ht⟩
  · exact booleTwice_bad ao n cap xs w hx.reads e he (fun w hr => hb ao cap w hr)
  · exact booleTwice_ok ao n cap k xs w hx.len hx.reads ht

end Go.Proofs.Ytbbjjfgainbmdaa
