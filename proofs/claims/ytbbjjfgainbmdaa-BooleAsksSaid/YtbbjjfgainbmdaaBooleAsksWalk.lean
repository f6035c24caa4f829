/- BooleAsks is true at any list. -/
import Derived.Test.YtbbjjfgainbmdaaAsks
import Derived.Test.YtbbjjfgainbmdaaArgInts
namespace Go.Proofs.Ytbbjjfgainbmdaa
open Go.RowKit

set_option maxHeartbeats 1000000 in
theorem booleAsks_bad (ao : Option Addr) (n cap : Nat) (xs : List Int) (w : World) (hr : Reads w ao (ints xs)) (e : Int) (he : e ≠ 0) (hb : ∀ w, Reads w ao (ints xs) → BadTbl ao n cap e w) :
    Calls Try.prog 7 #[.slice ao n cap] w fun e w' => e = .returned (.bool true) ∧ Below w.heap.size w w' := by
  have HB : Hid (∀ w1, Ext w w1 → BadTbl ao n cap e w1) := fun w1 (hx : Ext w w1) => hb w1 (hx.reads hr)
  have H2 : Hid (∀ w1, Ext w w1 → _) := fun w1 (hx : Ext w w1) => far_bad ao n cap w1 e he (hb w1 (hx.reads hr))
  have H3 : Hid (∀ w1, Ext w w1 → _) := fun w1 (hx : Ext w w1) => bent_bad ao n cap w1 e he (hb w1 (hx.reads hr))
  have H4 : Hid (∀ w1, Ext w w1 → _) := fun w1 (hx : Ext w w1) => immune_bad ao n cap w1 e he (hb w1 (hx.reads hr))
  have b0 : (e != 0) = true := by rw [bne_iff_ne]; exact he
  have b1 : (e != e) = false := by simp
  have E0 := Lib.hid (Ext.refl w)
  clear hb hr he
  go_enter Try.func7, Try.ntmps7
  go_wp2_with fail
  refine Calls.mono ((HB.out _ E0.out).fault) ?_
  rintro en w1 ⟨rfl, hd⟩
  have E1 := Lib.hid (E0.out.drawn hd)
  clear hd
  go_wp2_with fail
  refine Calls.mono (H2.out _ E1.out) ?_
  rintro en w2 ⟨rfl, hd⟩
  have E2 := Lib.hid (E1.out.drawn hd)
  clear hd
  go_wp2_with fail
  refine Calls.mono (H3.out _ E2.out) ?_
  rintro en w3 ⟨rfl, hd⟩
  have E3 := Lib.hid (E2.out.drawn hd)
  clear hd
  go_wp2_with fail
  refine Calls.mono (H4.out _ E3.out) ?_
  rintro en w4 ⟨rfl, hd⟩
  have E4 := Lib.hid (E3.out.drawn hd)
  clear hd
  go_wp2
  go_ret
  exact ⟨rfl, E4.out⟩

set_option maxRecDepth 100000 in
set_option maxHeartbeats 2000000 in
theorem booleAsks_ok (ao : Option Addr) (n cap k : Nat) (xs : List Int) (w : World) (hn : xs.length = n) (hr : Reads w ao (ints xs)) (ht : IsTable xs k) :
    Calls Try.prog 7 #[.slice ao n cap] w fun e w' => e = .returned (.bool true) ∧ Below w.heap.size w w' := by
  have hnk : n = 2 ^ k := by rw [← hn]; exact ht.len
  have hpos : 0 < n := by rw [hnk]; exact two_pow_pos k
  have hbig : n ≤ 256 := by rw [hnk]; exact pow8 ht.k8
  rcases hr with hr | ⟨b, off, rfl, hlt, hc⟩
  · have := congrArg List.length hr; rw [ints_length, hn] at this; simp at this; omega
  have HLT : ∀ w1, Ext w w1 → b < w1.heap.size := fun w1 hx => Nat.lt_of_lt_of_le hlt hx.size
  have HCC : ∀ w1, Ext w w1 → ∀ j u, (ints xs)[j]? = some u → w1.cell? ⟨b, off + j, none⟩ = some u := fun w1 hx j u hu => by rw [hx.cell hlt]; exact hc j u hu
  have H1 : Hid (∀ w1, Ext w w1 → _) := fun w1 (hx : Ext w w1) => tableFault_yes (some ⟨b, off, none⟩) cap xs n k w1 hn ht (.inr ⟨b, off, rfl, HLT w1 hx, HCC w1 hx⟩)
  have H2 : Hid (∀ w1, Ext w w1 → _) := fun w1 (hx : Ext w w1) => far_yes b off n cap k xs w1 hn ht (HLT w1 hx) (HCC w1 hx)
  have H3 : Hid (∀ w1, Ext w w1 → _) := fun w1 (hx : Ext w w1) => bent_yes b off n cap k xs w1 hn ht (HLT w1 hx) (HCC w1 hx)
  have H4 : Hid (∀ w1, Ext w w1 → _) := fun w1 (hx : Ext w w1) => immune_yes b off n cap k xs w1 hn ht (HLT w1 hx) (HCC w1 hx)
  have h5 := fun w1 (hx : Ext w w1) => spectrumOf_any b off n cap xs w1 hn hbig ht.nth01 (HLT w1 hx) (HCC w1 hx)
  have e5 : tab (fun a => spAcc xs a n) n = tab (spec xs k) n := by rw [hnk]; exact spTab_spec xs k ht.k8 ht.nth01
  rw [e5] at h5
  have h6 := fun w1 (hx : Ext w w1) => farOf_any b off n cap xs w1 hn hbig ht.nth01 (HCC w1 hx)
  have e6 : farTo xs n n = farV xs k n := by
    have h1 := far_exact xs k n ht.k8 hnk ht.nth01
    have h2 := farTo_most xs k ht.k8 ht.nth01 (n - 1) (by rw [← hnk]; omega)
    rw [← hnk, show n - 1 + 1 = n by omega] at h2
    omega
  rw [e6] at h6
  have HSB := specL_bound xs k n hnk ht.nth01
  have H7 : Hid (∀ (g off : Nat) (cp : Nat) (w1 : World), (∀ j u, (ints (tab (spec xs k) n))[j]? = some u → w1.cell? ⟨g, off + j, none⟩ = some u) → _) := fun g off cp w1 hc => bentOf_any g off n cp (tab (spec xs k) n) w1 (tab_length _ _) hpos hbig (fun i => by have := HSB i; omega) hc
  have H8 : Hid (∀ (g off : Nat) (cp : Nat) (w1 : World), (∀ j u, (ints (tab (spec xs k) n))[j]? = some u → w1.cell? ⟨g, off + j, none⟩ = some u) → _) := fun g off cp w1 hc => immuneOf_any g off n cp k (tab (spec xs k) n) w1 ht.k8 hnk (tab_length _ _) hc
  have HBV : Hid (decide (mostTo (tab (spec xs k) n) n = leastTo (tab (spec xs k) n) n) = bentB xs k n) := rfl
  rw [HBV.out] at H7
  have H5 := Lib.hid h5
  have H6 := Lib.hid h6
  have HLS := Lib.hid (tab_length (spec xs k) n)
  obtain ⟨zs, hzs⟩ : ∃ zs, tab (spec xs k) n = zs := ⟨_, rfl⟩
  rw [hzs] at H4 H5 H7 H8 HLS
  obtain ⟨f, hf⟩ : ∃ f, farV xs k n = f := ⟨_, rfl⟩
  obtain ⟨m, hm⟩ : ∃ m, immTo zs k n = m := ⟨_, rfl⟩
  obtain ⟨v, hv⟩ : ∃ v, bentB xs k n = v := ⟨_, rfl⟩
  rw [hf] at H2 H6
  rw [hm] at H4 H8
  rw [hv] at H3 H7
  have b1 : (f == f) = true := by simp
  have b2 : (m == m) = true := by simp
  have E0 := Lib.hid (Ext.refl w)
  clear hc ht hnk hn HLT HCC h5 h6 e5 e6 hzs hf hm hv HSB HBV
  cases v
  all_goals
    go_enter Try.func7, Try.ntmps7
    go_wp2_with fail
    refine Calls.mono (H1.out _ E0.out) ?_
    rintro en w1 ⟨rfl, hd⟩
    have E1 := Lib.hid (E0.out.drawn hd)
    clear hd
    go_wp2_with fail
    refine Calls.mono (H2.out _ E1.out) ?_
    rintro en w2 ⟨rfl, hx⟩
    have E2 := Lib.hid (E1.out.trans hx)
    clear hx
    go_wp2_with fail
    refine Calls.mono (H3.out _ E2.out) ?_
    rintro en w3 ⟨rfl, hx⟩
    have E3 := Lib.hid (E2.out.trans hx)
    clear hx
    go_wp2_with fail
    refine Calls.mono (H4.out _ E3.out) ?_
    rintro en w4 ⟨rfl, hx⟩
    have E4 := Lib.hid (E3.out.trans hx)
    clear hx
    go_wp2_with fail
    refine Calls.mono (H5.out _ E4.out) ?_
    rintro en w5 ⟨ao5, cp5, rfl, hrow, hx⟩
    have E5 := Lib.hid (E4.out.trans hx)
    have K5 : Hid (∃ b off, ao5 = some ⟨b, off, none⟩ ∧ ∀ j u, (ints zs)[j]? = some u → w5.cell? ⟨b, off + j, none⟩ = some u) := by
      rcases RowOf.reads hrow with h | ⟨b, off, h1, _, h2⟩
      · have := congrArg List.length h; rw [ints_length, HLS.out] at this; simp at this; omega
      · exact ⟨b, off, h1, h2⟩
    clear hrow hx
    obtain ⟨b5, off5, rfl, hc5⟩ := K5.out
    have HC5 := Lib.hid hc5
    clear hc5 K5
    go_wp2_with fail
    refine Calls.mono (H6.out _ E5.out) ?_
    rintro en w6 ⟨rfl, rfl⟩
    go_wp2_with fail
    refine Calls.mono (H7.out b5 off5 cp5 _ HC5.out) ?_
    rintro en w7 ⟨rfl, hd⟩
    have E7 := Lib.hid (E5.out.drawn hd)
    have HC7 : Hid (∀ j u, (ints zs)[j]? = some u → w7.cell? ⟨b5, off5 + j, none⟩ = some u) := fun j u hu => by rw [hd.cell]; exact HC5.out j u hu
    clear hd
    go_wp2_with fail
    refine Calls.mono (H8.out b5 off5 cp5 _ HC7.out) ?_
    rintro en w8 ⟨rfl, rfl⟩
    go_wp2
    go_ret
    exact ⟨by simp, E7.out⟩

theorem booleAsks_any (ao : Option Addr) (n cap : Nat) (xs : List Int) {w : World} (hx : IntsArg w ao n cap xs) :
    Calls Try.prog 7 #[.slice ao n cap] w fun e w' => e = .returned (.bool true) ∧ Below w.heap.size w w' := by
  rcases bad_or xs n hx.len with ⟨e, he, hb⟩ | ⟨k, ht⟩
  · exact booleAsks_bad ao n cap xs w hx.reads e he (fun w hr => hb ao cap w hr)
  · exact booleAsks_ok ao n cap k xs w hx.len hx.reads ht

end Go.Proofs.Ytbbjjfgainbmdaa
