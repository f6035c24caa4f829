/- BooleRothaus is true at any list. -/
import Derived.Test.YtbbjjfgainbmdaaRothLaw
import Derived.Test.YtbbjjfgainbmdaaArgInts
namespace Go.Proofs.Ytbbjjfgainbmdaa
open Go.RowKit

/-- Have all numbers of the spectrum one size? -/
def bentB (xs : List Int) (k n : Nat) : Bool := decide (mostTo (tab (spec xs k) n) n = leastTo (tab (spec xs k) n) n)

set_option maxHeartbeats 400000 in
theorem bent_yes (b off n cap k : Nat) (xs : List Int) (w : World) (hn : xs.length = n) (ht : IsTable xs k) (hlt : b < w.heap.size) (hc : ∀ j u, (ints xs)[j]? = some u → w.cell? ⟨b, off + j, none⟩ = some u) :
    Calls Try.prog 24 #[.slice (some ⟨b, off, none⟩) n cap] w fun e w' => e = .returned (.tuple #[.bool (bentB xs k n), .int .i64 0]) ∧ Ext w w' := by
  have hb := ht.big
  have hpos : 0 < n := by rw [← hn, ht.len]; exact two_pow_pos k
  have hn8 : n ≤ 256 := by omega
  have hnk : n = 2 ^ k := by rw [← hn]; exact ht.len
  have H1 := Lib.hid (spectrum_yes b off n cap k xs w hn ht hlt hc)
  have HSB := Lib.hid (specL_bound xs k n hnk ht.nth01)
  have HV : Hid (bentB xs k n = decide (mostTo (tab (spec xs k) n) n = leastTo (tab (spec xs k) n) n)) := rfl
  clear hn ht hc hb hnk
  go_enter Try.func24, Try.ntmps24
  go_wp2_with fail
  refine H1.out.mono ?_
  rintro e1 w1 ⟨g, cp, rfl, hr1, hb1⟩
  obtain ⟨hg0, hg1, hcell, _⟩ := RowOf.known hr1
  have H2 := Lib.hid (greatest_any g 0 n cp (tab (spec xs k) n) w1 (tab_length _ _) hpos hn8 (fun i => by have := HSB.out i; omega) hg1 (fun j u hu => by rw [Nat.zero_add]; exact hcell j u hu))
  have HB1 := Lib.hid hb1
  clear hr1 hb1 hcell
  generalize mostTo (tab (spec xs k) n) n = m at *
  generalize leastTo (tab (spec xs k) n) n = l at *
  obtain ⟨v, hv⟩ : ∃ v, (m == l) = v := ⟨_, rfl⟩
  have HV2 : Hid (bentB xs k n = v) := by show _ = _; rw [HV.out, ← hv]; rfl
  clear HV
  cases v
  all_goals
    go_wp2_with (go_at_call 35; refine H2.out.mono ?_; rintro e2 w2 ⟨rfl, hd2⟩)
    go_ret2
    exact ⟨by rw [HV2.out]; rfl, HB1.out.trans (hd2.below _)⟩

set_option maxHeartbeats 1000000 in
theorem booleRoth_bad (ao : Option Addr) (n cap : Nat) (xs : List Int) (w : World) (hr : Reads w ao (ints xs)) (e : Int) (he : e ≠ 0) (hb : ∀ w, Reads w ao (ints xs) → BadTbl ao n cap e w) :
    Calls Try.prog 9 #[.slice ao n cap] w fun e w' => e = .returned (.bool true) ∧ Below w.heap.size w w' := by
  have HB : Hid (∀ w1, Ext w w1 → _) := fun w1 (hx : Ext w w1) => bent_bad ao n cap w1 e he (hb w1 (hx.reads hr))
  have b0 : (e != 0) = true := by rw [bne_iff_ne]; exact he
  have E0 := Lib.hid (Ext.refl w)
  clear hb hr he
  go_enter Try.func9, Try.ntmps9
  go_wp2_with fail
  refine Calls.mono (booleFact_any _) ?_
  rintro en w1 ⟨rfl, hx⟩
  have E1 := Lib.hid (E0.out.trans hx)
  clear hx
  go_wp2_with fail
  refine Calls.mono (HB.out _ E1.out) ?_
  rintro en w2 ⟨rfl, hd⟩
  have E2 := Lib.hid (E1.out.drawn hd)
  clear hd
  go_wp2
  go_ret
  exact ⟨rfl, E2.out⟩

set_option maxHeartbeats 1000000 in
theorem booleRoth_not (ao : Option Addr) (n cap k : Nat) (xs : List Int) (w : World) (hn : xs.length = n) (hr : Reads w ao (ints xs)) (ht : IsTable xs k) (hbent : bentB xs k n = false) :
    Calls Try.prog 9 #[.slice ao n cap] w fun e w' => e = .returned (.bool true) ∧ Below w.heap.size w w' := by
  have hnk : n = 2 ^ k := by rw [← hn]; exact ht.len
  have hpos : 0 < n := by rw [hnk]; exact two_pow_pos k
  have hbig : n ≤ 256 := by rw [hnk]; exact pow8 ht.k8
  rcases hr with hr | ⟨b, off, rfl, hlt, hc⟩
  · have := congrArg List.length hr; rw [ints_length, hn] at this; simp at this; omega
  have HLT : ∀ w1, Ext w w1 → b < w1.heap.size := fun w1 hx => Nat.lt_of_lt_of_le hlt hx.size
  have HCC : ∀ w1, Ext w w1 → ∀ j u, (ints xs)[j]? = some u → w1.cell? ⟨b, off + j, none⟩ = some u := fun w1 hx j u hu => by rw [hx.cell hlt]; exact hc j u hu
  have h2 := fun w1 (hx : Ext w w1) => bent_yes b off n cap k xs w1 hn ht (HLT w1 hx) (HCC w1 hx)
  rw [hbent] at h2
  have H2 := Lib.hid h2
  have E0 := Lib.hid (Ext.refl w)
  clear hc ht hnk hn HLT HCC h2 hbent
  go_enter Try.func9, Try.ntmps9
  go_wp2_with fail
  refine Calls.mono (booleFact_any _) ?_
  rintro en w1 ⟨rfl, hx⟩
  have E1 := Lib.hid (E0.out.trans hx)
  clear hx
  go_wp2_with fail
  refine Calls.mono (H2.out _ E1.out) ?_
  rintro en w2 ⟨rfl, hx⟩
  have E2 := Lib.hid (E1.out.trans hx)
  clear hx
  go_wp2
  go_ret
  exact ⟨rfl, E2.out⟩

set_option maxRecDepth 100000 in
set_option maxHeartbeats 2000000 in
theorem booleRoth_ok (ao : Option Addr) (n cap k : Nat) (xs : List Int) (w : World) (hn : xs.length = n) (hr : Reads w ao (ints xs)) (ht : IsTable xs k) (hbent : bentB xs k n = true) :
    Calls Try.prog 9 #[.slice ao n cap] w fun e w' => e = .returned (.bool true) ∧ Below w.heap.size w w' := by
  have hnk : n = 2 ^ k := by rw [← hn]; exact ht.len
  have hpos : 0 < n := by rw [hnk]; exact two_pow_pos k
  have hbig : n ≤ 256 := by rw [hnk]; exact pow8 ht.k8
  rcases hr with hr | ⟨b, off, rfl, hlt, hc⟩
  · have := congrArg List.length hr; rw [ints_length, hn] at this; simp at this; omega
  have HLT : ∀ w1, Ext w w1 → b < w1.heap.size := fun w1 hx => Nat.lt_of_lt_of_le hlt hx.size
  have HCC : ∀ w1, Ext w w1 → ∀ j u, (ints xs)[j]? = some u → w1.cell? ⟨b, off + j, none⟩ = some u := fun w1 hx j u hu => by rw [hx.cell hlt]; exact hc j u hu
  have h2 := fun w1 (hx : Ext w w1) => bent_yes b off n cap k xs w1 hn ht (HLT w1 hx) (HCC w1 hx)
  rw [hbent] at h2
  have H2 := Lib.hid h2
  have H3 : Hid (∀ w1, Ext w w1 → _) := fun w1 (hx : Ext w w1) => check_yes (some ⟨b, off, none⟩) cap xs n k w1 hn ht (.inr ⟨b, off, rfl, HLT w1 hx, HCC w1 hx⟩)
  have H4 : Hid (∀ w1, Ext w w1 → _) := fun w1 (hx : Ext w w1) => degree_yes b off n cap k xs w1 hn ht (HLT w1 hx) (HCC w1 hx)
  have H5 : Hid (∀ w1, Ext w w1 → _) := fun w1 (hx : Ext w w1) => far_yes b off n cap k xs w1 hn ht (HLT w1 hx) (HCC w1 hx)
  have hml : mostTo (tab (spec xs k) n) n = leastTo (tab (spec xs k) n) n := of_decide_eq_true hbent
  have hfe := far_exact xs k n ht.k8 hnk ht.nth01
  have hd := degTo_bound (anfL xs k n) n
  have hmb := mostTo_bound (tab (spec xs k) n) n (by omega) (specL_bound xs k n hnk ht.nth01) n
  have hbs := bent_size xs k ht (by rw [← hnk]; exact hml)
  have hrd : 3 ≤ k → degTo (anfL xs k (2 ^ k)) (2 ^ k) ≤ (k / 2 : Nat) := fun h3 => roth_degree xs k ht h3 (by rw [← hnk]; exact hml)
  have hcc : ((2 ^ (k / 2) : Nat) : Int) * ((2 ^ (k / 2) : Nat) : Int) = ((2 ^ k : Nat) : Int) := by
    rw [← Int.natCast_mul, ← Nat.pow_add, show k / 2 + k / 2 = k by omega]
  rw [← hnk] at hbs hrd hcc
  obtain ⟨hk, hm⟩ := hbs
  obtain ⟨f, hf⟩ : ∃ f, farV xs k n = f := ⟨_, rfl⟩
  obtain ⟨d, hdd⟩ : ∃ d, degTo (anfL xs k n) n = d := ⟨_, rfl⟩
  rw [hf] at H5 hfe
  rw [hdd] at H4 hd hrd
  rw [hm] at hfe hmb
  obtain ⟨c, hc2⟩ : ∃ c : Int, ((2 ^ (k / 2) : Nat) : Int) = c := ⟨_, rfl⟩
  rw [hc2] at hfe hmb hcc
  obtain ⟨hm1, hm2⟩ := hmb
  obtain ⟨hd1, hd2⟩ := hd
  have hf1 : 0 ≤ f := by omega
  have hf2 : f ≤ 128 := by omega
  have hk8 := ht.k8
  have b1 : ((k : Int) % 2 != 0) = false := by rw [bne_eq_false_iff_eq]; omega
  have hlast : decide ((k : Int) ≤ 2) = true ∨ (decide ((k : Int) ≤ 2) = false ∧ decide (d ≤ (k : Int) / 2) = true) := by
    by_cases h : k ≤ 2
    · exact .inl (decide_eq_true (by omega))
    · refine .inr ⟨decide_eq_false (by omega), decide_eq_true ?_⟩
      have := hrd (by omega)
      rw [Int.natCast_ediv] at this
      exact this
  have E0 := Lib.hid (Ext.refl w)
  clear hc ht hn HLT HCC h2 hbent hml hk hm hrd hf hdd hc2 hnk
  rcases hlast with b2 | ⟨b2, b3⟩
  all_goals
    go_enter Try.func9, Try.ntmps9
    go_wp2_with fail
    refine Calls.mono (booleFact_any _) ?_
    rintro en w1 ⟨rfl, hx⟩
    have E1 := Lib.hid (E0.out.trans hx)
    clear hx
    go_wp2_with fail
    refine Calls.mono (H2.out _ E1.out) ?_
    rintro en w2 ⟨rfl, hx⟩
    have E2 := Lib.hid (E1.out.trans hx)
    clear hx
    go_wp2_with fail
    refine Calls.mono (H3.out _ E2.out) ?_
    rintro en w3 ⟨rfl, hd⟩
    have E3 := Lib.hid (E2.out.drawn hd)
    clear hd
    go_wp2_with fail
    refine Calls.mono (H4.out _ E3.out) ?_
    rintro en w4 ⟨rfl, hx⟩
    have E4 := Lib.hid (E3.out.trans hx)
    clear hx
    go_wp2_with fail
    refine Calls.mono (H5.out _ E4.out) ?_
    rintro en w5 ⟨rfl, hx⟩
    have E5 := Lib.hid (E4.out.trans hx)
    clear hx
    go_wp2
    go_ret
    exact ⟨by simp, E5.out⟩

theorem booleRoth_any (ao : Option Addr) (n cap : Nat) (xs : List Int) {w : World} (hx : IntsArg w ao n cap xs) :
    Calls Try.prog 9 #[.slice ao n cap] w fun e w' => e = .returned (.bool true) ∧ Below w.heap.size w w' := by
  rcases bad_or xs n hx.len with ⟨e, he, hb⟩ | ⟨k, ht⟩
  · exact booleRoth_bad ao n cap xs w hx.reads e he (fun w hr => hb ao cap w hr)
  · by_cases h : bentB xs k n = true
    · exact booleRoth_ok ao n cap k xs w hx.len hx.reads ht h
    · exact booleRoth_not ao n cap k xs w hx.len hx.reads ht (by simpa using h)

end Go.Proofs.Ytbbjjfgainbmdaa
