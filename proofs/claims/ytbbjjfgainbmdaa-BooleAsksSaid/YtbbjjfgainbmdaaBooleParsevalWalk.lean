/- The walk of BooleParseval, and its law. No conditions but that the list can be read. -/
import Derived.Test.YtbbjjfgainbmdaaFar
import Derived.Test.YtbbjjfgainbmdaaBackLaw
import Derived.Test.YtbbjjfgainbmdaaArgInts
namespace Go.Proofs.Ytbbjjfgainbmdaa
open Go.RowKit

def sqSum (ys : List Int) (n : Nat) : Int := sumN (fun i => nth ys i * nth ys i) n

theorem sqSum_bound (ys : List Int) (hb : ∀ i, -256 ≤ nth ys i ∧ nth ys i ≤ 256) : ∀ n : Nat, 0 ≤ sqSum ys n ∧ sqSum ys n ≤ 65536 * n
  | 0 => by simp [sqSum, sumN]
  | n + 1 => by
    have h := sqSum_bound ys hb n
    have e : sqSum ys (n + 1) = sqSum ys n + nth ys n * nth ys n := rfl
    have h1 := hb n
    have h2 : nth ys n * nth ys n ≤ 65536 := by
      rcases Int.le_total 0 (nth ys n) with h3 | h3
      · have := Int.mul_le_mul h1.2 h1.2 h3 (by omega); omega
      · have := Int.mul_le_mul (show -(nth ys n) ≤ 256 by omega) (show -(nth ys n) ≤ 256 by omega) (by omega) (by omega)
        rw [Int.neg_mul_neg] at this; omega
    have h3 : 0 ≤ nth ys n * nth ys n := by
      rcases Int.le_total 0 (nth ys n) with h3 | h3
      · exact Int.mul_nonneg h3 h3
      · have := Int.mul_nonneg (show 0 ≤ -(nth ys n) by omega) (show 0 ≤ -(nth ys n) by omega); rwa [Int.neg_mul_neg] at this
    rw [e]; omega

theorem sq_le_most (ys : List Int) (i : Nat) : ∀ n, i < n → absI (nth ys i) ≤ mostTo ys n
  | n + 1, h => by
    rw [mostTo]
    rcases Nat.lt_succ_iff_lt_or_eq.1 h with h1 | rfl
    · have := sq_le_most ys i n h1; split <;> omega
    · split <;> omega

theorem absI_sq (x : Int) : absI x * absI x = x * x := by unfold absI; split; rw [Int.neg_mul_neg]; rfl

theorem sqSum_most (ys : List Int) (n : Nat) : sqSum ys n ≤ n * (mostTo ys n * mostTo ys n) := by
  have h : sqSum ys n ≤ sumN (fun _ => mostTo ys n * mostTo ys n) n := sumN_le fun i hi => by
    have h1 := sq_le_most ys i n hi
    have h0 : 0 ≤ absI (nth ys i) := by unfold absI; split <;> omega
    rw [← absI_sq]
    exact Int.mul_le_mul h1 h1 h0 (by omega)
  rw [sumN_const] at h
  exact h

theorem kern_odd (t a x : Nat) : kern sg t a x % 2 = 1 := by
  have := kern_wtS t a x
  rw [this]; split <;> rfl

theorem spec_parity (xs : List Int) (k a : Nat) (h01 : ∀ i, nth xs i = 0 ∨ nth xs i = 1) : spec xs k a % 2 = ((2 ^ k : Nat) : Int) % 2 := by
  have key : ∀ n : Nat, sumN (fun x => kern sg k a x * (1 - 2 * nth xs x)) n % 2 = (n : Int) % 2 := by
    intro n
    induction n with
    | zero => simp [sumN]
    | succ n ih =>
      rw [sumN]
      have hk : kern sg k a n = 1 ∨ kern sg k a n = -1 := by rw [kern_wtS]; split <;> simp
      rcases h01 n with h | h <;> rcases hk with hk | hk <;> rw [h, hk] <;> omega
  exact key (2 ^ k)

theorem mostTo_mem (ys : List Int) : ∀ n, mostTo ys n = 0 ∨ ∃ i, i < n ∧ mostTo ys n = absI (nth ys i)
  | 0 => .inl rfl
  | n + 1 => by
    rw [mostTo]
    split
    · exact .inr ⟨n, by omega, rfl⟩
    · rcases mostTo_mem ys n with h | ⟨i, hi, h⟩
      · exact .inl h
      · exact .inr ⟨i, by omega, h⟩

/-- Parseval, of the table's spectrum. -/
theorem parseval (xs : List Int) (k n : Nat) (hn : n = 2 ^ k) (h01 : ∀ i, nth xs i = 0 ∨ nth xs i = 1) : sqSum (tab (spec xs k) n) n = (n : Int) * n := by
  subst hn
  have e1 : sqSum (tab (spec xs k) (2 ^ k)) (2 ^ k) = sumN (fun a => spec xs k a * spec xs k a) (2 ^ k) := sumN_congr fun i hi => by rw [nth_tab _ _ _ hi]
  have e2 : sumN (fun x => (1 - 2 * nth xs x) * (1 - 2 * nth xs x)) (2 ^ k) = sumN (fun _ => 1) (2 ^ k) := sumN_congr fun i _ => by rcases h01 i with h | h <;> rw [h] <;> rfl
  rw [e1]
  have := spec_squares (fun x => 1 - 2 * nth xs x) k
  rw [e2, sumN_const, Int.mul_one] at this
  have e3 : ((2 ^ k : Nat) : Int) = 2 ^ k := by simp
  rw [e3] at this ⊢
  exact this

theorem far_exact (xs : List Int) (k n : Nat) (_hk : k ≤ 8) (hn : n = 2 ^ k) (h01 : ∀ i, nth xs i = 0 ∨ nth xs i = 1) : (n : Int) - 2 * farV xs k n = mostTo (tab (spec xs k) n) n := by
  have hmb := mostTo_bound (tab (spec xs k) n) n (by omega) (specL_bound xs k n hn h01) n
  have hpos : 0 < n := by rw [hn]; exact two_pow_pos k
  have hp : mostTo (tab (spec xs k) n) n % 2 = (n : Int) % 2 := by
    have h1 : absI (nth (tab (spec xs k) n) 0) ≤ mostTo (tab (spec xs k) n) n := sq_le_most _ 0 n hpos
    rcases mostTo_mem (tab (spec xs k) n) n with h | ⟨i, hi, h⟩
    · -- all are 0: then the first is, and it is as the side
      rw [h] at h1 ⊢
      have h2 := spec_parity xs k 0 h01
      rw [nth_tab _ _ _ hpos] at h1
      have h3 : spec xs k 0 = 0 := by unfold absI at h1; split at h1 <;> omega
      rw [h3, ← hn] at h2
      omega
    · rw [h, nth_tab _ _ _ hi]
      have h2 := spec_parity xs k i h01
      rw [← hn] at h2
      unfold absI; split <;> omega
  unfold farV
  omega

theorem far_square (xs : List Int) (k n : Nat) (hk : k ≤ 8) (hn : n = 2 ^ k) (h01 : ∀ i, nth xs i = 0 ∨ nth xs i = 1) : (n : Int) ≤ ((n : Int) - 2 * farV xs k n) * ((n : Int) - 2 * farV xs k n) := by
  rw [far_exact xs k n hk hn h01]
  have h1 := parseval xs k n hn h01
  have h2 := sqSum_most (tab (spec xs k) n) n
  have hpos : 0 < n := by rw [hn]; exact two_pow_pos k
  rw [h1] at h2
  exact Int.le_of_mul_le_mul_left h2 (by omega)

set_option maxHeartbeats 1000000 in
theorem parseval_yes (b off n cap k : Nat) (xs : List Int) (w : World) (hn : xs.length = n) (ht : IsTable xs k) (hlt : b < w.heap.size) (hc : ∀ j u, (ints xs)[j]? = some u → w.cell? ⟨b, off + j, none⟩ = some u) :
    Calls Try.prog 4 #[.slice (some ⟨b, off, none⟩) n cap] w fun e w' => e = .returned (.bool true) ∧ Below w.heap.size w w' := by
  have hpos : 0 < n := by rw [← hn, ht.len]; exact two_pow_pos k
  have hn8 : n ≤ 256 := by have := ht.big; omega
  have hnk : n = 2 ^ k := by rw [← hn]; exact ht.len
  have H0 := Lib.hid (booleFact_any w)
  have HC : Hid (∀ w1, Below w.heap.size w w1 → ∀ j u, (ints xs)[j]? = some u → w1.cell? ⟨b, off + j, none⟩ = some u) := fun w1 hb j u hu => by
    rw [hb.cell (p := ⟨b, off + j, none⟩) hlt]; exact hc j u hu
  have H1 := Lib.hid (fun w1 (hb : Below w.heap.size w w1) => spectrum_yes b off n cap k xs w1 hn ht (by have := hb.size; omega) (HC.out w1 hb))
  have H2 := Lib.hid (fun w1 (hb : Below w.heap.size w w1) => far_yes b off n cap k xs w1 hn ht (by have := hb.size; omega) (HC.out w1 hb))
  have HP := Lib.hid (parseval xs k n hnk ht.nth01)
  have HF := Lib.hid (far_square xs k n ht.k8 hnk ht.nth01)
  have HSB := Lib.hid (specL_bound xs k n hnk ht.nth01)
  have hfe := far_exact xs k n ht.k8 hnk ht.nth01
  have hmb := mostTo_bound (tab (spec xs k) n) n (by omega) HSB.out n
  have hf1 : 0 ≤ farV xs k n := by omega
  have hf2 : farV xs k n ≤ n := by omega
  clear hn ht hc hnk hfe hmb
  have hlen : (tab (spec xs k) n).length = n := tab_length _ _
  generalize hys : tab (spec xs k) n = ys at *
  have HL := Lib.hid hlen
  clear hys hlen
  generalize farV xs k n = f at *
  go_enter Try.func4, Try.ntmps4
  go_wp2_with fail
  refine H0.out.mono ?_
  rintro e0 w0 ⟨rfl, hb0⟩
  have HB0 := Lib.hid hb0
  have hs0 := hb0.size
  clear hb0
  go_wp2_with fail
  refine (H1.out w0 HB0.out).mono ?_
  rintro e1 w1 ⟨g, cp, rfl, hr1, hb1⟩
  obtain ⟨hg0, hg1, hcell, _⟩ := RowOf.known hr1
  have hs1 := hb1.size
  have HB1 : Hid (Below w.heap.size w w1) := HB0.out.trans (hb1.mono hs0)
  have HCELL := Lib.hid hcell
  clear hr1 hb1 hcell
  go_wp2_with fail
  go_loopw [6, 7] (fun s i wr => ∃ q : Nat, q ≤ n ∧ i = .int .i64 q ∧ s = .int .i64 (sqSum ys q) ∧ Drawn w1 wr) (fun _ i _ => n - (intOf i).toNat)
  case atStart => exact ⟨0, by omega, rfl, rfl, Drawn.refl _⟩
  case round =>
    obtain ⟨q, hq, rfl, rfl, hd⟩ := hrel
    have hsb := sqSum_bound ys (fun i => by have := HSB.out i; omega) q
    have HD := Lib.hid hd
    by_cases hqn : q < n
    · have hcq : wr.cell? ⟨g, q, none⟩ = some (.int .i64 (nth ys q)) := by rw [hd.cell]; exact HCELL.out q _ (ints_get ys q (by rw [HL.out]; exact hqn))
      have hsb2 := sqSum_bound ys (fun i => by have := HSB.out i; omega) (q + 1)
      have HS : Hid (sqSum ys (q + 1) = sqSum ys q + nth ys q * nth ys q) := rfl
      obtain ⟨x, hx⟩ : ∃ x, nth ys q = x := ⟨_, rfl⟩
      obtain ⟨s, hs⟩ : ∃ s, sqSum ys q = s := ⟨_, rfl⟩
      have hsb2' : s + x * x ≤ 65536 * ((q : Int) + 1) := by have := HS.out; rw [hx, hs] at this; omega
      have hxx : 0 ≤ x * x := by
        rcases Int.le_total 0 x with h3 | h3
        · exact Int.mul_nonneg h3 h3
        · have := Int.mul_nonneg (show 0 ≤ -x by omega) (show 0 ≤ -x by omega); rwa [Int.neg_mul_neg] at this
      rw [hx] at hcq HS
      rw [hs] at hsb HS ⊢
      obtain ⟨hsb1, hsb22⟩ := hsb
      clear hx hs hsb2 hd
      go_wp2_with fail
      go_quiet (fail)
      go_wp2
      go_roundw
      case rel => exact ⟨q + 1, by omega, by go_num, by rw [HS.out], HD.out.trans (Drawn.drewN _ _)⟩
      case measure => simp [intOf]; omega
    · obtain rfl : q = n := by omega
      rw [HP.out] at hsb ⊢
      have hbe : ((q : Int) * q != (q : Int) * q) = false := by simp
      have hqq0 : 0 ≤ (q : Int) * q := Int.mul_nonneg (by omega) (by omega)
      have hqq : (q : Int) * q ≤ 256 * 256 := Int.mul_le_mul (by omega) (by omega) (by omega) (by omega)
      have HB2 : Hid (Below w.heap.size w wr) := HB1.out.trans (hd.below _)
      have hsz := HB2.out.size
      clear hd hsb
      go_wp2_with fail
      refine (H2.out wr HB2.out).mono ?_
      rintro e3 w3 ⟨rfl, hb3⟩
      have HB3 := Lib.hid hb3
      clear hb3
      have hff1 : 0 ≤ ((q : Int) - 2 * f) * ((q : Int) - 2 * f) := by have := HF.out; omega
      have hff2 : ((q : Int) - 2 * f) * ((q : Int) - 2 * f) ≤ 256 * 256 := by
        rcases Int.le_total 0 ((q : Int) - 2 * f) with h | h
        · exact Int.mul_le_mul (by omega) (by omega) h (by omega)
        · have := Int.mul_le_mul (show -((q : Int) - 2 * f) ≤ 256 by omega) (show -((q : Int) - 2 * f) ≤ 256 by omega) (by omega) (by omega)
          rw [Int.neg_mul_neg] at this; exact this
      have hge : decide ((q : Int) ≤ ((q : Int) - 2 * f) * ((q : Int) - 2 * f)) = true := decide_eq_true HF.out
      go_wp2
      go_ret
      exact ⟨rfl, HB2.out.trans (HB3.out.mono hsz)⟩

set_option maxHeartbeats 400000 in
/-- Where Spectrum says an error, nothing is claimed. -/
theorem parseval_err (ao : Option Addr) (n cap : Nat) (e : Int) (he : e = 1 ∨ e = 2) (w : World)
    (h : ∀ w1, Below w.heap.size w w1 → Calls Try.prog 14 #[.slice ao n cap] w1 fun en w' => en = .returned (.tuple #[.slice none 0 0, .int .i64 e]) ∧ Drawn w1 w') :
    Calls Try.prog 4 #[.slice ao n cap] w fun e w' => e = .returned (.bool true) ∧ Below w.heap.size w w' := by
  have H0 := Lib.hid (booleFact_any w)
  have H1 := Lib.hid h
  clear h
  rcases he with rfl | rfl
  all_goals
    go_enter Try.func4, Try.ntmps4
    go_wp2_with fail
    refine H0.out.mono ?_
    rintro e0 w0 ⟨rfl, hb0⟩
    have HB0 := Lib.hid hb0
    clear hb0
    go_wp2_with fail
    refine (H1.out w0 HB0.out).mono ?_
    rintro e1 w1 ⟨rfl, hd⟩
    go_wp2
    go_ret
    exact ⟨rfl, HB0.out.trans (hd.below _)⟩

theorem reads_cells' {w : World} {ao : Option Addr} {xs : List Int} (h : Reads w ao (ints xs)) (h0 : 0 < xs.length) :
    ∃ b off, ao = some ⟨b, off, none⟩ ∧ b < w.heap.size ∧ ∀ j u, (ints xs)[j]? = some u → w.cell? ⟨b, off + j, none⟩ = some u := by
  rcases h with h | h
  · have := congrArg List.length h; rw [ints_length] at this; simp at this; subst this; simp at h0
  · exact h

theorem booleParseval_arg (ao : Option Addr) (n cap : Nat) (xs : List Int) {w : World} (hx : IntsArg w ao n cap xs) :
    Calls Try.prog 4 #[.slice ao n cap] w fun e w' => e = .returned (.bool true) ∧ Below w.heap.size w w' := by
  by_cases hk : ∃ k, k ≤ 8 ∧ n = 2 ^ k
  · obtain ⟨k, hk, hn⟩ := hk
    by_cases hb : xs.any notBit = true
    · exact parseval_err ao n cap 1 (.inl rfl) w fun w1 hb1 => spectrum_bit ao cap xs n k w1 hx.len hk hn hb (hx.reads.below hb1 (Nat.le_refl _))
    · have ht : IsTable xs k := ⟨hk, by rw [hx.len, hn], fun x hm => by
        have hf : xs.any notBit = false := by simpa using hb
        rw [List.any_eq_false] at hf
        have := hf x hm
        rcases Decidable.em (x = 0) with h0 | h0
        · exact .inl h0
        · rcases Decidable.em (x = 1) with h1 | h1
          · exact .inr h1
          · exact absurd (notBit_true h0 h1) this⟩
      have hpos : 0 < n := by rw [hn]; exact two_pow_pos k
      obtain ⟨b, off, rfl, hlt, hc⟩ := reads_cells' hx.reads (by rw [hx.len]; exact hpos)
      exact parseval_yes b off n cap k xs w hx.len ht hlt hc
  · exact parseval_err ao n cap 2 (.inr rfl) w fun w1 _ => spectrum_len ao cap n w1 fun k h1 h2 => hk ⟨k, h1, h2⟩

end Go.Proofs.Ytbbjjfgainbmdaa
