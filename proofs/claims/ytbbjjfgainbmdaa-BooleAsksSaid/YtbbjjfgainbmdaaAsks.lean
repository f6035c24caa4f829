/- What parterreref3.BentOf and FarOf answer. Conditions: as each theorem says. -/
import Derived.Test.YtbbjjfgainbmdaaBooleRothausWalk
namespace Go.Proofs.Ytbbjjfgainbmdaa
open Go.RowKit

theorem absI_eq {x y : Int} : absI x = absI y ↔ x = y ∨ x = -y := by unfold absI; split <;> split <;> omega
theorem most_const (ys : List Int) : ∀ n, (∀ i, i < n + 1 → absI (nth ys i) = absI (nth ys 0)) → mostTo ys (n + 1) = absI (nth ys 0)
  | 0, _ => by
    have : 0 ≤ absI (nth ys 0) := by unfold absI; split <;> omega
    rw [mostTo, show mostTo ys 0 = 0 from rfl]; split <;> omega
  | n + 1, h => by rw [mostTo, most_const ys n (fun i hi => h i (by omega)), h (n + 1) (by omega)]; split <;> rfl
theorem least_const (ys : List Int) : ∀ n, (∀ i, i < n → absI (nth ys i) = absI (nth ys 0)) → leastTo ys n = absI (nth ys 0)
  | 0, _ => rfl
  | n + 1, h => by rw [leastTo, least_const ys n (fun i hi => h i (by omega)), h n (by omega)]; split <;> rfl
theorem bent_iff (ys : List Int) (n : Nat) (hn : 0 < n) : mostTo ys n = leastTo ys n ↔ ∀ i, i < n → nth ys i = nth ys 0 ∨ nth ys i = -nth ys 0 := by
  constructor
  · intro h i hi
    have h1 := bent_abs ys n h i hi
    have h2 := bent_abs ys n h 0 hn
    exact absI_eq.1 (by rw [h1, h2])
  · intro h
    obtain ⟨m, rfl⟩ : ∃ m, n = m + 1 := ⟨n - 1, by omega⟩
    rw [most_const ys m (fun i hi => absI_eq.2 (h i hi)), least_const ys (m + 1) (fun i hi => absI_eq.2 (h i hi))]

set_option maxHeartbeats 1000000 in
theorem bentOf_any (b off n cap : Nat) (s : List Int) (w : World) (hn : s.length = n) (hn0 : 0 < n) (hn8 : n ≤ 256) (hb : ∀ i, -256 ≤ nth s i ∧ nth s i ≤ 256) (hc : ∀ j u, (ints s)[j]? = some u → w.cell? ⟨b, off + j, none⟩ = some u) :
    Calls Try.prog 27 #[.slice (some ⟨b, off, none⟩) n cap] w fun e w' => e = .returned (.bool (decide (mostTo s n = leastTo s n))) ∧ Drawn w w' := by
  have HC : Hid (∀ u, u < n → w.cell? ⟨b, off + u, none⟩ = some (.int .i64 (nth s u))) := fun u hu => hc u _ (ints_get s u (by omega))
  have hc0 : w.cell? ⟨b, off, none⟩ = some (.int .i64 (nth s 0)) := HC.out 0 hn0
  have HB := Lib.hid hb
  have hb0 := hb 0
  have HY : Hid (∀ v, nth s 0 = v → ∀ i, i < 0 + 1 → nth s i = v ∨ nth s i = -v) := fun v hv i hi => by rw [show i = 0 by omega]; exact .inl hv
  have HI := Lib.hid (bent_iff s n hn0)
  obtain ⟨y, hy⟩ : ∃ y, nth s 0 = y := ⟨_, rfl⟩
  rw [hy] at hc0 hb0 HI
  have HY2 := Lib.hid (HY.out y hy)
  obtain ⟨hb1, hb2⟩ := hb0
  clear hn hc hb hy
  go_enter Try.func27, Try.ntmps27
  go_wp2
  go_loopw [3] (fun i wr => ∃ c : Nat, c + 1 ≤ n ∧ i = .int .i64 ((c : Int) + 1) ∧ Drawn w wr ∧ ∀ i, i < c + 1 → nth s i = y ∨ nth s i = -y) (fun i _ => n - (intOf i).toNat)
  case atStart => exact ⟨0, by omega, rfl, Drawn.refl _, HY2.out⟩
  case round =>
    obtain ⟨c, hcn, rfl, hd, hall⟩ := hrel
    have HA := Lib.hid hall
    have HD := Lib.hid hd
    clear hall hd
    by_cases hlt : c + 1 < n
    · have hcu := HC.out (c + 1) hlt
      rw [← HD.out.cell] at hcu
      have hcz := hc0
      rw [← HD.out.cell] at hcz
      have hbu := HB.out (c + 1)
      have HX : Hid ((nth s (c + 1) = y ∨ nth s (c + 1) = -y) → ∀ i, i < c + 1 + 1 → nth s i = y ∨ nth s i = -y) := fun h i hi => by
        rcases Nat.lt_succ_iff_lt_or_eq.1 hi with h1 | rfl
        · exact HA.out i h1
        · exact h
      have HF : Hid (¬ (nth s (c + 1) = y ∨ nth s (c + 1) = -y) → decide (mostTo s n = leastTo s n) = false) := fun h => decide_eq_false fun e => h (HI.out.1 e (c + 1) hlt)
      obtain ⟨x, hx⟩ : ∃ x, nth s (c + 1) = x := ⟨_, rfl⟩
      rw [hx] at hcu HX HF hbu
      obtain ⟨hbu1, hbu2⟩ := hbu
      clear hx
      by_cases h1 : x = y
      · have c1 : (x != y) = false := by rw [h1]; simp
        have HR := Lib.hid (HX.out (.inl h1))
        clear h1 HX HF
        go_wp2_with fail
        go_quiet (fail)
        go_wp2
        go_roundw
        case rel => exact ⟨c + 1, by omega, by go_num, HD.out.trans (Drawn.drewN _ _), HR.out⟩
        case measure => simp [intOf]; omega
      · have c1 : (x != y) = true := by rw [bne_iff_ne]; exact h1
        by_cases h2 : x = -y
        · have c2 : (x != -y) = false := by rw [h2]; simp
          have HR := Lib.hid (HX.out (.inr h2))
          clear h1 h2 HX HF
          go_wp2_with fail
          go_quiet (fail)
          go_wp2
          go_roundw
          case rel => exact ⟨c + 1, by omega, by go_num, HD.out.trans (Drawn.drewN _ _), HR.out⟩
          case measure => simp [intOf]; omega
        · have c2 : (x != -y) = true := by rw [bne_iff_ne]; exact h2
          have HR := Lib.hid (HF.out (by omega))
          clear h1 h2 HX HF
          go_wp2_with fail
          go_quiet (fail)
          go_wp2
          go_ret
          exact ⟨by rw [HR.out]; rfl, HD.out.trans (Drawn.drewN _ _)⟩
    · have hcn2 : c + 1 = n := by omega
      have HR : Hid (decide (mostTo s n = leastTo s n) = true) := decide_eq_true (HI.out.2 fun i hi => HA.out i (by omega))
      clear hcn2
      go_wp2
      go_ret
      exact ⟨by rw [HR.out]; rfl, HD.out⟩

/-- How many places part from a sum of bits. -/
def cntTo (t : List Int) (a : Nat) : Nat → Int
  | 0 => 0
  | x + 1 => if ((wt (a &&& x) % 2 : Nat) : Int) ≠ nth t x then cntTo t a x + 1 else cntTo t a x
theorem cntTo_bound (t : List Int) (a : Nat) : ∀ x : Nat, 0 ≤ cntTo t a x ∧ cntTo t a x ≤ x
  | 0 => by simp [cntTo]
  | x + 1 => by have := cntTo_bound t a x; rw [cntTo]; split <;> omega
theorem cnt_acc (t : List Int) (a : Nat) (h01 : ∀ i, nth t i = 0 ∨ nth t i = 1) : ∀ x : Nat, spAcc t a x = x - 2 * cntTo t a x
  | 0 => rfl
  | x + 1 => by
    have ih := cnt_acc t a h01 x
    have e : spAcc t a (x + 1) = spStep t a x (spAcc t a x) := rfl
    rw [e, ih, cntTo]
    unfold spStep
    rcases h01 x with h | h <;> rw [h] <;> split <;> split <;> omega

/-- The least of all. -/
def farTo (t : List Int) (n : Nat) : Nat → Int
  | 0 => n
  | a + 1 => let b := if cntTo t a n < farTo t n a then cntTo t a n else farTo t n a
    if n - cntTo t a n < b then n - cntTo t a n else b
theorem farTo_bound (t : List Int) (n : Nat) : ∀ a, 0 ≤ farTo t n a ∧ farTo t n a ≤ n
  | 0 => by simp [farTo]
  | a + 1 => by
    have h1 := farTo_bound t n a
    have h2 := cntTo_bound t a n
    rw [farTo]; split <;> split <;> omega
theorem farTo_most (t : List Int) (k : Nat) (hk : k ≤ 8) (h01 : ∀ i, nth t i = 0 ∨ nth t i = 1) : ∀ a, a + 1 ≤ 2 ^ k → 2 * farTo t (2 ^ k) (a + 1) = ((2 ^ k : Nat) : Int) - mostTo (tab (spec t k) (2 ^ k)) (a + 1)
  | 0, ha => by
    have hs : nth (tab (spec t k) (2 ^ k)) 0 = ((2 ^ k : Nat) : Int) - 2 * cntTo t 0 (2 ^ k) := by
      rw [nth_tab _ _ _ (by omega), ← spAcc_spec t k 0 hk (by omega) h01, cnt_acc t 0 h01]
    have hc := cntTo_bound t 0 (2 ^ k)
    rw [farTo, mostTo, hs, show farTo t (2 ^ k) 0 = (2 ^ k : Nat) from rfl, show mostTo (tab (spec t k) (2 ^ k)) 0 = 0 from rfl]
    generalize cntTo t 0 (2 ^ k) = c at *
    generalize 2 ^ k = N at *
    unfold absI
    (repeat' split) <;> omega
  | a + 1, ha => by
    have ih := farTo_most t k hk h01 a (by omega)
    have hs : nth (tab (spec t k) (2 ^ k)) (a + 1) = ((2 ^ k : Nat) : Int) - 2 * cntTo t (a + 1) (2 ^ k) := by
      rw [nth_tab _ _ _ (by omega), ← spAcc_spec t k (a + 1) hk (by omega) h01, cnt_acc t (a + 1) h01]
    have hc := cntTo_bound t (a + 1) (2 ^ k)
    rw [farTo, mostTo, hs]
    generalize farTo t (2 ^ k) (a + 1) = f at *
    generalize mostTo (tab (spec t k) (2 ^ k)) (a + 1) = m at *
    generalize cntTo t (a + 1) (2 ^ k) = c at *
    generalize 2 ^ k = N at *
    unfold absI
    (repeat' split) <;> omega

set_option maxHeartbeats 1000000 in
theorem farOf_any (b off n cap : Nat) (t : List Int) (w : World) (hn : t.length = n) (hn8 : n ≤ 256) (h01 : ∀ i, nth t i = 0 ∨ nth t i = 1) (hc : ∀ j u, (ints t)[j]? = some u → w.cell? ⟨b, off + j, none⟩ = some u) :
    Calls Try.prog 26 #[.slice (some ⟨b, off, none⟩) n cap] w fun e w' => e = .returned (.int .i64 (farTo t n n)) ∧ w = w' := by
  have HC : Hid (∀ u, u < n → w.cell? ⟨b, off + u, none⟩ = some (.int .i64 (nth t u))) := fun u hu => hc u _ (ints_get t u (by omega))
  have H01 := Lib.hid h01
  clear hn hc h01
  go_enter Try.func26, Try.ntmps26
  go_wp2
  go_loop [3, 4, 5, 6, 7] (fun m a _ _ _ => ∃ q : Nat, q ≤ n ∧ a = .int .i64 q ∧ m = .int .i64 (farTo t n q)) (fun _ a _ _ _ => n - (intOf a).toNat)
  case atStart => exact ⟨0, by omega, rfl, rfl⟩
  case round =>
    obtain ⟨q, hq, rfl, rfl⟩ := hrel
    by_cases hqn : q < n
    · go_wp2
      go_loop [5, 6, 7] (fun c x _ => ∃ z : Nat, z ≤ n ∧ x = .int .i64 z ∧ c = .int .i64 (cntTo t q z)) (fun _ x _ => n - (intOf x).toNat)
      case atStart => exact ⟨0, by omega, rfl, rfl⟩
      case round =>
        obtain ⟨z, hz, rfl, rfl⟩ := hrel
        have hcb := cntTo_bound t q z
        by_cases hzn : z < n
        · have hcu := HC.out z hzn
          have hand : bits .and .i64 (q : Int) (z : Int) = ((q &&& z : Nat) : Int) := bits_and_nat q z (by omega) (by omega)
          have HW := Lib.hid (weight_any (q &&& z) w (Nat.lt_of_le_of_lt Nat.and_le_left (by omega)))
          have hwl := wt_le (q &&& z)
          have h01 := H01.out z
          have HS : Hid (cntTo t q (z + 1) = if ((wt (q &&& z) % 2 : Nat) : Int) ≠ nth t z then cntTo t q z + 1 else cntTo t q z) := rfl
          obtain ⟨y, hy⟩ : ∃ y, nth t z = y := ⟨_, rfl⟩
          obtain ⟨c, hc⟩ : ∃ c, cntTo t q z = c := ⟨_, rfl⟩
          obtain ⟨v, hv⟩ : ∃ v, wt (q &&& z) = v := ⟨_, rfl⟩
          rw [hy] at hcu h01 HS
          rw [hc] at hcb HS ⊢
          rw [hv] at HW hwl HS
          obtain ⟨hcb1, hcb2⟩ := hcb
          have hmod : (v : Int) % 2 = ((v % 2 : Nat) : Int) := by simp
          clear hy hc hv
          by_cases he : ((v % 2 : Nat) : Int) = y
          · have c1 : ((v : Int) % 2 != y) = false := by rw [hmod, he]; simp
            have HS2 : Hid (cntTo t q (z + 1) = c) := by show _ = _; rw [HS.out, if_neg (fun h => h he)]
            clear HS he h01 hmod
            go_wp2_with (go_at_call 34; refine Calls.mono HW.out ?_; rintro en w' ⟨rfl, rfl⟩)
            go_round
            case rel => exact ⟨z + 1, by omega, by go_num, by rw [HS2.out]⟩
            case measure => simp [intOf]; omega
          · have c1 : ((v : Int) % 2 != y) = true := by rw [hmod, bne_iff_ne]; exact he
            have HS2 : Hid (cntTo t q (z + 1) = c + 1) := by show _ = _; rw [HS.out, if_pos he]
            clear HS he h01 hmod
            go_wp2_with (go_at_call 34; refine Calls.mono HW.out ?_; rintro en w' ⟨rfl, rfl⟩)
            go_round
            case rel => exact ⟨z + 1, by omega, by go_num, by rw [HS2.out]⟩
            case measure => simp [intOf]; omega
        · obtain rfl : n = z := by omega
          have hfb := farTo_bound t n q
          have HS : Hid (farTo t n (q + 1) = if (n : Int) - cntTo t q n < (if cntTo t q n < farTo t n q then cntTo t q n else farTo t n q) then (n : Int) - cntTo t q n else if cntTo t q n < farTo t n q then cntTo t q n else farTo t n q) := rfl
          obtain ⟨c, hc⟩ : ∃ c, cntTo t q n = c := ⟨_, rfl⟩
          obtain ⟨f, hf⟩ : ∃ f, farTo t n q = f := ⟨_, rfl⟩
          rw [hc] at hcb HS ⊢
          rw [hf] at hfb HS ⊢
          obtain ⟨hcb1, hcb2⟩ := hcb
          obtain ⟨hfb1, hfb2⟩ := hfb
          clear hc hf
          rcases (show (c < f ∧ (n : Int) - c < c) ∨ (c < f ∧ c ≤ (n : Int) - c) ∨ (f ≤ c ∧ (n : Int) - c < f) ∨ (f ≤ c ∧ f ≤ (n : Int) - c) by omega) with ⟨h1, h2⟩ | ⟨h1, h2⟩ | ⟨h1, h2⟩ | ⟨h1, h2⟩
          all_goals
            go_wp2
            go_round
            case rel => exact ⟨q + 1, by omega, by go_num, by rw [HS.out]; congr 1; (repeat' split) <;> omega⟩
            case measure => simp [intOf]; omega
    · obtain rfl : n = q := by omega
      go_wp2
      go_ret
      exact ⟨rfl, rfl⟩

end Go.Proofs.Ytbbjjfgainbmdaa
