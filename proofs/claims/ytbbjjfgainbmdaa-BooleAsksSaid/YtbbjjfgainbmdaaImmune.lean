/- What boole.Immune, Bent, parterreref3.ImmuneOf, BentOf and FarOf answer. Conditions: as each theorem says. -/
import Derived.Test.YtbbjjfgainbmdaaDegree
namespace Go.Proofs.Ytbbjjfgainbmdaa
open Go.RowKit

/-- The least weight, less 1, of a place that is not 0, among the first ones. -/
def immTo (s : List Int) (k : Nat) : Nat → Int
  | 0 => k
  | a + 1 => if 0 < a ∧ nth s a ≠ 0 ∧ (wt a : Int) - 1 < immTo s k a then (wt a : Int) - 1 else immTo s k a
theorem immTo_le (s : List Int) (k : Nat) : ∀ j, immTo s k j ≤ k
  | 0 => Int.le_refl _
  | a + 1 => by have := immTo_le s k a; rw [immTo]; split <;> omega
theorem immTo_at (s : List Int) (k a : Nat) (h0 : 0 < a) (hs : nth s a ≠ 0) : ∀ j, a < j → immTo s k j ≤ (wt a : Int) - 1
  | j + 1, h => by
    rw [immTo]
    rcases Nat.lt_succ_iff_lt_or_eq.1 h with h1 | rfl
    · have := immTo_at s k a h0 hs j h1; split <;> omega
    · split
      · omega
      · rename_i h2
        have : ¬ (wt a : Int) - 1 < immTo s k a := fun e => h2 ⟨h0, hs, e⟩
        omega
theorem immTo_ge (s : List Int) (k : Nat) (c : Int) (hc : c ≤ k) : ∀ j, (∀ a, a < j → 0 < a → nth s a ≠ 0 → c ≤ (wt a : Int) - 1) → c ≤ immTo s k j
  | 0, _ => hc
  | j + 1, h => by
    have := immTo_ge s k c hc j (fun a ha => h a (by omega))
    rw [immTo]
    split
    · rename_i h2; exact h j (by omega) h2.1 h2.2.1
    · exact this
theorem wt_pos_check : ((List.range 256).all fun x => decide (x = 0 ∨ 1 ≤ wt x)) = true := by decide +kernel
theorem wt_pos (x : Nat) (hx : x < 256) (h0 : 0 < x) : 1 ≤ wt x := by
  have h := List.all_eq_true.1 wt_pos_check x (List.mem_range.2 hx)
  have := of_decide_eq_true h
  omega
theorem immTo_bound (s : List Int) (k j : Nat) (hj : j ≤ 256) : 0 ≤ immTo s k j :=
  immTo_ge s k 0 (by omega) j fun a ha h0 _ => by have := wt_pos a (by omega) h0; omega
theorem wtS_le (k u : Nat) : wtS k u ≤ k := by
  rw [← wtF_eq]; exact wtF_le k u
theorem wt_le_k (k u : Nat) (hk : k ≤ 8) (h : u < 2 ^ k) : wt u ≤ k := by rw [wt_eq k u hk h]; exact wtS_le k u

set_option maxHeartbeats 1000000 in
theorem immune_bad (ao : Option Addr) (n cap : Nat) (w : World) (e : Int) (he : e ≠ 0) (hb : BadTbl ao n cap e w) :
    Calls Try.prog 25 #[.slice ao n cap] w fun en w' => en = .returned (.tuple #[.int .i64 0, .int .i64 e]) ∧ Drawn w w' := by
  have H := Lib.hid hb.spec
  have b0 : (e != 0) = true := by rw [bne_iff_ne]; exact he
  clear hb he
  go_enter Try.func25, Try.ntmps25
  go_wp2_with (go_at_call 14; refine Calls.mono H.out ?_; rintro en w' ⟨rfl, hd⟩)
  go_ret2
  exact ⟨rfl, hd⟩
set_option maxHeartbeats 1000000 in
theorem bent_bad (ao : Option Addr) (n cap : Nat) (w : World) (e : Int) (he : e ≠ 0) (hb : BadTbl ao n cap e w) :
    Calls Try.prog 24 #[.slice ao n cap] w fun en w' => en = .returned (.tuple #[.bool false, .int .i64 e]) ∧ Drawn w w' := by
  have H := Lib.hid hb.spec
  have b0 : (e != 0) = true := by rw [bne_iff_ne]; exact he
  clear hb he
  go_enter Try.func24, Try.ntmps24
  go_wp2_with (go_at_call 14; refine Calls.mono H.out ?_; rintro en w' ⟨rfl, hd⟩)
  go_ret2
  exact ⟨rfl, hd⟩
set_option maxHeartbeats 1000000 in
theorem far_bad (ao : Option Addr) (n cap : Nat) (w : World) (e : Int) (he : e ≠ 0) (hb : BadTbl ao n cap e w) :
    Calls Try.prog 15 #[.slice ao n cap] w fun en w' => en = .returned (.tuple #[.int .i64 0, .int .i64 e]) ∧ Drawn w w' := by
  have H := Lib.hid hb.spec
  have b0 : (e != 0) = true := by rw [bne_iff_ne]; exact he
  clear hb he
  go_enter Try.func15, Try.ntmps15
  go_wp2_with (go_at_call 14; refine Calls.mono H.out ?_; rintro en w' ⟨rfl, hd⟩)
  go_ret2
  exact ⟨rfl, hd⟩

set_option maxHeartbeats 1000000 in
theorem immune_yes (b off n cap k : Nat) (xs : List Int) (w : World) (hn : xs.length = n) (ht : IsTable xs k) (hlt : b < w.heap.size) (hc : ∀ j u, (ints xs)[j]? = some u → w.cell? ⟨b, off + j, none⟩ = some u) :
    Calls Try.prog 25 #[.slice (some ⟨b, off, none⟩) n cap] w fun e w' => e = .returned (.tuple #[.int .i64 (immTo (tab (spec xs k) n) k n), .int .i64 0]) ∧ Ext w w' := by
  have hn8 : n ≤ 256 := by have := ht.big; omega
  have H := Lib.hid (spectrum_yes b off n cap k xs w hn ht hlt hc)
  have HSZ : Hid (∀ w1 : World, _) := fun w1 => size_yes k n (some ⟨b, off, none⟩) cap w1 ht.k8 (by rw [← hn]; exact ht.len)
  have hk8 := ht.k8
  clear hn ht hlt hc
  go_enter Try.func25, Try.ntmps25
  go_wp2_with fail
  refine Calls.mono H.out ?_
  rintro e w1 ⟨g, cp, rfl, hrow, hx⟩
  obtain ⟨_, _, hcell, _⟩ := hrow.known
  have HX : Hid (Ext w w1) := hx
  have HC : Hid (∀ u, u < n → w1.cell? ⟨g, u, none⟩ = some (.int .i64 (nth (tab (spec xs k) n) u))) := fun u hu => hcell u _ (ints_get _ u (by rw [tab_length]; exact hu))
  clear hrow hx hcell
  obtain ⟨s, hs⟩ : ∃ s, tab (spec xs k) n = s := ⟨_, rfl⟩
  rw [hs] at HC
  have HS := Lib.hid hs
  clear hs
  go_wp2_with (go_at_call 29; refine Calls.mono (HSZ.out _) ?_; rintro en w' ⟨rfl, rfl⟩)
  go_loop [6, 8, 9, 25] (fun m _ _ i => ∃ u : Nat, u ≤ n ∧ i = .int .i64 u ∧ m = .int .i64 (immTo s k u)) (fun _ _ _ i => n - (intOf i).toNat)
  case atStart => exact ⟨0, by omega, rfl, rfl⟩
  case round =>
    obtain ⟨u, hu, rfl, rfl⟩ := hrel
    by_cases hun : u < n
    · have hcu := HC.out u hun
      have hw := Lib.hid (many_any u w1 (by omega))
      have hwl := wt_le u
      have hdb := immTo_bound s k u (by omega)
      have hdl := immTo_le s k u
      have HI : Hid (immTo s k (u + 1) = if 0 < u ∧ nth s u ≠ 0 ∧ (wt u : Int) - 1 < immTo s k u then (wt u : Int) - 1 else immTo s k u) := rfl
      obtain ⟨x, hx⟩ : ∃ x, nth s u = x := ⟨_, rfl⟩
      obtain ⟨d, hd⟩ : ∃ d, immTo s k u = d := ⟨_, rfl⟩
      obtain ⟨c, hc⟩ : ∃ c, wt u = c := ⟨_, rfl⟩
      rw [hx] at hcu HI
      rw [hd] at hdb hdl HI ⊢
      rw [hc] at hw hwl HI
      clear hx hd hc
      by_cases h0 : 0 < u
      · have c1 : decide (0 < (u : Int)) = true := decide_eq_true (by omega)
        have c2 : decide (0 < u) = true := decide_eq_true h0
        by_cases hx0 : x = 0
        · have HI2 : Hid (immTo s k (u + 1) = d) := by show _ = _; rw [HI.out, if_neg (fun h => h.2.1 hx0)]
          have c3 : (x != 0) = false := by rw [hx0]; rfl
          clear HI hx0
          go_wp2
          go_round
          case rel => exact ⟨u + 1, by omega, by go_num, by rw [HI2.out]⟩
          case measure => simp [intOf]; omega
        · have c3 : (x != 0) = true := by rw [bne_iff_ne]; exact hx0
          by_cases hlt : (c : Int) - 1 < d
          · have HI2 : Hid (immTo s k (u + 1) = (c : Int) - 1) := by show _ = _; rw [HI.out, if_pos ⟨h0, hx0, hlt⟩]
            clear HI hx0
            go_wp2_with (go_at_call 39; refine Calls.mono hw.out ?_; rintro e w' ⟨rfl, rfl⟩)
            go_round
            case rel => exact ⟨u + 1, by omega, by go_num, by rw [HI2.out]⟩
            case measure => simp [intOf]; omega
          · have HI2 : Hid (immTo s k (u + 1) = d) := by show _ = _; rw [HI.out, if_neg (fun h => hlt h.2.2)]
            have hle : d ≤ (c : Int) - 1 := by omega
            clear HI hlt hx0
            go_wp2_with (go_at_call 39; refine Calls.mono hw.out ?_; rintro e w' ⟨rfl, rfl⟩)
            go_round
            case rel => exact ⟨u + 1, by omega, by go_num, by rw [HI2.out]⟩
            case measure => simp [intOf]; omega
      · have HI2 : Hid (immTo s k (u + 1) = d) := by show _ = _; rw [HI.out, if_neg (fun h => h0 h.1)]
        obtain rfl : u = 0 := by omega
        clear HI h0
        go_wp2
        go_round
        case rel => exact ⟨1, by omega, by go_num, by rw [HI2.out]⟩
        case measure => simp [intOf]; omega
    · obtain rfl : n = u := by omega
      go_wp2
      go_ret2
      exact ⟨by rw [HS.out]; rfl, HX.out⟩

set_option maxHeartbeats 1000000 in
theorem immuneOf_any (b off n cap k : Nat) (s : List Int) (w : World) (hk : k ≤ 8) (hnk : n = 2 ^ k) (hn : s.length = n) (hc : ∀ j u, (ints s)[j]? = some u → w.cell? ⟨b, off + j, none⟩ = some u) :
    Calls Try.prog 28 #[.slice (some ⟨b, off, none⟩) n cap] w fun e w' => e = .returned (.int .i64 (immTo s k n)) ∧ w = w' := by
  have hn8 : n ≤ 256 := by rw [hnk]; exact pow8 hk
  have hn0 : 0 < n := by rw [hnk]; exact two_pow_pos k
  have HB := Lib.hid (bitsOf_yes k n w hk hnk)
  have HC : Hid (∀ u, u < n → w.cell? ⟨b, off + u, none⟩ = some (.int .i64 (nth s u))) := fun u hu => hc u _ (ints_get s u (by omega))
  have HW : Hid (∀ u, u < n → wt u ≤ k) := fun u hu => wt_le_k k u hk (by rw [← hnk]; exact hu)
  clear hnk hn hc
  go_enter Try.func28, Try.ntmps28
  go_wp2_with (go_at_call 20; refine Calls.mono HB.out ?_; rintro en w' ⟨rfl, rfl⟩)
  go_loop [4, 5, 6] (fun m _ _ => ∃ q : Nat, q ≤ k ∧ m = .int .i64 ((q : Int) + 1) ∧ ∀ a, a < n → 0 < a → nth s a ≠ 0 → q + 1 ≤ wt a) (fun m _ _ => k + 1 - (intOf m).toNat)
  case atStart => exact ⟨0, by omega, rfl, fun a ha h0 _ => wt_pos a (by omega) h0⟩
  case round =>
    obtain ⟨q, hq, rfl, hall⟩ := hrel
    have HA := Lib.hid hall
    clear hall
    by_cases hqk : q < k
    · go_wp2
      go_loop [5, 6] (fun a _ => ∃ c : Nat, c + 1 ≤ n ∧ a = .int .i64 ((c : Int) + 1) ∧ ∀ a, a < c + 1 → 0 < a → nth s a ≠ 0 → q + 2 ≤ wt a) (fun a _ => n - (intOf a).toNat)
      case atStart => exact ⟨0, by omega, rfl, fun a ha h0 _ => by omega⟩
      case round =>
        obtain ⟨c, hcn, rfl, hall2⟩ := hrel
        have HA2 := Lib.hid hall2
        clear hall2
        by_cases hlt : c + 1 < n
        · have hcu := HC.out (c + 1) hlt
          have hw := weight_any (c + 1) w (by omega)
          have hwl := wt_le (c + 1)
          have HN : Hid (nth s (c + 1) ≠ 0 → q + 1 ≤ wt (c + 1)) := HA.out (c + 1) hlt (by omega)
          have HI : Hid (wt (c + 1) = q + 1 → nth s (c + 1) ≠ 0 → immTo s k n = q) := fun h1 h2 => by
            have u1 := immTo_at s k (c + 1) (by omega) h2 n hlt
            have u2 := immTo_ge s k q (by omega) n fun a ha h0 hne => by have := HA.out a ha h0 hne; omega
            omega
          have HX : Hid (∀ x z : Nat, nth s (c + 1) = 0 ∨ q + 2 ≤ wt (c + 1) → ∀ a, a < c + 1 + 1 → 0 < a → nth s a ≠ 0 → q + 2 ≤ wt a) := fun _ _ h a ha h0 hne => by
            rcases Nat.lt_succ_iff_lt_or_eq.1 ha with h1 | rfl
            · exact HA2.out a h1 h0 hne
            · rcases h with h | h
              · exact absurd h hne
              · exact h
          obtain ⟨x, hx⟩ : ∃ x, nth s (c + 1) = x := ⟨_, rfl⟩
          obtain ⟨z, hz⟩ : ∃ z, wt (c + 1) = z := ⟨_, rfl⟩
          rw [hx] at hcu HN HI HX
          rw [hz] at hw hwl HN HI HX
          rw [show (((c + 1 : Nat)) : Int) = (c : Int) + 1 by simp] at hw
          have HW2 := Lib.hid hw
          clear hx hz hw
          by_cases hzq : z = q + 1
          · have c1 : ((z : Int) == (q : Int) + 1) = true := by rw [beq_iff_eq]; omega
            by_cases hx0 : x = 0
            · have c2 : (x != 0) = false := by rw [hx0]; rfl
              have HR := Lib.hid (HX.out 0 0 (.inl hx0))
              clear hzq hx0
              go_wp2_with (go_at_call 34; refine Calls.mono HW2.out ?_; rintro en w' ⟨rfl, rfl⟩)
              go_round
              case rel => exact ⟨c + 1, by omega, by go_num, HR.out⟩
              case measure => simp [intOf]; omega
            · have c2 : (x != 0) = true := by rw [bne_iff_ne]; exact hx0
              have HR := Lib.hid (HI.out hzq hx0)
              clear hzq hx0
              go_wp2_with (go_at_call 34; refine Calls.mono HW2.out ?_; rintro en w' ⟨rfl, rfl⟩)
              go_ret
              exact ⟨by rw [HR.out]; simp, rfl⟩
          · have c1 : ((z : Int) == (q : Int) + 1) = false := by rw [beq_eq_false_iff_ne]; omega
            have HR : Hid (∀ a, a < c + 1 + 1 → 0 < a → nth s a ≠ 0 → q + 2 ≤ wt a) := by
              by_cases hx0 : x = 0
              · exact HX.out 0 0 (.inl hx0)
              · exact HX.out 0 0 (.inr (by have := HN.out hx0; omega))
            clear hzq
            go_wp2_with (go_at_call 34; refine Calls.mono HW2.out ?_; rintro en w' ⟨rfl, rfl⟩)
            go_round
            case rel => exact ⟨c + 1, by omega, by go_num, HR.out⟩
            case measure => simp [intOf]; omega
        · have hcn2 : c + 1 = n := by omega
          have HR : Hid (∀ a, a < n → 0 < a → nth s a ≠ 0 → q + 1 + 1 ≤ wt a) := fun a ha h0 hne => HA2.out a (by omega) h0 hne
          clear hcn2
          go_wp2
          go_round
          case rel => exact ⟨q + 1, by omega, by go_num, HR.out⟩
          case measure => simp [intOf]; omega
    · obtain rfl : k = q := by omega
      have HR : Hid (immTo s k n = k) := by
        have u1 := immTo_le s k n
        have u2 := immTo_ge s k k (Int.le_refl _) n fun a ha h0 hne => by have := HA.out a ha h0 hne; have := HW.out a ha; omega
        show _ = _; omega
      go_wp2
      go_ret
      exact ⟨by rw [HR.out]; rfl, rfl⟩

end Go.Proofs.Ytbbjjfgainbmdaa
