/- What parterreref3.FriendOf answers at a graph: as strong.Friend. -/
import Derived.Test.YtllfccfpoigigaaFriend
namespace Go.Proofs.Ytllfccfpoigigaa
open Go.RowKit

/-- Joined to all others, up to a place. -/
def AllUpto (xs : List Int) (n a k : Nat) : Prop := ∀ q, q < k → q ≠ a → nth xs (a * n + q) ≠ 0
theorem all_com {n : Nat} {xs : List Int} (h : IsTab n xs) (hs : IsSym n xs) {a : Nat} (ha : a < n) : ∀ k, k ≤ n →
    comTo xs n a a k + (if a < k then 1 else 0) ≤ k ∧ (AllUpto xs n a k ↔ comTo xs n a a k + (if a < k then 1 else 0) = k)
  | 0, _ => by simp [comTo, AllUpto]
  | k + 1, hk => by
    obtain ⟨h1, h2⟩ := all_com h hs ha k (by omega)
    have hb := nth_bit h (a * n + k) (place_lt ha (by omega))
    have hstep : AllUpto xs n a (k + 1) ↔ AllUpto xs n a k ∧ (k ≠ a → nth xs (a * n + k) ≠ 0) := by
      unfold AllUpto
      constructor
      · exact fun h => ⟨fun q hq => h q (by omega), h k (by omega)⟩
      · rintro ⟨h3, h4⟩ q hq
        rcases Nat.lt_succ_iff_lt_or_eq.1 hq with h5 | rfl
        · exact h3 q h5
        · exact h4
    rw [hstep, h2, comTo]
    by_cases hka : k = a
    · subst hka
      have h0 := (hs k k ha (Nat.le_refl _)).2 rfl
      rw [h0]
      simp at h1 ⊢
      omega
    · rw [show (if a < k + 1 then (1 : Int) else 0) = if a < k then 1 else 0 by
        by_cases h3 : a < k
        · rw [if_pos h3, if_pos (by omega)]
        · rw [if_neg h3, if_neg (by omega)]]
      obtain ⟨d, hd⟩ : ∃ d, (if a < k then (1 : Int) else 0) = d := ⟨_, rfl⟩
      rw [hd] at h1 ⊢
      rcases hb with hb | hb <;> rw [hb] <;> simp [hka] <;> omega
theorem all_iff {n : Nat} {xs : List Int} (h : IsTab n xs) (hs : IsSym n xs) {a : Nat} (ha : a < n) : AllUpto xs n a n ↔ comTo xs n a a n = (n : Int) - 1 := by
  rw [(all_com h hs ha n (Nat.le_refl _)).2, if_pos ha]; omega

set_option maxHeartbeats 4000000 in
set_option maxRecDepth 100000 in
theorem friendOf_ok (n : Nat) (ao : Option Addr) (len cap : Nat) (xs : List Int) (w : World) (hl : xs.length = len) (hr : Reads w ao (ints xs)) (hm : IsTab n xs) (hs : IsSym n xs) :
    Calls Try.prog 19 #[.agg #[.int .i64 n, .slice ao len cap]] w fun e w' =>
      ∃ x c, e = .returned (.tuple #[.int .i64 x, .int .i64 c]) ∧ FriendIs xs n x c ∧ Ext w w' := by
  have hl2 : len = n * n := by rw [← hl]; exact hm.len
  obtain ⟨b, off, rfl, ht⟩ := tabAt_of hm hr
  rw [← hl2] at ht
  have h24 := hm.big
  have HCM : Hid (∀ i j w', i < n → j < n → TabAt w' n len b off xs → Calls Try.prog 28 #[.agg #[.int .i64 n, .slice (some ⟨b, off, none⟩) len cap], .int .i64 i, .int .i64 j] w' fun e w'' => e = .returned (.int .i64 (comTo xs n i j n)) ∧ Ext w' w'') :=
    fun i j w' hi hj ht => commonTo_at n len b off cap i j xs w' hi hj ht
  have HT := Lib.hid ht
  have hq := sq_bound h24
  rw [← hl2] at hq
  have HALL : Hid (∀ a, a < n → (AllUpto xs n a n ↔ comTo xs n a a n = (n : Int) - 1)) := fun a ha => all_iff hm hs ha
  have HM := Lib.hid hm
  have HL2 := Lib.hid hl2
  clear ht hm hs hr hl hl2
  go_enter Try.func19, Try.ntmps19
  go_wp2
  have H0 : Hid (FrSt w (w.alloc (.cells #[.int .i64 n, .slice (some ⟨b, off, none⟩) len cap] 30)) n len b off cap xs) := ⟨(Ext.refl w).alloc _, (Blk.new w _ _), HT.out.ext ((Ext.refl w).alloc _)⟩
  obtain ⟨w1, hw1⟩ : ∃ w1, w1 = w.alloc (.cells #[.int .i64 n, .slice (some ⟨b, off, none⟩) len cap] 30) := ⟨_, rfl⟩
  rw [← hw1] at H0 ⊢
  clear hw1
  go_loopw [5] (fun a wr => ∃ i : Nat, i ≤ n ∧ a = .int .i64 i ∧ FrSt w wr n len b off cap xs ∧ OneUpto xs n i) (fun a _ => n - (intOf a).toNat)
  case atStart => exact ⟨0, by omega, rfl, H0.out, fun i j h => by omega⟩
  case round =>
    obtain ⟨i, hi, rfl, hst, hone⟩ := hrel
    have HI := Lib.hid hst
    have HO := Lib.hid hone
    clear hst hone H0
    obtain ⟨k0, k1⟩ := HI.out.box.two
    by_cases hin : i < n
    · obtain ⟨wo, rfl⟩ : ∃ wo : World, wo = wr := ⟨_, rfl⟩
      go_wp2
      go_loopw [6] (fun a wr => ∃ j : Nat, j ≤ i ∧ a = .int .i64 j ∧ FrSt w wr n len b off cap xs ∧ ∀ q, q < j → comTo xs n i q n = 1) (fun a _ => i - (intOf a).toNat)
      case atStart => exact ⟨0, by omega, rfl, HI.out, fun q h => by omega⟩
      case round =>
        obtain ⟨j, hj, rfl, hst, hone⟩ := hrel
        have HJ := Lib.hid hst
        have HO2 := Lib.hid hone
        clear hst hone HI k0 k1
        obtain ⟨k0, k1⟩ := HJ.out.box.two
        by_cases hji : j < i
        · have HCC := Lib.hid (HCM.out i j wr hin (by omega) HJ.out.tab)
          obtain ⟨cm, hcm⟩ : ∃ cm, comTo xs n i j n = cm := ⟨_, rfl⟩
          rw [hcm] at HCC
          have HCI := Lib.hid hcm
          clear hcm
          by_cases h1 : cm = 1
          · subst h1
            go_wp2_with (go_at_call 28; refine Calls.mono HCC.out ?_; rintro e w2 ⟨rfl, hx2⟩; have HX2 := Lib.hid hx2; clear hx2)
            go_roundw
            case rel => exact ⟨j + 1, by omega, by go_num, HJ.out.carry HX2.out, fun q hq => by
              rcases Nat.lt_succ_iff_lt_or_eq.1 hq with h | rfl
              · exact HO2.out q h
              · exact HCI.out⟩
            case measure => simp [intOf] <;> omega
          · have b2 : (cm != 1) = true := by rw [bne_iff_ne]; exact h1
            go_wp2_with (go_at_call 28; refine Calls.mono HCC.out ?_; rintro e w2 ⟨rfl, hx2⟩; have HX2 := Lib.hid hx2; clear hx2)
            exact bodyPost_ret (v := .tuple #[.int .i64 0, .int .i64 4]) (by simp [results, Try.results19, go_sem]) rfl ⟨_, _, rfl, .inl ⟨fun h => h1 (HCI.out ▸ h i j hin hji), rfl, rfl⟩, HJ.out.ext.trans HX2.out⟩
        · obtain rfl : j = i := by omega
          go_wp2
          go_roundw
          case rel => exact ⟨j + 1, by omega, by go_num, HJ.out, fun p q hp hq => by
            rcases Nat.lt_succ_iff_lt_or_eq.1 hp with h | rfl
            · exact HO.out p q h hq
            · exact HO2.out q hq⟩
          case measure => simp [intOf] <;> omega
    · obtain rfl : n = i := by omega
      go_wp2
      obtain ⟨wo, rfl⟩ : ∃ wo : World, wo = wr := ⟨_, rfl⟩
      go_loopw [8] (fun a wr => ∃ i : Nat, i ≤ n ∧ a = .int .i64 i ∧ FrSt w wr n len b off cap xs ∧ ∀ q, q < i → comTo xs n q q n ≠ (n : Int) - 1) (fun a _ => n - (intOf a).toNat)
      case atStart => exact ⟨0, by omega, rfl, HI.out, fun q h => by omega⟩
      case round =>
        obtain ⟨i, hi, rfl, hst, hno⟩ := hrel
        have HJ := Lib.hid hst
        have HN := Lib.hid hno
        clear hst hno HI k0 k1
        by_cases hin : i < n
        · obtain ⟨wq, rfl⟩ : ∃ wq : World, wq = wr := ⟨_, rfl⟩
          go_wp2
          go_loopw [9, 10] (fun y a wr => ∃ (j : Nat) (v : Bool), j ≤ n ∧ a = .int .i64 j ∧ y = .bool v ∧ FrSt w wr n len b off cap xs ∧ (v = true ↔ AllUpto xs n i j)) (fun _ a _ => n - (intOf a).toNat)
          case atStart => exact ⟨0, true, by omega, rfl, rfl, HJ.out, by simp [AllUpto]⟩
          case round =>
            obtain ⟨j, v, hj, rfl, rfl, hst, hv⟩ := hrel
            have HK := Lib.hid hst
            have HV := Lib.hid hv
            clear hst hv HJ
            obtain ⟨k0, k1⟩ := HK.out.box.two
            by_cases hjn : j < n
            · by_cases hji : j = i
              · have b1 : ((j : Int) != (i : Int)) = false := by rw [hji]; simp
                go_wp2
                go_roundw
                case rel => exact ⟨j + 1, v, by omega, by go_num, rfl, HK.out, by
                  rw [HV.out]
                  constructor
                  · intro h q hq hqi
                    exact h q (by omega) hqi
                  · exact fun h q hq => h q (by omega)⟩
                case measure => simp [intOf] <;> omega
              · have b1 : ((j : Int) != (i : Int)) = true := by rw [bne_iff_ne]; omega
                have p1 := place_lt hin hjn
                have s1 := nth_bit HM.out _ p1
                rw [← HL2.out] at p1
                have c1 := HK.out.tab.cells _ p1
                obtain ⟨u, hu⟩ : ∃ u, i * n = u := ⟨_, rfl⟩
                have hu' : (i : Int) * (n : Int) = u := by rw [← hu, Int.natCast_mul]
                obtain ⟨x, hx⟩ : ∃ x, nth xs (i * n + j) = x := ⟨_, rfl⟩
                rw [hx] at c1 s1
                rw [hu] at p1 c1
                have HSU : Hid (AllUpto xs n i (j + 1) ↔ AllUpto xs n i j ∧ x ≠ 0) := by
                  show _ ↔ _
                  rw [← hx]
                  constructor
                  · exact fun h => ⟨fun q hq => h q (by omega), h j (by omega) hji⟩
                  · rintro ⟨h3, h4⟩ q hq hqi
                    rcases Nat.lt_succ_iff_lt_or_eq.1 hq with h5 | rfl
                    · exact h3 q h5 hqi
                    · exact h4
                clear hx hu hji
                rcases s1 with rfl | rfl
                · go_wp2
                  go_roundw
                  case rel => exact ⟨j + 1, false, by omega, by go_num, rfl, HK.out, by rw [HSU.out]; simp⟩
                  case measure => simp [intOf] <;> omega
                · go_wp2
                  go_roundw
                  case rel => exact ⟨j + 1, v, by omega, by go_num, rfl, HK.out, by rw [HSU.out, HV.out]; simp⟩
                  case measure => simp [intOf] <;> omega
            · obtain rfl : n = j := by omega
              have HA := Lib.hid (HALL.out i hin)
              cases v with
              | true =>
                go_wp2
                exact bodyPost_ret (v := .tuple #[.int .i64 i, .int .i64 0]) (by simp [results, Try.results19, go_sem]) rfl ⟨_, _, rfl, .inr (.inl ⟨HO.out, i, hin, rfl, rfl, HA.out.1 (HV.out.1 (by simp)), HN.out⟩), HK.out.ext⟩
              | false =>
                go_wp2
                go_roundw
                case rel => exact ⟨i + 1, by omega, by go_num, HK.out, fun q hq => by
                  rcases Nat.lt_succ_iff_lt_or_eq.1 hq with h | rfl
                  · exact HN.out q h
                  · exact fun h => by have := HV.out.2 (HA.out.2 h); simp at this⟩
                case measure => simp [intOf] <;> omega
        · obtain rfl : n = i := by omega
          go_wp2
          exact bodyPost_ret (v := .tuple #[.int .i64 0, .int .i64 4]) (by simp [results, Try.results19, go_sem]) rfl ⟨_, _, rfl, .inr (.inr ⟨HO.out, rfl, rfl, HN.out⟩), HJ.out.ext⟩

end Go.Proofs.Ytllfccfpoigigaa
