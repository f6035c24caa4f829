/- What StrongFriends returns. -/
import Derived.Test.YtllfccfpoigigaaFriendLaw
import Derived.Test.YtllfccfpoigigaaArgSquare
namespace Go.Proofs.Ytllfccfpoigigaa
open Go.RowKit

set_option maxHeartbeats 4000000 in
theorem strongFriends_bad (m : Int) (ao : Option Addr) (len cap : Nat) (xs : List Int) (w : World) (hl : xs.length = len) (hr : Reads w ao (ints xs)) (h0 : graphFaultOf m xs ≠ 0) :
    Calls Try.prog 6 #[.agg #[.int .i64 m, .slice ao len cap]] w fun e w' => e = .returned (.bool true) ∧ Ext w w' := by
  obtain ⟨c, hc⟩ : ∃ c, graphFaultOf m xs = c := ⟨_, rfl⟩
  rw [hc] at h0
  have H4 : Hid (∀ w', Ext w w' → Calls Try.prog 15 #[.agg #[.int .i64 m, .slice ao len cap]] w' fun e w'' => e = .returned (.int .i64 c) ∧ Ext w' w'') := fun w' hx => hc ▸ check_any m ao len cap xs w' hl (hx.reads hr)
  have b1 : (c != 0) = true := by rw [bne_iff_ne]; exact h0
  clear hl hr hc h0
  go_enter Try.func6, Try.ntmps6
  go_wp2_with fail
  have E0 := Lib.hid ((Ext.refl w).alloc (.cells #[.int .i64 m, .slice ao len cap] 30))
  have X0 := Lib.hid (Blk.new w #[.int .i64 m, .slice ao len cap] 30)
  refine Calls.mono (strongFact_ok _) ?_
  rintro e w1 ⟨rfl, hx⟩
  have E1 := Lib.hid (E0.out.trans hx)
  have k1 := (X0.out.ext hx).two
  clear hx
  go_wp2_with fail
  refine Calls.mono (H4.out _ E1.out) ?_
  rintro e w2 ⟨rfl, hx⟩
  have E2 := Lib.hid (E1.out.trans hx)
  clear hx k1
  go_wp2
  go_ret
  exact ⟨by simp, E2.out⟩

set_option maxHeartbeats 8000000 in
set_option maxRecDepth 100000 in
theorem strongFriends_ok (n : Nat) (ao : Option Addr) (len cap : Nat) (xs : List Int) (w : World) (hl : xs.length = len) (hr : Reads w ao (ints xs)) (hm : IsTab n xs) (hs : IsSym n xs) :
    Calls Try.prog 6 #[.agg #[.int .i64 n, .slice ao len cap]] w fun e w' => e = .returned (.bool true) ∧ Ext w w' := by
  have hl2 : len = n * n := by rw [← hl]; exact hm.len
  have HR := Lib.hid hr
  have HF : Hid (∀ w', Ext w w' → Calls Try.prog 16 #[.agg #[.int .i64 n, .slice ao len cap]] w' fun e w'' => ∃ x c, e = .returned (.tuple #[.int .i64 x, .int .i64 c]) ∧ FriendIs xs n x c ∧ Ext w' w'') := fun w' hx => friend_ok n ao len cap xs w' hl (hx.reads hr) hm hs
  have H4 : Hid (∀ w', Ext w w' → Calls Try.prog 15 #[.agg #[.int .i64 n, .slice ao len cap]] w' fun e w'' => e = .returned (.int .i64 0) ∧ Ext w' w'') := fun w' hx => graphFaultOf_tab hm hs ▸ check_any n ao len cap xs w' hl (hx.reads hr)
  obtain ⟨b, off, rfl, ht⟩ := tabAt_of hm hr
  rw [← hl2] at ht
  have h24 := hm.big
  have hq := sq_bound h24
  rw [← hl2] at hq
  have HT := Lib.hid ht
  have HM := Lib.hid hm
  have HL2 := Lib.hid hl2
  have HLAW : Hid (OneUpto xs n n → ∃ a, a < n ∧ comTo xs n a a n = (n : Int) - 1) := friend_law hm hs
  have HALL : Hid (∀ a, a < n → (AllUpto xs n a n ↔ comTo xs n a a n = (n : Int) - 1)) := fun a ha => all_iff hm hs ha
  clear ht hm hs hr hl hl2
  go_enter Try.func6, Try.ntmps6
  go_wp2_with fail
  have E0 := Lib.hid ((Ext.refl w).alloc (.cells #[.int .i64 n, .slice (some ⟨b, off, none⟩) len cap] 30))
  have X0 := Lib.hid (Blk.new w #[.int .i64 n, .slice (some ⟨b, off, none⟩) len cap] 30)
  refine Calls.mono (strongFact_ok _) ?_
  rintro e w1 ⟨rfl, hx⟩
  have E1 := Lib.hid (E0.out.trans hx)
  have X1 := Lib.hid (X0.out.ext hx)
  have k1 := X1.out.two
  clear hx
  go_wp2_with fail
  refine Calls.mono (H4.out _ E1.out) ?_
  rintro e w2 ⟨rfl, hx⟩
  have E2 := Lib.hid (E1.out.trans hx)
  have X2 := Lib.hid (X1.out.ext hx)
  have H0 : Hid (FrSt w w2 n len b off cap xs) := ⟨E2.out, X2.out, HT.out.ext E2.out⟩
  clear hx k1
  go_wp2
  go_loopw [5, 6] (fun y a wr => ∃ (i : Nat) (v : Bool), i ≤ n ∧ a = .int .i64 i ∧ y = .bool v ∧ FrSt w wr n len b off cap xs ∧ (v = true ↔ OneUpto xs n i)) (fun _ a _ => n - (intOf a).toNat)
  case atStart => exact ⟨0, true, by omega, rfl, rfl, H0.out, by simp [OneUpto]⟩
  case round =>
    obtain ⟨i, v, hi, rfl, rfl, hst, hv⟩ := hrel
    have HI := Lib.hid hst
    have HV := Lib.hid hv
    clear hst hv H0
    obtain ⟨k0, k1⟩ := HI.out.box.two
    by_cases hin : i < n
    · obtain ⟨wo, rfl⟩ : ∃ wo : World, wo = wr := ⟨_, rfl⟩
      go_wp2
      go_loopw [5, 7] (fun y a wr => ∃ (j : Nat) (v' : Bool), j ≤ i ∧ a = .int .i64 j ∧ y = .bool v' ∧ FrSt w wr n len b off cap xs ∧ (v' = true ↔ (v = true ∧ ∀ q, q < j → comTo xs n i q n = 1))) (fun _ a _ => i - (intOf a).toNat)
      case atStart => exact ⟨0, v, by omega, rfl, rfl, HI.out, by simp⟩
      case round =>
        obtain ⟨j, v', hj, rfl, rfl, hst, hv⟩ := hrel
        have HJ := Lib.hid hst
        have HV2 := Lib.hid hv
        clear hst hv HI k0 k1
        obtain ⟨k0, k1⟩ := HJ.out.box.two
        by_cases hji : j < i
        · obtain ⟨wq, rfl⟩ : ∃ wq : World, wq = wr := ⟨_, rfl⟩
          go_wp2
          go_loopw [8, 9] (fun y a wr => ∃ t : Nat, t ≤ n ∧ a = .int .i64 t ∧ y = .int .i64 (comTo xs n i j t) ∧ FrSt w wr n len b off cap xs) (fun _ a _ => n - (intOf a).toNat)
          case atStart => exact ⟨0, by omega, rfl, rfl, HJ.out⟩
          case round =>
            obtain ⟨t, htn, rfl, rfl, hst⟩ := hrel
            have HK := Lib.hid hst
            clear hst HJ k0 k1
            obtain ⟨k0, k1⟩ := HK.out.box.two
            by_cases htl : t < n
            · have hbn := comTo_bound HM.out i j hin (by omega) t htn
              have p1 := place_lt hin htl
              have p2 := place_lt (show j < n by omega) htl
              have s1 := nth_bit HM.out _ p1
              have s2 := nth_bit HM.out _ p2
              rw [← HL2.out] at p1 p2
              have c1 := HK.out.tab.cells _ p1
              have c2 := HK.out.tab.cells _ p2
              have HS : Hid (comTo xs n i j (t + 1) = comTo xs n i j t + nth xs (i * n + t) * nth xs (j * n + t)) := rfl
              have hu1 : i * n + n ≤ 576 := by
                have h1 : (i + 1) * n ≤ n * n := Nat.mul_le_mul_right n hin
                have h2 := sq_bound h24
                rw [Nat.succ_mul] at h1; omega
              have hu2 : j * n + n ≤ 576 := by
                have h1 : (j + 1) * n ≤ n * n := Nat.mul_le_mul_right n (show j < n by omega)
                have h2 := sq_bound h24
                rw [Nat.succ_mul] at h1; omega
              obtain ⟨u, hu⟩ : ∃ u, i * n = u := ⟨_, rfl⟩
              obtain ⟨z, hz⟩ : ∃ z, j * n = z := ⟨_, rfl⟩
              have hu' : (i : Int) * (n : Int) = u := by rw [← hu, Int.natCast_mul]
              have hz' : (j : Int) * (n : Int) = z := by rw [← hz, Int.natCast_mul]
              rw [hu] at p1 c1 HS hu1 s1
              rw [hz] at p2 c2 HS hu2 s2
              obtain ⟨x, hx⟩ : ∃ x, nth xs (u + t) = x := ⟨_, rfl⟩
              obtain ⟨y, hy⟩ : ∃ y, nth xs (z + t) = y := ⟨_, rfl⟩
              obtain ⟨s, hs⟩ : ∃ s, comTo xs n i j t = s := ⟨_, rfl⟩
              rw [hx] at s1 c1 HS
              rw [hy] at s2 c2 HS
              rw [hs] at hbn HS ⊢
              have hxy : 0 ≤ x * y ∧ x * y ≤ 1 := by rcases s1 with rfl | rfl <;> rcases s2 with rfl | rfl <;> decide
              obtain ⟨hxy1, hxy2⟩ := hxy
              obtain ⟨hbn1, hbn2⟩ := hbn
              clear hx hy hs s1 s2 hu hz
              go_wp2_with fail
              go_quiet (fail)
              go_wp2
              go_roundw
              case rel => exact ⟨t + 1, by omega, by go_num, by rw [HS.out], HK.out.carry ((Ext.refl _).drewN _)⟩
              case measure => simp [intOf]; omega
            · obtain rfl : n = t := by omega
              obtain ⟨cm, hcm⟩ : ∃ cm, comTo xs n i j n = cm := ⟨_, rfl⟩
              have HCI := Lib.hid hcm
              rw [hcm]
              clear hcm
              obtain ⟨q, hq'⟩ : ∃ q, (cm == 1) = q := ⟨_, rfl⟩
              have HQ : Hid ((v' && q) = true ↔ (v = true ∧ ∀ q, q < j + 1 → comTo xs n i q n = 1)) := by
                show _ ↔ _
                rw [Bool.and_eq_true, HV2.out, ← hq', beq_iff_eq, ← HCI.out]
                constructor
                · rintro ⟨⟨h1, h2⟩, h3⟩
                  refine ⟨h1, fun q hq => ?_⟩
                  rcases Nat.lt_succ_iff_lt_or_eq.1 hq with h | rfl
                  · exact h2 q h
                  · exact h3
                · rintro ⟨h1, h2⟩
                  exact ⟨⟨h1, fun q hq => h2 q (by omega)⟩, h2 j (by omega)⟩
              cases v' with
              | true =>
                go_wp2
                go_roundw
                case rel => exact ⟨j + 1, q, by omega, by go_num, rfl, HK.out, by rw [← HQ.out]; simp⟩
                case measure => simp [intOf]; omega
              | false =>
                go_wp2
                go_roundw
                case rel => exact ⟨j + 1, false, by omega, by go_num, rfl, HK.out, by rw [← HQ.out]; simp⟩
                case measure => simp [intOf]; omega
        · obtain rfl : j = i := by omega
          go_wp2
          go_roundw
          case rel => exact ⟨j + 1, v', by omega, by go_num, rfl, HJ.out, by
            rw [HV2.out, HV.out]
            constructor
            · rintro ⟨h1, h2⟩ p q hp hq
              rcases Nat.lt_succ_iff_lt_or_eq.1 hp with h | rfl
              · exact h1 p q h hq
              · exact h2 q hq
            · intro h
              exact ⟨fun p q hp hq => h p q (by omega) hq, fun q hq => h j q (by omega) hq⟩⟩
          case measure => simp [intOf]; omega
    · obtain rfl : n = i := by omega
      go_wp2_with fail
      refine Calls.mono (HF.out _ HI.out.ext) ?_
      rintro e w3 ⟨x, c, rfl, hfr, hx⟩
      have H3 := Lib.hid (HI.out.carry hx)
      have k3 := H3.out.box.two
      clear hx k0 k1
      cases v with
      | false =>
        have hno : ¬ OneUpto xs n n := fun h => by have := HV.out.2 h; simp at this
        have hc : x = 0 ∧ c = 4 := by
          rcases hfr with ⟨_, h1, h2⟩ | ⟨h, _⟩ | ⟨h, _⟩
          · exact ⟨h1, h2⟩
          · exact absurd h hno
          · exact absurd h hno
        obtain ⟨rfl, rfl⟩ := hc
        clear hfr
        go_wp2
        go_ret
        exact ⟨by simp, H3.out.ext⟩
      | true =>
        have hyes : OneUpto xs n n := HV.out.1 (by simp)
        have hc : ∃ a : Nat, a < n ∧ x = a ∧ c = 0 ∧ AllUpto xs n a n := by
          rcases hfr with ⟨h, _⟩ | ⟨_, a, h1, h2, h3, h4, _⟩ | ⟨_, _, _, h4⟩
          · exact absurd hyes h
          · exact ⟨a, h1, h2, h3, (HALL.out a h1).2 h4⟩
          · obtain ⟨a, h1, h2⟩ := HLAW.out hyes
            exact absurd h2 (h4 a h1)
        obtain ⟨a, han, rfl, rfl, hall⟩ := hc
        have HA := Lib.hid hall
        clear hfr hall hyes
        go_wp2
        go_loopw [11] (fun t wr => ∃ i : Nat, i ≤ n ∧ t = .int .i64 i ∧ FrSt w wr n len b off cap xs) (fun t _ => n - (intOf t).toNat)
        case atStart => exact ⟨0, by omega, rfl, H3.out⟩
        case round =>
          obtain ⟨i, hi, rfl, hst⟩ := hrel
          have HK := Lib.hid hst
          clear hst H3 k3
          obtain ⟨k0, k1⟩ := HK.out.box.two
          by_cases hin : i < n
          · by_cases hia : i = a
            · have b1 : ((i : Int) != (a : Int)) = false := by rw [hia]; simp
              clear hia
              go_wp2
              go_roundw
              case rel => exact ⟨i + 1, by omega, by go_num, HK.out⟩
              case measure => simp [intOf]; omega
            · have b1 : ((i : Int) != (a : Int)) = true := by rw [bne_iff_ne]; omega
              have p1 := place_lt han hin
              have s1 := HA.out i hin hia
              rw [← HL2.out] at p1
              have c1 := HK.out.tab.cells _ p1
              have hu1 : a * n + n ≤ 576 := by
                have h1 : (a + 1) * n ≤ n * n := Nat.mul_le_mul_right n han
                have h2 := sq_bound h24
                rw [Nat.succ_mul] at h1; omega
              obtain ⟨u, hu⟩ : ∃ u, a * n = u := ⟨_, rfl⟩
              have hu' : (a : Int) * (n : Int) = u := by rw [← hu, Int.natCast_mul]
              rw [hu] at p1 c1 hu1 s1
              obtain ⟨x, hx⟩ : ∃ x, nth xs (u + i) = x := ⟨_, rfl⟩
              rw [hx] at s1 c1
              have b2 : (x == 0) = false := by rw [beq_eq_false_iff_ne]; exact s1
              clear hx hu hia s1
              go_wp2
              go_roundw
              case rel => exact ⟨i + 1, by omega, by go_num, HK.out⟩
              case measure => simp [intOf]; omega
          · obtain rfl : n = i := by omega
            go_wp2
            go_ret
            exact ⟨by simp, HK.out.ext⟩

theorem strongFriends_any (m : Int) (ao : Option Addr) (n cap : Nat) (xs : List Int) {w : World} (hx : IntsArg w ao n cap xs) (_ : -9223372036854775808 ≤ m) (_ : m ≤ 9223372036854775807) :
    Calls Try.prog 6 #[.agg #[.int .i64 m, .slice ao n cap]] w fun e w' => e = .returned (.bool true) ∧ Below w.heap.size w w' := by
  by_cases h : graphFaultOf m xs = 0
  · obtain ⟨k, rfl, hm, ho⟩ := graphFaultOf_zero h
    exact strongFriends_ok k ao n cap xs w hx.len hx.reads hm ho
  · exact strongFriends_bad m ao n cap xs w hx.len hx.reads h

end Go.Proofs.Ytllfccfpoigigaa
