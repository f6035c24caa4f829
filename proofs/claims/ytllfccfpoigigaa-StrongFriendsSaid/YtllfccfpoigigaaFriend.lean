/- What strong.Friend answers at a graph. -/
import Derived.Test.YtllfccfpoigigaaGraphCheck
import Derived.Test.YtllfccfpoigigaaMapKeys
namespace Go.Proofs.Ytllfccfpoigigaa
open Go.RowKit

/-- Each two unlike places, up to a place, have one friend in common. -/
def OneUpto (xs : List Int) (n k : Nat) : Prop := ∀ i j, i < k → j < i → comTo xs n i j n = 1
/-- Who is joined to all others: the first; and what is answered. -/
def FriendIs (xs : List Int) (n : Nat) (x c : Int) : Prop :=
  (¬ OneUpto xs n n ∧ x = 0 ∧ c = 4) ∨ (OneUpto xs n n ∧ ∃ a, a < n ∧ x = a ∧ c = 0 ∧ comTo xs n a a n = (n : Int) - 1 ∧ ∀ i, i < a → comTo xs n i i n ≠ (n : Int) - 1) ∨
  (OneUpto xs n n ∧ x = 0 ∧ c = 4 ∧ ∀ i, i < n → comTo xs n i i n ≠ (n : Int) - 1)
theorem FriendIs.one {xs : List Int} {n : Nat} {x y c d : Int} (h : FriendIs xs n x c) (k : FriendIs xs n y d) : x = y ∧ c = d := by
  rcases h with ⟨h1, h2, h3⟩ | ⟨h1, a, h2, h3, h4, h5, h6⟩ | ⟨h1, h2, h3, h4⟩ <;> rcases k with ⟨k1, k2, k3⟩ | ⟨k1, b, k2, k3, k4, k5, k6⟩ | ⟨k1, k2, k3, k4⟩
  · exact ⟨by omega, by omega⟩
  · exact absurd k1 h1
  · exact absurd k1 h1
  · exact absurd h1 k1
  · have : a = b := by
      rcases Nat.lt_trichotomy a b with h | h | h
      · exact absurd h5 (k6 a h)
      · exact h
      · exact absurd k5 (h6 b h)
    subst this
    exact ⟨by omega, by omega⟩
  · exact absurd h5 (k4 a h2)
  · exact absurd h1 k1
  · exact absurd k5 (h4 b k2)
  · exact ⟨by omega, by omega⟩

/-- Under way. -/
structure FrSt (w wr : World) (n len b off cap : Nat) (xs : List Int) : Prop where
  ext : Ext w wr
  box : Blk wr w.heap.size #[.int .i64 n, .slice (some ⟨b, off, none⟩) len cap] 30
  tab : TabAt wr n len b off xs
theorem FrSt.carry {w wr w' : World} {n len b off cap : Nat} {xs : List Int} (h : FrSt w wr n len b off cap xs) (hx : Ext wr w') : FrSt w w' n len b off cap xs :=
  ⟨h.ext.trans hx, h.box.ext hx, h.tab.ext hx⟩

set_option maxHeartbeats 2000000 in
theorem friend_ok (n : Nat) (ao : Option Addr) (len cap : Nat) (xs : List Int) (w : World) (hl : xs.length = len) (hr : Reads w ao (ints xs)) (hm : IsTab n xs) (hs : IsSym n xs) :
    Calls Try.prog 16 #[.agg #[.int .i64 n, .slice ao len cap]] w fun e w' =>
      ∃ x c, e = .returned (.tuple #[.int .i64 x, .int .i64 c]) ∧ FriendIs xs n x c ∧ Ext w w' := by
  have hl2 : len = n * n := by rw [← hl]; exact hm.len
  obtain ⟨b, off, rfl, ht⟩ := tabAt_of hm hr
  rw [← hl2] at ht
  have hc := fun w' (hx : Ext w w') => check_any n (some ⟨b, off, none⟩) len cap xs w' hl (hx.reads hr)
  rw [graphFaultOf_tab hm hs] at hc
  have HC := Lib.hid hc
  have h24 := hm.big
  have HCM : Hid (∀ i j w', i < n → j < n → TabAt w' n len b off xs → Calls Try.prog 25 #[.agg #[.int .i64 n, .slice (some ⟨b, off, none⟩) len cap], .int .i64 i, .int .i64 j] w' fun e w'' => e = .returned (.int .i64 (comTo xs n i j n)) ∧ Ext w' w'') :=
    fun i j w' hi hj ht => common_at n len b off cap i j xs w' hi hj ht
  have HT := Lib.hid ht
  clear ht hm hs hr hl hl2 hc
  go_enter Try.func16, Try.ntmps16
  go_wp2_with (go_at_call 15; refine Calls.mono (HC.out _ ((Ext.refl w).alloc _)) ?_; rintro e w1 ⟨rfl, hx⟩; have HX := Lib.hid hx; have k0 := ((Blk.new w #[.int .i64 n, .slice (some ⟨b, off, none⟩) len cap] 30).ext hx).two; clear hx)
  have H0 : Hid (FrSt w w1 n len b off cap xs) := ⟨((Ext.refl w).alloc _).trans HX.out, (Blk.new w _ _).ext HX.out, HT.out.ext (((Ext.refl w).alloc _).trans HX.out)⟩
  clear k0 HX
  go_loopw [15] (fun a wr => ∃ i : Nat, i ≤ n ∧ a = .int .i64 i ∧ FrSt w wr n len b off cap xs ∧ OneUpto xs n i) (fun a _ => n - (intOf a).toNat)
  case atStart => exact ⟨0, by omega, rfl, H0.out, fun i j h => by omega⟩
  case round =>
    obtain ⟨i, hi, rfl, hst, hone⟩ := hrel
    have HI := Lib.hid hst
    have HO := Lib.hid hone
    clear hst hone H0
    obtain ⟨k0, k1⟩ := HI.out.box.two
    by_cases hin : i < n
    · obtain ⟨wo, rfl⟩ : ∃ wo : World, wo = wr := ⟨_, rfl⟩
      go_wp2
      go_loopw [19] (fun a wr => ∃ j : Nat, j ≤ i ∧ a = .int .i64 j ∧ FrSt w wr n len b off cap xs ∧ ∀ q, q < j → comTo xs n i q n = 1) (fun a _ => i - (intOf a).toNat)
      case atStart => exact ⟨0, by omega, rfl, HI.out, fun q h => by omega⟩
      case round =>
        obtain ⟨j, hj, rfl, hst, hone⟩ := hrel
        have HJ := Lib.hid hst
        have HO2 := Lib.hid hone
        clear hst hone HI k0 k1
        obtain ⟨k0, k1⟩ := HJ.out.box.two
        by_cases hji : j < i
        · have HCC := Lib.hid (HCM.out i j wr hin (by omega) HJ.out.tab)
          obtain ⟨cm, hcm⟩ : ∃ cm, comTo xs n i j n = cm := ⟨_, rfl⟩
          rw [hcm] at HCC
          have HCI := Lib.hid hcm
          clear hcm
          by_cases h1 : cm = 1
          · subst h1
            go_wp2_with (go_at_call 25; refine Calls.mono HCC.out ?_; rintro e w2 ⟨rfl, hx2⟩; have HX2 := Lib.hid hx2; clear hx2)
            go_roundw
            case rel => exact ⟨j + 1, by omega, by go_num, HJ.out.carry HX2.out, fun q hq => by
              rcases Nat.lt_succ_iff_lt_or_eq.1 hq with h | rfl
              · exact HO2.out q h
              · exact HCI.out⟩
            case measure => simp [intOf] <;> omega
          · have b2 : (cm != 1) = true := by rw [bne_iff_ne]; exact h1
            go_wp2_with (go_at_call 25; refine Calls.mono HCC.out ?_; rintro e w2 ⟨rfl, hx2⟩; have HX2 := Lib.hid hx2; clear hx2)
            exact bodyPost_ret (v := .tuple #[.int .i64 0, .int .i64 4]) (by simp [results, Try.results16, go_sem]) rfl ⟨_, _, rfl, .inl ⟨fun h => h1 (HCI.out ▸ h i j hin hji), rfl, rfl⟩, HJ.out.ext.trans HX2.out⟩
        · obtain rfl : j = i := by omega
          go_wp2
          go_roundw
          case rel => exact ⟨j + 1, by omega, by go_num, HJ.out, fun p q hp hq => by
            rcases Nat.lt_succ_iff_lt_or_eq.1 hp with h | rfl
            · exact HO.out p q h hq
            · exact HO2.out q hq⟩
          case measure => simp [intOf] <;> omega
    · obtain rfl : n = i := by omega
      go_wp2
      obtain ⟨wo, rfl⟩ : ∃ wo : World, wo = wr := ⟨_, rfl⟩
      go_loopw [31] (fun a wr => ∃ i : Nat, i ≤ n ∧ a = .int .i64 i ∧ FrSt w wr n len b off cap xs ∧ ∀ q, q < i → comTo xs n q q n ≠ (n : Int) - 1) (fun a _ => n - (intOf a).toNat)
      case atStart => exact ⟨0, by omega, rfl, HI.out, fun q h => by omega⟩
      case round =>
        obtain ⟨i, hi, rfl, hst, hno⟩ := hrel
        have HJ := Lib.hid hst
        have HN := Lib.hid hno
        clear hst hno HI k0 k1
        obtain ⟨k0, k1⟩ := HJ.out.box.two
        by_cases hin : i < n
        · have HCC := Lib.hid (HCM.out i i wr.drew hin hin (HJ.out.tab.ext (Ext.refl _).drew))
          obtain ⟨cm, hcm⟩ : ∃ cm, comTo xs n i i n = cm := ⟨_, rfl⟩
          rw [hcm] at HCC
          have HCI := Lib.hid hcm
          clear hcm
          by_cases h1 : cm = (n : Int) - 1
          · have b2 : (cm == (n : Int) - 1) = true := by rw [beq_iff_eq]; exact h1
            have hw : IntKind.i64.wrap ((n : Int) - 1) = (n : Int) - 1 := IntWalk.i64_in _ (by omega)
            have H1 := Lib.hid h1
            clear h1
            go_wp2_with fail
            go_region_law (first
              | (refine step_callG (.int .i64 cm) rfl HCC.out (by simp [execOp, resolve, invoke, Act.eval]; rfl) ?_; intro w2 hx2; have q0 := (HJ.out.box.ext (((Ext.refl _).drew).trans hx2)).two; obtain ⟨q0, q1⟩ := q0))
            all_goals
              go_wp2
              exact bodyPost_ret (v := .tuple #[.int .i64 i, .int .i64 0]) (by simp [results, Try.results16, go_sem]) rfl ⟨_, _, rfl, .inr (.inl ⟨HO.out, i, hin, rfl, rfl, HCI.out.trans H1.out, HN.out⟩), HJ.out.ext.trans ((Ext.refl wr).drew.trans hx2)⟩
          · have b2 : (cm == (n : Int) - 1) = false := by rw [beq_eq_false_iff_ne]; exact h1
            have hw : IntKind.i64.wrap ((n : Int) - 1) = (n : Int) - 1 := IntWalk.i64_in _ (by omega)
            have H1 := Lib.hid h1
            clear h1
            go_wp2_with fail
            go_region_law (first
              | (refine step_callG (.int .i64 cm) rfl HCC.out (by simp [execOp, resolve, invoke, Act.eval]; rfl) ?_; intro w2 hx2; have q0 := (HJ.out.box.ext (((Ext.refl _).drew).trans hx2)).two; obtain ⟨q0, q1⟩ := q0))
            all_goals
              go_wp2
              go_roundw
              case rel => exact ⟨i + 1, by omega, by go_num, HJ.out.carry ((Ext.refl wr).drew.trans hx2), fun q hq => by
                rcases Nat.lt_succ_iff_lt_or_eq.1 hq with h | rfl
                · exact HN.out q h
                · rw [HCI.out]; exact H1.out⟩
              case measure => simp [intOf] <;> omega
        · obtain rfl : n = i := by omega
          go_wp2
          exact bodyPost_ret (v := .tuple #[.int .i64 0, .int .i64 4]) (by simp [results, Try.results16, go_sem]) rfl ⟨_, _, rfl, .inr (.inr ⟨HO.out, rfl, rfl, HN.out⟩), HJ.out.ext⟩

end Go.Proofs.Ytllfccfpoigigaa
