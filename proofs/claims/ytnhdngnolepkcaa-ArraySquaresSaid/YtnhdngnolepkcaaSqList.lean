/- Lists of squares that can be read; slices.ContainsFunc at such a list, where sides are asked. -/
import Derived.Test.YtnhdngnolepkcaaLatinCheck
import Derived.Test.YtnhdngnolepkcaaTbl
namespace Go.Proofs.Ytnhdngnolepkcaa
open Go.RowKit

/-- The square of a number. -/
def sqAt (sqs : List (Int × List Int)) (j : Nat) : Int × List Int := sqs.getD j (0, [])
theorem sqAt_eq (sqs : List (Int × List Int)) (j : Nat) (h : j < sqs.length) : sqAt sqs j = sqs[j] := by simp [sqAt, List.getElem?_eq_getElem h]
/-- A slice of squares that reads as a list. -/
def ReadsSq (w : World) (ao : Option Addr) (sqs : List (Int × List Int)) : Prop :=
  sqs = [] ∨ ∃ b off, ao = some ⟨b, off, none⟩ ∧ b < w.heap.size ∧ ∀ j, j < sqs.length → ∃ a c, w.cell? ⟨b, off + j * 2, none⟩ = some (.int .i64 (sqAt sqs j).1) ∧ w.cell? ⟨b, off + j * 2 + 1, none⟩ = some (.slice a (sqAt sqs j).2.length c) ∧
    Reads w a (ints (sqAt sqs j).2) ∧ (sqAt sqs j).2.length ≤ maxLen
theorem ReadsSq.ext {w w' : World} {ao : Option Addr} {sqs : List (Int × List Int)} (h : ReadsSq w ao sqs) (hx : Ext w w') : ReadsSq w' ao sqs := by
  rcases h with h | ⟨b, off, h1, h2, h3⟩
  · exact .inl h
  · refine .inr ⟨b, off, h1, Nat.lt_of_lt_of_le h2 hx.size, fun j hj => ?_⟩
    obtain ⟨a, c, k1, k2, k3, k4⟩ := h3 j hj
    exact ⟨a, c, (hx.cell h2).trans k1, (hx.cell h2).trans k2, hx.reads k3, k4⟩

theorem side_ne {m : Int} {ao : Option Addr} {n cap r : Nat} {s : Int} {w : World} (hb : Blk w r #[.int .i64 s] 3) :
    Calls Try.prog 10 #[.agg #[.int .i64 m, .slice ao n cap], .pointer (some ⟨r, 0, none⟩)] w fun e w' => e = .returned (.bool (m != s)) ∧ Ext w w' := by
  have hlt := hb.lt
  have k1 : ∀ o, (w.alloc o).cell? ⟨r, 0, none⟩ = some (.int .i64 s) := fun o => (hb.alloc o).one
  clear hb
  go_enter Try.func10, Try.ntmps10
  go_wp2
  go_ret
  exact ⟨rfl, (Ext.refl w).alloc _⟩

/-- The first square of another side. -/
def sideIdx (s : Int) : List (Int × List Int) → Nat → Int
  | [], _ => -1
  | x :: xs, k => if x.1 != s then k else sideIdx s xs (k + 1)
theorem sideIdx_hit (s : Int) : ∀ (xs : List (Int × List Int)) (k j : Nat), j < xs.length → ((sqAt xs j).1 != s) = true → (∀ i, i < j → ((sqAt xs i).1 != s) = false) → sideIdx s xs k = k + j
  | [], _, _, h, _, _ => by simp at h
  | x :: xs, k, 0, _, h, _ => by have : (x.1 != s) = true := h; simp only [sideIdx, this, if_true]; simp
  | x :: xs, k, j + 1, h, hp, hn => by
    have h0 : (x.1 != s) = false := hn 0 (by omega)
    rw [sideIdx, h0, if_neg (by simp), sideIdx_hit s xs (k + 1) j (by simpa using h) hp (fun i hi => hn (i + 1) (by omega))]
    omega
theorem sideIdx_miss (s : Int) : ∀ (xs : List (Int × List Int)) (k : Nat), (∀ i, i < xs.length → ((sqAt xs i).1 != s) = false) → sideIdx s xs k = -1
  | [], _, _ => rfl
  | x :: xs, k, hn => by
    have h0 : (x.1 != s) = false := hn 0 (by simp)
    rw [sideIdx, h0, if_neg (by simp), sideIdx_miss s xs (k + 1) (fun i hi => hn (i + 1) (by simpa using hi))]
theorem sideIdx_any (s : Int) : ∀ (xs : List (Int × List Int)) (k : Nat), decide (0 ≤ sideIdx s xs k) = xs.any (fun x => x.1 != s)
  | [], _ => rfl
  | x :: xs, k => by
    rw [sideIdx, List.any_cons]
    by_cases h : (x.1 != s) = true
    · rw [h, if_pos rfl]; simp
    · rw [show (x.1 != s) = false by simpa using h, if_neg (by simp), sideIdx_any s xs (k + 1)]
      simp

set_option maxHeartbeats 1000000 in
theorem sideIdx_walk (s : Int) (r : Nat) (ao : Option Addr) (n cap : Nat) (sqs : List (Int × List Int)) (w : World) (hn : sqs.length = n) (hbig : n ≤ maxLen) (hr : ReadsSq w ao sqs) (hb : Blk w r #[.int .i64 s] 3) :
    Calls Try.prog 18 #[.slice ao n cap, .func (.func 10) #[] #[.pointer (some ⟨r, 0, none⟩)]] w fun e w' => e = .returned (.int .i64 (sideIdx s sqs 0)) ∧ Ext w w' := by
  unfold maxLen at hbig
  have HN := Lib.hid hn
  have HR := Lib.hid hr
  have HB := Lib.hid hb
  clear hn hr hb
  go_enter Try.func18, Try.ntmps18
  go_wp2
  go_loopw [8] (fun i wr => ∃ k : Nat, k ≤ n ∧ i = .int .i64 k ∧ Ext w wr ∧ ∀ i, i < k → ((sqAt sqs i).1 != s) = false) (fun i _ => n - (intOf i).toNat)
  case atStart => exact ⟨0, by omega, rfl, Ext.refl _, fun i hi => by omega⟩
  case round =>
    obtain ⟨k, hk, rfl, hd, hall⟩ := hrel
    have HA := Lib.hid hall
    have HD := Lib.hid hd
    clear hall hd
    by_cases hlt : k < n
    · rcases HR.out with h0 | ⟨b, off, rfl, hlb, hc⟩
      · have := HN.out; rw [h0] at this; simp at this; omega
      · obtain ⟨a, c, k1, k2, _, hl⟩ := hc k (by rw [HN.out]; exact hlt)
        rw [← HD.out.cell hlb] at k1 k2
        unfold maxLen at hl
        have hcall := Lib.hid (side_ne (m := (sqAt sqs k).1) (ao := a) (n := (sqAt sqs k).2.length) (cap := c) (HB.out.ext HD.out))
        obtain ⟨x, hx⟩ : ∃ x, ((sqAt sqs k).1 != s) = x := ⟨_, rfl⟩
        have HX := Lib.hid hx
        rw [hx] at hcall
        obtain ⟨q, hq⟩ : ∃ q, sqAt sqs k = q := ⟨_, rfl⟩
        rw [hq] at k1 k2 hcall hl
        obtain ⟨l, hql⟩ : ∃ l, q.2.length = l := ⟨_, rfl⟩
        obtain ⟨m, hqm⟩ : ∃ m, q.1 = m := ⟨_, rfl⟩
        rw [hqm] at k1 hcall
        rw [hql] at k2 hcall hl
        clear hc hx hq hql hqm
        cases x with
        | true =>
          go_wp2_with ((with_reducible refine Calls.mono hcall.out ?_); rintro e w' ⟨rfl, hdd⟩)
          go_ret
          exact ⟨by rw [sideIdx_hit s sqs 0 k (by rw [HN.out]; omega) HX.out HA.out]; simp, HD.out.trans hdd⟩
        | false =>
          go_wp2_with ((with_reducible refine Calls.mono hcall.out ?_); rintro e w' ⟨rfl, hdd⟩)
          go_roundw
          case rel => exact ⟨k + 1, by omega, by go_num, HD.out.trans hdd, fun i hi => by
            rcases Nat.lt_succ_iff_lt_or_eq.1 hi with h | rfl
            · exact HA.out i h
            · exact HX.out⟩
          case measure => simp [intOf]; omega
    · go_wp2
      go_ret
      exact ⟨by rw [sideIdx_miss s sqs 0 (fun i hi => HA.out i (by rw [HN.out] at hi; omega))]; simp, HD.out⟩

set_option maxHeartbeats 400000 in
theorem sideAny_walk (s : Int) (r : Nat) (ao : Option Addr) (n cap : Nat) (sqs : List (Int × List Int)) (w : World) (hn : sqs.length = n) (hbig : n ≤ maxLen) (hr : ReadsSq w ao sqs) (hb : Blk w r #[.int .i64 s] 3) :
    Calls Try.prog 9 #[.slice ao n cap, .func (.func 10) #[] #[.pointer (some ⟨r, 0, none⟩)]] w fun e w' => e = .returned (.bool (sqs.any fun x => x.1 != s)) ∧ Ext w w' := by
  have H := Lib.hid (sideIdx_walk s r ao n cap sqs w hn hbig hr hb)
  have HA := Lib.hid (sideIdx_any s sqs 0)
  clear hn hbig hr hb
  generalize sideIdx s sqs 0 = r at *
  go_enter Try.func9, Try.ntmps9
  go_wp2_with (go_at_call 18; refine H.out.mono ?_; rintro e w' ⟨rfl, hdd⟩)
  go_ret
  exact ⟨by rw [← HA.out]; rfl, hdd⟩

end Go.Proofs.Ytnhdngnolepkcaa
