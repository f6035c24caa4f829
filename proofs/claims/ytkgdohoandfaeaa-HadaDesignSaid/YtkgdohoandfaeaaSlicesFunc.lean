/- What slices.IndexFunc and slices.ContainsFunc answer at a list of ints that can be read, where the function handed in only reads. -/
import Derived.Test.YtkgdohoandfaeaaBase
namespace Go.Proofs.Ytkgdohoandfaeaa
open Go.RowKit

/-- What is asked of a function value on ints: it answers p, at the numbers of the list, and only reads. -/
def PredOn (f : FuncId) (caps : Array Value) (xs : List Int) (p : Int → Bool) (w : World) : Prop :=
  ∀ x ∈ xs, ∀ w', Drawn w w' → Calls Try.prog f (#[.int .i64 x] ++ caps) w' fun e w'' => e = .returned (.bool (p x)) ∧ Drawn w' w''

/-- The first place where p holds, from k on. -/
def idxFrom (p : Int → Bool) : List Int → Nat → Int
  | [], _ => -1
  | x :: xs, k => if p x then k else idxFrom p xs (k + 1)

theorem idxFrom_hit (p : Int → Bool) : ∀ (xs : List Int) (k j : Nat), j < xs.length → p (nth xs j) = true → (∀ i, i < j → p (nth xs i) = false) → idxFrom p xs k = k + j
  | [], _, _, h, _, _ => by simp at h
  | x :: xs, k, 0, _, h, _ => by have : p x = true := h; simp [idxFrom, this]
  | x :: xs, k, j + 1, h, hp, hn => by
    have h0 : p x = false := hn 0 (by omega)
    rw [idxFrom, h0, if_neg (by simp), idxFrom_hit p xs (k + 1) j (by simpa using h) hp (fun i hi => hn (i + 1) (by omega))]
    omega

theorem idxFrom_miss (p : Int → Bool) : ∀ (xs : List Int) (k : Nat), (∀ i, i < xs.length → p (nth xs i) = false) → idxFrom p xs k = -1
  | [], _, _ => rfl
  | x :: xs, k, hn => by
    have h0 : p x = false := hn 0 (by simp)
    rw [idxFrom, h0, if_neg (by simp), idxFrom_miss p xs (k + 1) (fun i hi => hn (i + 1) (by simpa using hi))]

theorem idxFrom_any (p : Int → Bool) : ∀ (xs : List Int) (k : Nat), decide (0 ≤ idxFrom p xs k) = xs.any p
  | [], _ => rfl
  | x :: xs, k => by
    rw [idxFrom, List.any_cons]
    by_cases h : p x = true
    · simp [h]
    · simp only [h, Bool.false_eq_true, if_false]
      rw [idxFrom_any p xs (k + 1)]
      simp

set_option maxHeartbeats 400000 in
theorem indexFunc_any (f : FuncId) (caps : Array Value) (ao : Option Addr) (n cap : Nat) (xs : List Int) (p : Int → Bool) (w : World) (hn : xs.length = n) (hbig : n ≤ maxLen) (hr : Reads w ao (ints xs))
    (hp : PredOn f caps xs p w) (henter : ∀ args w, (callFunc f args).run Try.prog w = .ok (.enter f args) w) :
    Calls Try.prog 38 #[.slice ao n cap, .func (.func f) #[] caps] w fun e w' => e = .returned (.int .i64 (idxFrom p xs 0)) ∧ Drawn w w' := by
  unfold maxLen at hbig
  have HN := Lib.hid hn
  have HP := Lib.hid hp
  have HR := Lib.hid hr
  clear hn hp hr
  go_enter Try.func38, Try.ntmps38
  go_wp2
  go_loopw [8] (fun i wr => ∃ k : Nat, k ≤ n ∧ i = .int .i64 k ∧ Drawn w wr ∧ ∀ i, i < k → p (nth xs i) = false) (fun i _ => n - (intOf i).toNat)
  case atStart => exact ⟨0, by omega, rfl, Drawn.refl _, fun i hi => by omega⟩
  case round =>
    obtain ⟨k, hk, rfl, hd, hall⟩ := hrel
    by_cases hlt : k < n
    · obtain ⟨b, off, rfl, hb, hc⟩ := Reads.int HR.out (by rw [HN.out]; omega)
      have hck : wr.cell? ⟨b, off + k, none⟩ = some (.int .i64 (nth xs k)) := by rw [hd.cell]; exact hc k (by rw [HN.out]; omega)
      have hcall := Lib.hid (HP.out (nth xs k) (nth_mem xs k (by rw [HN.out]; omega)) wr hd)
      have HA := Lib.hid hall
      have HD := Lib.hid hd
      clear hall hc hd
      cases hpx : p (nth xs k) with
      | true =>
        have HX := Lib.hid hpx
        rw [hpx] at hcall
        clear hpx
        go_wp2_with ((with_reducible refine Calls.mono hcall.out ?_); rintro e w' ⟨rfl, hdd⟩)
        go_ret
        exact ⟨by rw [idxFrom_hit p xs 0 k (by rw [HN.out]; omega) HX.out HA.out]; simp, HD.out.trans hdd⟩
      | false =>
        have HX := Lib.hid hpx
        rw [hpx] at hcall
        clear hpx
        go_wp2_with ((with_reducible refine Calls.mono hcall.out ?_); rintro e w' ⟨rfl, hdd⟩)
        go_roundw
        case rel => exact ⟨k + 1, by omega, by go_num, HD.out.trans hdd, fun i hi => by
          rcases Nat.lt_succ_iff_lt_or_eq.1 hi with h | rfl
          · exact HA.out i h
          · exact HX.out⟩
        case measure => simp [intOf]; omega
    · have HA := Lib.hid hall
      clear hall
      go_wp2
      go_ret
      exact ⟨by rw [idxFrom_miss p xs 0 (fun i hi => HA.out i (by rw [HN.out] at hi; omega))]; simp, hd⟩

set_option maxHeartbeats 400000 in
theorem containsFunc_any (f : FuncId) (caps : Array Value) (ao : Option Addr) (n cap : Nat) (xs : List Int) (p : Int → Bool) (w : World) (hn : xs.length = n) (hbig : n ≤ maxLen) (hr : Reads w ao (ints xs))
    (hp : PredOn f caps xs p w) (henter : ∀ args w, (callFunc f args).run Try.prog w = .ok (.enter f args) w) :
    Calls Try.prog 31 #[.slice ao n cap, .func (.func f) #[] caps] w fun e w' => e = .returned (.bool (xs.any p)) ∧ Drawn w w' := by
  have H := Lib.hid (indexFunc_any f caps ao n cap xs p w hn hbig hr hp henter)
  have HA := Lib.hid (idxFrom_any p xs 0)
  clear hn hbig hr hp henter
  generalize idxFrom p xs 0 = r at *
  go_enter Try.func31, Try.ntmps31
  go_wp2_with (go_at_call 38; refine H.out.mono ?_; rintro e w' ⟨rfl, hdd⟩)
  go_ret
  exact ⟨by rw [← HA.out]; rfl, hdd⟩

end Go.Proofs.Ytkgdohoandfaeaa
