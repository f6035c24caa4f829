/- What parterreref3.RaoOf answers, and that Rao says the same. Conditions: 1 ≤ k ≤ 30, 2 ≤ s ≤ 64, 0 ≤ t ≤ k. -/
import Derived.Test.YtfggmgfobcgadaaChosen
import Derived.Test.YtfggmgfobcgadaaTimesUp
import Derived.Test.YtfggmgfobcgadaaRao
namespace Go.Proofs.Ytfggmgfobcgadaa
open Go.RowKit

def rpPow (a : Int) : Nat → Int
  | 0 => 1
  | i + 1 => tUp (rpPow a i) a

theorem tUp_range (a b : Int) : -1 ≤ tUp a b ∧ tUp a b ≤ 1000000000000000000 := by
  unfold tUp
  split
  · omega
  · rename_i h
    have h1 : 0 ≤ a := by omega
    have h2 : 0 ≤ b := by omega
    split
    · omega
    · rename_i h4
      have := Int.mul_nonneg h1 h2
      by_cases h3 : 0 < b
      · have h5 : a ≤ 1000000000000000000 / b := by omega
        have h6 := Int.mul_le_mul_of_nonneg_right h5 h2
        have h7 := Int.ediv_mul_le 1000000000000000000 (b := b) (by omega)
        omega
      · have : b = 0 := by omega
        subst this
        simp
theorem rpPow_range (a : Int) : ∀ i, -1 ≤ rpPow a i ∧ rpPow a i ≤ 1000000000000000000
  | 0 => by unfold rpPow; omega
  | i + 1 => tUp_range _ _

def raoX (k : Nat) (a : Int) (i : Nat) : Int := tUp (rpPow a i) (nth (pasRow k) i)
/-- The sum of the first i, or that it is too great. -/
def raoOfSum (k : Nat) (a : Int) : Nat → Option Int
  | 0 => some 0
  | i + 1 => match raoOfSum k a i with
    | none => none
    | some s => if raoX k a i < 0 ∨ 1000000000000000000 < s + raoX k a i then none else some (s + raoX k a i)
def raoXlast (k : Nat) (a : Int) (t : Nat) : Int := tUp (rpPow a (t / 2 + 1)) (nth (pasRow (k - 1)) (t / 2))
def raoOfAll (k : Nat) (a : Int) (t : Nat) : Int := match raoOfSum k a (t / 2 + 1) with
  | none => -1
  | some s => if t % 2 = 1 then (if raoXlast k a t < 0 ∨ 1000000000000000000 < s + raoXlast k a t then -1 else s + raoXlast k a t) else s

theorem raoOfSum_range (k : Nat) (a : Int) : ∀ i s, raoOfSum k a i = some s → 0 ≤ s ∧ s ≤ 1000000000000000000
  | 0, s, h => by simp [raoOfSum] at h; omega
  | i + 1, s, h => by
    rw [raoOfSum] at h
    cases hp : raoOfSum k a i with
    | none => rw [hp] at h; cases h
    | some s0 =>
      rw [hp] at h
      have := raoOfSum_range k a i s0 hp
      simp only at h
      split at h
      · cases h
      · injection h with h; omega

set_option maxHeartbeats 2000000 in
theorem raoOf_good (k t : Nat) (s : Int) (w : World) (hk : 1 ≤ k) (hk' : k ≤ 30) (hs : 2 ≤ s) (hs' : s ≤ 64) (ht : t ≤ k) :
    Calls Try.prog 10 #[.int .i64 k, .int .i64 s, .int .i64 t] w fun e w' => e = .returned (.int .i64 (raoOfAll k (s - 1) t)) ∧ Below w.heap.size w w' := by
  go_enter Try.func10, Try.ntmps10
  go_wp2
  go_loopw [7, 8, 9] (fun o p j wr => ∃ (q : Nat) (sm : Int), q ≤ t / 2 + 1 ∧ j = .int .i64 q ∧ p = .int .i64 (rpPow (s - 1) q) ∧ o = .int .i64 sm ∧ raoOfSum k (s - 1) q = some sm ∧ Below w.heap.size w wr) (fun _ _ j _ => t / 2 + 2 - (intOf j).toNat)
  case atStart => exact ⟨0, 0, by omega, rfl, rfl, rfl, rfl, Below.refl _ _⟩
  case round =>
    obtain ⟨q, sm, hq, rfl, rfl, rfl, hsum, hbel⟩ := hrel
    have hb := raoOfSum_range _ _ _ _ hsum
    have HSUM := Lib.hid hsum
    have HBEL := Lib.hid hbel
    have hsz := hbel.size
    have hpr := rpPow_range (s - 1) q
    have hpr2 := rpPow_range (s - 1) (q + 1)
    have HPS : Hid (rpPow (s - 1) (q + 1) = tUp (rpPow (s - 1) q) (s - 1)) := rfl
    clear hsum hbel
    by_cases hlt : q < t / 2 + 1
    · have hle : ((q : Int) ≤ (t : Int) / 2) := by omega
      have hpb := pas_bound k q hk' (by omega)
      have hch := chosen_any k q wr hk' (by omega)
      have HS : Hid (raoOfSum k (s - 1) (q + 1) = if tUp (rpPow (s - 1) q) (nth (pasRow k) q) < 0 ∨ 1000000000000000000 < sm + tUp (rpPow (s - 1) q) (nth (pasRow k) q) then none else some (sm + tUp (rpPow (s - 1) q) (nth (pasRow k) q))) := by
        show _ = _
        rw [raoOfSum, HSUM.out]; rfl
      have HF : Hid (raoOfSum k (s - 1) (q + 1) = none → raoOfAll k (s - 1) t = -1) := by
        intro hn
        have : ∀ d, raoOfSum k (s - 1) (q + 1 + d) = none := fun d => by
          induction d with
          | zero => exact hn
          | succ d ih => rw [← Nat.add_assoc, raoOfSum, ih]
        have h1 := this (t / 2 + 1 - (q + 1))
        rw [show q + 1 + (t / 2 + 1 - (q + 1)) = t / 2 + 1 by omega] at h1
        unfold raoOfAll; rw [h1]
      obtain ⟨c, hc⟩ : ∃ c, nth (pasRow k) q = c := ⟨_, rfl⟩
      obtain ⟨p, hp⟩ : ∃ p, rpPow (s - 1) q = p := ⟨_, rfl⟩
      rw [hc] at hpb hch HS
      rw [hp] at hpr HS HPS ⊢
      have hxr := tUp_range p c
      have hHP := HPS.out
      rw [hHP] at hpr2
      have HCH := Lib.hid hch
      clear hc hp hch hHP
      obtain ⟨hb1, hb2⟩ := hb
      obtain ⟨hpr1, hpr2'⟩ := hpr
      obtain ⟨hpb1, hpb2⟩ := hpb
      obtain ⟨hx1, hx2⟩ := hxr
      have HTU := Lib.hid (timesUp_any p c)
      obtain ⟨x, hx⟩ : ∃ x, tUp p c = x := ⟨_, rfl⟩
      rw [hx] at hx1 hx2 HS HTU
      clear hx
      by_cases hneg : x < 0
      · have HE : Hid (raoOfAll k (s - 1) t = -1) := HF.out (by rw [HS.out, if_pos (.inl hneg)])
        have bb : decide (x < 0) = true := decide_eq_true hneg
        go_wp2_with (first
          | (go_at_call 24; refine HCH.out.mono ?_; rintro e w1 ⟨rfl, hb3⟩)
          | (go_at_call 25; refine (HTU.out _ (by omega) (by omega) (by omega) (by omega)).mono ?_; rintro e w2 ⟨rfl, rfl⟩))
        go_ret
        exact ⟨by rw [HE.out]; rfl, HBEL.out.trans (hb3.mono hsz)⟩
      · have bb : decide (x < 0) = false := decide_eq_false hneg
        by_cases hbig : 1000000000000000000 < sm + x
        · have HE : Hid (raoOfAll k (s - 1) t = -1) := HF.out (by rw [HS.out, if_pos (.inr hbig)])
          have bb2 : decide (1000000000000000000 < sm + x) = true := decide_eq_true hbig
          go_wp2_with (first
            | (go_at_call 24; refine HCH.out.mono ?_; rintro e w1 ⟨rfl, hb3⟩)
            | (go_at_call 25; refine (HTU.out _ (by omega) (by omega) (by omega) (by omega)).mono ?_; rintro e w2 ⟨rfl, rfl⟩))
          go_ret
          exact ⟨by rw [HE.out]; rfl, HBEL.out.trans (hb3.mono hsz)⟩
        · have HE : Hid (raoOfSum k (s - 1) (q + 1) = some (sm + x)) := by rw [HS.out, if_neg (by omega)]; rfl
          have bb2 : decide (1000000000000000000 < sm + x) = false := decide_eq_false hbig
          have HTU2 := Lib.hid (timesUp_any p (s - 1))
          go_wp2_with fail
          refine HCH.out.mono ?_
          rintro e w1 ⟨rfl, hb3⟩
          go_wp2_with fail
          refine (HTU.out _ (by omega) (by omega) (by omega) (by omega)).mono ?_
          rintro e w2 ⟨rfl, rfl⟩
          go_wp2_with fail
          refine (HTU2.out _ (by omega) (by omega) (by omega) (by omega)).mono ?_
          rintro e w2 ⟨rfl, rfl⟩
          go_wp2
          go_roundw
          case rel => exact ⟨q + 1, sm + x, by omega, by go_num, by rw [HPS.out], rfl, HE.out, HBEL.out.trans (hb3.mono hsz)⟩
          case measure => simp [intOf]; omega
    · obtain rfl : q = t / 2 + 1 := by omega
      by_cases hodd : t % 2 = 1
      · have ho : ((t : Int) % 2 == 1) = true := by rw [beq_iff_eq]; omega
        have hpb := pas_bound (k - 1) (t / 2) (by omega) (by omega)
        have hch := chosen_any (k - 1) (t / 2) wr (by omega) (by omega)
        rw [show ((k - 1 : Nat) : Int) = (k : Int) - 1 by omega, show ((t / 2 : Nat) : Int) = (t : Int) / 2 by omega] at hch
        have HS : Hid (raoOfAll k (s - 1) t = if tUp (rpPow (s - 1) (t / 2 + 1)) (nth (pasRow (k - 1)) (t / 2)) < 0 ∨ 1000000000000000000 < sm + tUp (rpPow (s - 1) (t / 2 + 1)) (nth (pasRow (k - 1)) (t / 2)) then -1 else sm + tUp (rpPow (s - 1) (t / 2 + 1)) (nth (pasRow (k - 1)) (t / 2))) := by
          show _ = _
          unfold raoOfAll; rw [HSUM.out]; simp only; rw [if_pos hodd]; rfl
        obtain ⟨c, hc⟩ : ∃ c, nth (pasRow (k - 1)) (t / 2) = c := ⟨_, rfl⟩
        obtain ⟨p, hp⟩ : ∃ p, rpPow (s - 1) (t / 2 + 1) = p := ⟨_, rfl⟩
        rw [hc] at hpb hch HS
        rw [hp] at hpr HS ⊢
        have hxr := tUp_range p c
        have HCH := Lib.hid hch
        clear hc hp hch hpr2 HPS hodd
        obtain ⟨hb1, hb2⟩ := hb
        obtain ⟨hpr1, hpr2'⟩ := hpr
        obtain ⟨hpb1, hpb2⟩ := hpb
        obtain ⟨hx1, hx2⟩ := hxr
        have HTU := Lib.hid (timesUp_any p c)
        obtain ⟨x, hx⟩ : ∃ x, tUp p c = x := ⟨_, rfl⟩
        rw [hx] at hx1 hx2 HS HTU
        clear hx
        by_cases hneg : x < 0
        · have HE : Hid (raoOfAll k (s - 1) t = -1) := by rw [HS.out, if_pos (.inl hneg)]; rfl
          have bb : decide (x < 0) = true := decide_eq_true hneg
          go_wp2_with (first
            | (go_at_call 24; refine HCH.out.mono ?_; rintro e w1 ⟨rfl, hb3⟩)
            | (go_at_call 25; refine (HTU.out _ (by omega) (by omega) (by omega) (by omega)).mono ?_; rintro e w2 ⟨rfl, rfl⟩))
          go_ret
          exact ⟨by rw [HE.out]; rfl, HBEL.out.trans (hb3.mono hsz)⟩
        · have bb : decide (x < 0) = false := decide_eq_false hneg
          by_cases hbig : 1000000000000000000 < sm + x
          · have HE : Hid (raoOfAll k (s - 1) t = -1) := by rw [HS.out, if_pos (.inr hbig)]; rfl
            have bb2 : decide (1000000000000000000 < sm + x) = true := decide_eq_true hbig
            go_wp2_with (first
              | (go_at_call 24; refine HCH.out.mono ?_; rintro e w1 ⟨rfl, hb3⟩)
              | (go_at_call 25; refine (HTU.out _ (by omega) (by omega) (by omega) (by omega)).mono ?_; rintro e w2 ⟨rfl, rfl⟩))
            go_ret
            exact ⟨by rw [HE.out]; rfl, HBEL.out.trans (hb3.mono hsz)⟩
          · have HE : Hid (raoOfAll k (s - 1) t = sm + x) := by rw [HS.out, if_neg (by omega)]; rfl
            have bb2 : decide (1000000000000000000 < sm + x) = false := decide_eq_false hbig
            go_wp2_with (first
              | (go_at_call 24; refine HCH.out.mono ?_; rintro e w1 ⟨rfl, hb3⟩)
              | (go_at_call 25; refine (HTU.out _ (by omega) (by omega) (by omega) (by omega)).mono ?_; rintro e w2 ⟨rfl, rfl⟩))
            go_ret
            exact ⟨by rw [HE.out]; rfl, HBEL.out.trans (hb3.mono hsz)⟩
      · have ho : ((t : Int) % 2 == 1) = false := by rw [beq_eq_false_iff_ne]; omega
        have HE : Hid (raoOfAll k (s - 1) t = sm) := by
          show _ = _
          unfold raoOfAll; rw [HSUM.out]; simp only; rw [if_neg hodd]
        clear hodd hpr hpr2 HPS
        go_wp2
        go_ret
        exact ⟨by rw [HE.out]; rfl, HBEL.out⟩

end Go.Proofs.Ytfggmgfobcgadaa
