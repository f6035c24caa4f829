/- What is strong fits: plain. -/
import Derived.Test.YtllfccfpoigigaaOtherLaw
import Derived.Test.YtllfccfpoigigaaFriendOf
import Derived.Test.YtllfccfpoigigaaRank
namespace Go.Proofs.Ytllfccfpoigigaa
open Go.RowKit

theorem com_sum (xs : List Int) (n i j : Nat) : ∀ k, comTo xs n i j k = sumN (fun t => nth xs (i * n + t) * nth xs (j * n + t)) k
  | 0 => rfl
  | k + 1 => by rw [comTo, sumN, com_sum xs n i j k]
theorem row_sum {xs : List Int} {n : Nat} (h : IsTab n xs) {i : Nat} (hi : i < n) : sumN (fun t => nth xs (i * n + t)) n = comTo xs n i i n := by
  rw [com_sum]
  refine sumN_congr fun t ht => ?_
  rcases nth_bit h _ (place_lt hi ht) with hb | hb <;> rw [hb] <;> rfl
theorem com_swap (xs : List Int) (n i j k : Nat) : comTo xs n i j k = comTo xs n j i k := by
  rw [com_sum, com_sum]; exact sumN_congr fun t _ => Int.mul_comm _ _
theorem com_le {xs : List Int} {n : Nat} (h : IsTab n xs) {i j : Nat} (hi : i < n) (hj : j < n) : ∀ k, k ≤ n → comTo xs n i j k ≤ comTo xs n i i k
  | 0, _ => Int.le_refl _
  | k + 1, hk => by
    have ih := com_le h hi hj k (by omega)
    rw [comTo, comTo]
    rcases nth_bit h _ (place_lt hi (show k < n by omega)) with b1 | b1 <;> rcases nth_bit h _ (place_lt hj (show k < n by omega)) with b2 | b2 <;> rw [b1, b2] <;> omega

/-- The numbers of a strong graph. -/
structure StrongAre (xs : List Int) (n : Nat) (k l m : Int) : Prop where
  tab : IsTab n xs
  sym : IsSym n xs
  deg : ∀ i, i < n → comTo xs n i i n = k
  com : ∀ i, i < n → ∀ j, j < n → comTo xs n i j n = (k - m) * (if j = i then 1 else 0) + (l - m) * nth xs (i * n + j) + m
theorem strongAre {xs : List Int} {n : Nat} (h : IsTab n xs) (hs : IsSym n xs) (hc : ¬ Clash xs n) : StrongAre xs n (outOf xs n 2) (outOf xs n 1) (outOf xs n 0) := by
  obtain ⟨hd, hl⟩ := numbers_of h hc
  have hlow : ∀ i, i < n → ∀ j, j < i → comTo xs n i j n = (outOf xs n 2 - outOf xs n 0) * (if j = i then 1 else 0) + (outOf xs n 1 - outOf xs n 0) * nth xs (i * n + j) + outOf xs n 0 := fun i hi j hj => by
    rw [hl i hi j hj, if_neg (show ¬ j = i by omega)]
    rcases nth_bit h _ (place_lt hi (show j < n by omega)) with b1 | b1 <;> rw [b1] <;> simp <;> omega
  refine ⟨h, hs, hd, fun i hi j hj => ?_⟩
  rcases Nat.lt_trichotomy j i with h1 | h1 | h1
  · exact hlow i hi j h1
  · subst h1
    rw [hd j hi, if_pos rfl, (hs j j hi (Nat.le_refl _)).2 rfl]; omega
  · rw [com_swap, hlow j hj i h1, sym_at hs hi hj, if_neg (show ¬ i = j by omega), if_neg (show ¬ j = i by omega)]

theorem StrongAre.col {xs : List Int} {n : Nat} {k l m : Int} (h : StrongAre xs n k l m) {z : Nat} (hz : z < n) : sumN (fun y => nth xs (y * n + z)) n = k := by
  rw [← h.deg z hz, ← row_sum h.tab hz]
  exact sumN_congr fun y hy => sym_at h.sym hy hz
theorem StrongAre.row {xs : List Int} {n : Nat} {k l m : Int} (h : StrongAre xs n k l m) {x : Nat} (hx : x < n) : sumN (fun y => nth xs (x * n + y)) n = k := by
  rw [row_sum h.tab hx, h.deg x hx]
theorem sumN_one (i n : Nat) (hi : i < n) : sumN (fun y => if y = i then 1 else 0) n = 1 := by
  have h := sumN_delta (fun _ => 1) i n
  rw [if_pos hi] at h
  have e := sumN_congr (n := n) (f := fun y => (1 : Int) * if y = i then 1 else 0) (g := fun y => if y = i then 1 else 0) (fun y _ => by simp)
  rw [← e]
  exact h

/-- Counting. -/
theorem StrongAre.count {xs : List Int} {n : Nat} {k l m : Int} (h : StrongAre xs n k l m) : k * (k - l - 1) = ((n : Int) - k - 1) * m := by
  have h1 := h.tab.one
  have e1 : sumN (fun j => comTo xs n 0 j n) n = k * k := by
    rw [sumN_congr (g := fun j => sumN (fun t => nth xs (0 * n + t) * nth xs (j * n + t)) n) (fun j _ => com_sum xs n 0 j n)]
    rw [sumN_swap]
    rw [sumN_congr (g := fun t => k * nth xs (0 * n + t)) (fun t ht => by rw [sumN_mul, h.col ht, Int.mul_comm])]
    rw [sumN_mul, h.row h1]
  have e2 : sumN (fun j => comTo xs n 0 j n) n = (k - m) + (l - m) * k + m * n := by
    rw [sumN_congr (g := fun j => ((k - m) * (if j = 0 then 1 else 0) + (l - m) * nth xs (0 * n + j)) + m) (fun j hj => h.com 0 h1 j hj)]
    rw [sumN_add, sumN_add, sumN_mul, sumN_mul, sumN_one 0 n h1, h.row h1, sumN_const]
    omega
  rw [e1] at e2
  grind

theorem nine (f g u w : Nat → Int) (A B h : Int) : ∀ n : Nat, sumN (fun y => (A * f y - B * u y - h) * (A * g y - B * w y - h)) n =
    A * A * sumN (fun y => f y * g y) n - A * B * sumN (fun y => f y * w y) n - A * h * sumN f n - A * B * sumN (fun y => g y * u y) n + B * B * sumN (fun y => u y * w y) n + B * h * sumN u n - A * h * sumN g n + B * h * sumN w n + h * h * n
  | 0 => by simp [sumN]
  | n + 1 => by
    have ih := nine f g u w A B h n
    simp only [sumN]
    rw [ih]
    grind

theorem StrongAre.root {xs : List Int} {n : Nat} {k l m : Int} (H : StrongAre xs n k l m) (p : Int) (hp : ∀ a b : Int, p ∣ a * b → p ∣ a ∨ p ∣ b) (r t : Int)
    (hr : r * r = ((l - m) * (l - m) + 4 * (k - m)) + p * t) (hc : ¬ p ∣ 2 * r * n) (hn : ¬ p ∣ (n : Int)) : ∃ s : Nat, s ≤ n ∧ p ∣ r * ((n : Int) - 1 - 2 * s) - (2 * k + ((n : Int) - 1) * (l - m)) := by
  have hcount := H.count
  obtain ⟨e, he⟩ : ∃ e, e = l - m - r := ⟨_, rfl⟩
  obtain ⟨h, hh⟩ : ∃ h, h = 2 * k - e := ⟨_, rfl⟩
  obtain ⟨s, hs, hd⟩ := rank_trace p hp n n 0 (by omega) (fun x y => 2 * n * nth xs (x * n + y) - n * e * (if y = x then 1 else 0) - h) (2 * r * n) hc
    (fun x z hx hz => by
      show p ∣ sumN (fun y => (2 * n * nth xs (x * n + y) - n * e * (if y = x then 1 else 0) - h) * (2 * n * nth xs (y * n + z) - n * e * (if z = y then 1 else 0) - h)) n - 2 * r * n * (2 * n * nth xs (x * n + z) - n * e * (if z = x then 1 else 0) - h)
      have e0 : sumN (fun y => (2 * n * nth xs (x * n + y) - n * e * (if y = x then 1 else 0) - h) * (2 * n * nth xs (y * n + z) - n * e * (if z = y then 1 else 0) - h)) n =
          sumN (fun y => (2 * n * nth xs (x * n + y) - n * e * (if y = x then 1 else 0) - h) * (2 * n * nth xs (y * n + z) - n * e * (if y = z then 1 else 0) - h)) n :=
        sumN_congr fun y _ => by
          have e : (if z = y then (1 : Int) else 0) = (if y = z then 1 else 0) := by
            by_cases hyz : y = z
            · rw [if_pos hyz, if_pos hyz.symm]
            · rw [if_neg hyz, if_neg (fun h => hyz h.symm)]
          rw [e]
      rw [e0, nine (fun y => nth xs (x * n + y)) (fun y => nth xs (y * n + z)) (fun y => if y = x then 1 else 0) (fun y => if y = z then 1 else 0) (2 * n) (n * e) h n]
      have f1 : sumN (fun y => nth xs (x * n + y) * nth xs (y * n + z)) n = (k - m) * (if z = x then 1 else 0) + (l - m) * nth xs (x * n + z) + m := by
        rw [← H.com x hx z hz, com_sum]
        exact sumN_congr fun y hy => by rw [sym_at H.sym hy hz]
      have f2 : sumN (fun y => nth xs (x * n + y) * (if y = z then 1 else 0)) n = nth xs (x * n + z) := by rw [sumN_delta, if_pos hz]
      have f3 : sumN (fun y => nth xs (y * n + z) * (if y = x then 1 else 0)) n = nth xs (x * n + z) := by rw [sumN_delta, if_pos hx]
      have f4 : sumN (fun y => (if y = x then (1 : Int) else 0) * (if y = z then 1 else 0)) n = (if z = x then 1 else 0) := by rw [sumN_delta, if_pos hz]
      rw [f1, f2, H.row hx, f3, f4, sumN_one x n hx, H.col hz, sumN_one z n hz]
      obtain ⟨dl, hdl⟩ : ∃ dl, (if z = x then (1 : Int) else 0) = dl := ⟨_, rfl⟩
      obtain ⟨X, hX⟩ : ∃ X, nth xs (x * n + z) = X := ⟨_, rfl⟩
      obtain ⟨N, hN⟩ : ∃ N : Int, (n : Int) = N := ⟨_, rfl⟩
      rw [hdl, hX, hN]
      rw [hN] at hcount
      refine ⟨t * (N - N * N * dl), ?_⟩
      subst hh
      subst he
      grind)
    (fun x y _ hy => by omega)
  refine ⟨s, hs, ?_⟩
  have htr : sumN (fun x => 2 * (n : Int) * nth xs (x * n + x) - n * e * (if x = x then 1 else 0) - h) n = n * (r * ((n : Int) - 1) - (2 * k + ((n : Int) - 1) * (l - m))) := by
    rw [sumN_congr (g := fun _ => -(n * e) - h) (fun x hx => by rw [(H.sym x x hx (Nat.le_refl _)).2 rfl, if_pos rfl]; omega), sumN_const]
    subst hh
    subst he
    grind
  have hd2 : p ∣ sumN (fun x => 2 * (n : Int) * nth xs (x * n + x) - n * e * (if x = x then 1 else 0) - h) n - 2 * r * n * s := hd
  rw [htr] at hd2
  have hd3 : p ∣ (n : Int) * (r * ((n : Int) - 1 - 2 * s) - (2 * k + ((n : Int) - 1) * (l - m))) := by
    obtain ⟨q, hq⟩ := hd2
    exact ⟨q, by rw [← hq]; grind⟩
  exact (hp _ _ hd3).resolve_left hn

/-- Where the number under the root is no square: a root of it, modulo a prime. -/
def bigRoots : List (Int × Int) := [(5, 245746), (8, 444107), (12, 61765), (13, 268326), (17, 178331), (20, 399219), (21, 155617), (24, 411805), (28, 304105), (29, 196695), (32, 2497), (33, 410798), (37, 61945), (40, 409297), (44, 48308), (48, 123530), (53, 236172), (57, 26910), (68, 356662), (72, 441610), (85, 258015), (89, 92012), (104, 97675), (148, 123890)]
def bigRoot (d : Int) : Int := bigRoots.foldr (fun e o => if e.1 = d then e.2 else o) 0
/-- What is asked of four numbers that count well. -/
def parOk (v k l m : Int) : Bool :=
  let d := (l - m) * (l - m) + 4 * (k - m)
  let top := 2 * k + (v - 1) * (l - m)
  let r := bigRoot d
  (List.range 26).any (fun q => decide (1 ≤ q) && decide ((q : Int) * q = d)) ||
    (decide (1 ≤ r) && decide (r < 890711) && decide ((r * r - d) % 890711 = 0) && decide (top * top < 400000) && decide (0 ≤ d) && decide (d * 676 < 480000) &&
      (List.range 26).all (fun q => decide (top * top = d * ((q : Int) * q) → top = 0 ∧ v % 2 = 1)))
def parCase (v k l m : Nat) : Bool := !(decide ((k : Int) * ((k : Int) - l - 1) = ((v : Int) - k - 1) * m)) || (decide (k + 1 = v) && decide (m ≠ 0)) || parOk v k l m
def parAll : Bool := (List.range 25).all fun v => (List.range v).all fun k => (List.range k).all fun l => (List.range (k + 1)).all fun m => parCase v k l m
theorem par_true : parAll = true := by decide +kernel
theorem par_all (v : Nat) (hv : v < 25) (k : Nat) (hk : k < v) (l : Nat) (hl : l < k) (m : Nat) (hm : m < k + 1) (h : (k : Int) * ((k : Int) - l - 1) = ((v : Int) - k - 1) * m) (hf : k + 1 = v → m = 0) : parOk v k l m = true := by
  have h0 := par_true
  unfold parAll at h0
  have h1 := List.all_eq_true.1 (List.all_eq_true.1 (List.all_eq_true.1 (List.all_eq_true.1 h0 v (List.mem_range.2 hv)) k (List.mem_range.2 hk)) l (List.mem_range.2 hl)) m (List.mem_range.2 hm)
  unfold parCase at h1
  rw [decide_eq_true h] at h1
  have h2 : (decide (k + 1 = v) && decide (m ≠ 0)) = false := by
    by_cases e : k + 1 = v
    · rw [hf e]; simp
    · rw [decide_eq_false e]; rfl
  rw [h2] at h1
  simpa using h1
theorem mod_step (p r d t y top q : Int) (h1 : r * r = d + p * t) (h2 : r * y = top + p * q) : top * top - d * (y * y) = p * (t * (y * y) - q * (r * y + top)) := by grind

theorem abs_lt_of {a b c : Int} (ha : 0 ≤ a) (hb : 0 ≤ b) (h1 : a < c) (h2 : b < c) : (a - b).natAbs < c.natAbs := by omega

theorem StrongAre.fits {xs : List Int} {n : Nat} {k l m : Int} (H : StrongAre xs n k l m) (hk : 1 ≤ k) (hkn : k + 1 ≤ n) (hl0 : 0 ≤ l) (hlk : l < k) (hm0 : 0 ≤ m) (hmk : m ≤ k) (hfull : k + 1 = n → m = 0) :
    (2 * k + ((n : Int) - 1) * (l - m) = 0 ∧ (n : Int) % 2 = 1) ∨ ∃ r y : Int, 1 ≤ r ∧ r * r = (l - m) * (l - m) + 4 * (k - m) ∧ y * r = 2 * k + ((n : Int) - 1) * (l - m) ∧ (y - ((n : Int) - 1)) % 2 = 0 ∧ -((n : Int) - 1) ≤ y ∧ y ≤ (n : Int) - 1 := by
  have h24 := H.tab.big
  have hcount := H.count
  obtain ⟨K, rfl⟩ : ∃ K : Nat, k = K := ⟨k.toNat, by omega⟩
  obtain ⟨L, rfl⟩ : ∃ L : Nat, l = L := ⟨l.toNat, by omega⟩
  obtain ⟨M, rfl⟩ : ∃ M : Nat, m = M := ⟨m.toNat, by omega⟩
  have hpar := par_all n (by omega) K (by omega) L (by omega) M (by omega) hcount (fun h => by have := hfull (by omega); omega)
  obtain ⟨d, hd⟩ : ∃ d, ((L : Int) - M) * ((L : Int) - M) + 4 * ((K : Int) - M) = d := ⟨_, rfl⟩
  obtain ⟨top, ht⟩ : ∃ top, 2 * (K : Int) + ((n : Int) - 1) * ((L : Int) - M) = top := ⟨_, rfl⟩
  have hroot := H.root
  unfold parOk at hpar
  simp only at hpar
  rw [hd, ht] at hpar
  rw [hd, ht] at hroot
  rw [hd, ht]
  rw [Bool.or_eq_true] at hpar
  rcases hpar with hq | hq
  · right
    obtain ⟨q, _, hq2⟩ := List.any_eq_true.1 hq
    rw [Bool.and_eq_true, decide_eq_true_iff, decide_eq_true_iff] at hq2
    obtain ⟨q1, q2⟩ := hq2
    have hnz : ∀ a : Int, a ≠ 0 → ¬ (0 : Int) ∣ a := fun a h h2 => h (Int.zero_dvd.1 h2)
    have hqn : (q : Int) * n ≠ 0 := Int.mul_ne_zero (by omega) (by omega)
    obtain ⟨s, hs, hs2⟩ := hroot 0 zero_splits q 0 (by omega) (hnz _ (by rw [Int.mul_assoc]; omega)) (hnz _ (by omega))
    obtain ⟨s', hs', hs2'⟩ := hroot 0 zero_splits (-q) 0 (by rw [Int.neg_mul_neg]; omega) (hnz _ (by rw [Int.mul_assoc, Int.neg_mul]; omega)) (hnz _ (by omega))
    have e1 := Int.zero_dvd.1 hs2
    have e2 := Int.zero_dvd.1 hs2'
    have e3 : (q : Int) * (((n : Int) - 1 - 2 * s) + ((n : Int) - 1 - 2 * s')) = 0 := by
      rw [Int.neg_mul] at e2
      rw [Int.mul_add]
      omega
    have e4 : ((n : Int) - 1 - 2 * s) + ((n : Int) - 1 - 2 * s') = 0 := (Int.mul_eq_zero.1 e3).resolve_left (by omega)
    exact ⟨q, (n : Int) - 1 - 2 * s, by omega, q2, by rw [Int.mul_comm]; omega, by omega, by omega, by omega⟩
  · left
    simp only [Bool.and_eq_true, decide_eq_true_iff] at hq
    obtain ⟨⟨⟨⟨⟨⟨r1, r2⟩, r3⟩, t1⟩, d0⟩, d1⟩, hall⟩ := hq
    obtain ⟨r, hr⟩ : ∃ r, bigRoot d = r := ⟨_, rfl⟩
    rw [hr] at r1 r2 r3
    clear hr
    have HALL := Lib.hid hall
    clear hall
    have hnd : ∀ a : Int, 1 ≤ a → a < 890711 → ¬ (890711 : Int) ∣ a := fun a h1 h2 ⟨q, hq⟩ => by omega
    obtain ⟨t, htt⟩ := Int.dvd_of_emod_eq_zero r3
    have hcc : ¬ (890711 : Int) ∣ 2 * r * n := fun h => by
      rcases big_splits _ _ h with h | h
      · rcases big_splits _ _ h with h | h
        · exact hnd 2 (by decide) (by decide) h
        · exact hnd r r1 r2 h
      · exact hnd n (by omega) (by omega) h
    obtain ⟨s, hs, q, hq⟩ := hroot 890711 big_splits r t (by omega) hcc (hnd n (by omega) (by omega))
    obtain ⟨y, hy⟩ : ∃ y, (n : Int) - 1 - 2 * s = y := ⟨_, rfl⟩
    rw [hy] at hq
    have hy25 : y.natAbs < 26 := by omega
    have hyy : y * y = (y.natAbs : Int) * y.natAbs := by rw [← Int.natCast_mul, Int.natAbs_mul_self]
    have hya : ((y.natAbs : Int) * y.natAbs) ≤ 625 := by
      have := Nat.mul_le_mul (show y.natAbs ≤ 25 by omega) (show y.natAbs ≤ 25 by omega)
      rw [← Int.natCast_mul]; omega
    have hya0 : 0 ≤ ((y.natAbs : Int) * y.natAbs) := by rw [← Int.natCast_mul]; omega
    have hdy : d * ((y.natAbs : Int) * y.natAbs) ≤ d * 625 := Int.mul_le_mul_of_nonneg_left hya d0
    have hdy0 : 0 ≤ d * ((y.natAbs : Int) * y.natAbs) := Int.mul_nonneg d0 hya0
    have hdv : (890711 : Int) ∣ top * top - d * ((y.natAbs : Int) * y.natAbs) := by
      rw [← hyy]
      exact ⟨t * (y * y) - q * (r * y + top), mod_step 890711 r d t y top q (by omega) (by omega)⟩
    have htop0 : 0 ≤ top * top := by rw [← Int.natAbs_mul_self]; omega
    have heq : top * top - d * ((y.natAbs : Int) * y.natAbs) = 0 := by
      obtain ⟨z, hz⟩ := hdv
      omega
    have := List.all_eq_true.1 HALL.out y.natAbs (List.mem_range.2 hy25)
    rw [decide_eq_true_iff] at this
    exact this (by omega)

end Go.Proofs.Ytllfccfpoigigaa
