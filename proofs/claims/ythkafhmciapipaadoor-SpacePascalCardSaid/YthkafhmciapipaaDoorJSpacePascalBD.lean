/- spaceFact returns true. Condition: primes. -/
import Derived.Test.YthkafhmciapipaaDoorJSpacePascalBA
import Derived.Test.YthkafhmciapipaaDoorJSpacePascalBC
import Derived.Test.YthkafhmciapipaaDoorJSpacePascalAA
import Derived.ProofKit
import Derived.OpenShut
import Derived.ShutString
import Derived.ChangeOld
import Derived.Deep.Slices
namespace Go.Proofs.YthkafhmciapipaaDoor
open Go.RowKit

def factRows : List (List Int) := [[1, 2, 0], [2, 1, 1]]
theorem field31 : IsField 3 1 [0] := by
  have h : fieldFault (3 : Nat) (1 : Nat) [0] = 0 := by decide +kernel
  obtain ⟨P, K, h1, h2, h3, _⟩ := fieldFault_zero h
  obtain rfl : P = 3 := by omega
  obtain rfl : K = 1 := by omega
  exact h3
theorem room313 : IsRoom 3 1 [0] 3 := ⟨field31, by omega, by omega, by decide⟩
theorem factRows_ok : rowsFault (3 ^ 1) 3 factRows = 0 := by decide +kernel
theorem factRows_two : (basN 3 1 [0] 3 (fnsOf factRows)).length = 2 := by decide +kernel
theorem gauss35 : nth (gaRow 2 4) 2 = 35 := by decide +kernel

theorem inner_lit {w : World} {b : Nat} {cs : Array Value} {xs : List Int} (h : Blk w b cs 3) (hc : cs.toList = ints xs) (hm : xs.length ≤ maxLen) {n : Nat} (hn : n = xs.length) (c : Nat) : Inner w (.slice (some ⟨b, 0, none⟩) n c) xs := by
  subst hn
  refine ⟨_, c, rfl, .inr ⟨b, 0, rfl, h.lt, fun j u hu => ?_⟩, hm⟩
  rw [Nat.zero_add]
  refine h.c j u ?_
  rw [← hc] at hu
  simpa using hu

theorem fact_basis (ao bo : Option Addr) (cap mc : Nat) (w : World) (hP : Primes w) (hr : Reads w ao (ints [0])) (hx : ReadsL w bo factRows) :
    Calls Tryd.prog 12 #[.agg #[.int .i64 3, .int .i64 1, .slice ao 1 cap], .int .i64 3, .slice bo 2 mc] w fun e w' => ∃ ro rc, e = .returned (.tuple #[.slice ro 2 rc, .int .i64 0]) ∧ Ext w w' := by
  haveI : FldP 3 1 [0] := ⟨field31⟩
  have h := spBasis_ok (p := 3) (k := 1) (low := [0]) 3 ao bo cap mc factRows w hP room313 hr hx factRows_ok
  refine Calls.mono h ?_
  rintro e w' ⟨ro, rl, rc, out, rfl, h1, _, h3, h4⟩
  have h5 := basN_basis (vecs_zero (p := 3) (k := 1) (low := [0]) factRows_ok)
  have h6 := h3.unique h5 fun _ => Iff.rfl
  rw [vecs_toN factRows_ok] at h6
  have h7 : out.length = 2 := by rw [h6, rowsN_length, factRows_two]
  obtain rfl : rl = 2 := by omega
  exact ⟨ro, rc, rfl, h4⟩

theorem gauss_val (n k : Nat) (q : Int) (w : World) (hn : n ≤ 30) (hk : k ≤ n) (hq : 2 ≤ q) (hq' : q ≤ 64) (x : Int) (hx : nth (gaRow q n) k = x) (hx0 : x ≤ 1000000000000000000) :
    Calls Tryd.prog 9 #[.int .i64 n, .int .i64 k, .int .i64 q] w fun e w' => e = .returned (.tuple #[.int .i64 x, .int .i64 0]) ∧ Ext w w' := by
  refine (gauss_any n k q w hn hk hq hq' (gaP_ne' q hq hq')).mono ?_
  rintro e w' ⟨rfl, h⟩
  rw [hx]
  exact ⟨by unfold gaussVal; rw [if_neg (by omega)], h⟩
theorem gauss_422 (w : World) : Calls Tryd.prog 9 #[.int .i64 4, .int .i64 2, .int .i64 2] w fun e w' => e = .returned (.tuple #[.int .i64 35, .int .i64 0]) ∧ Ext w w' :=
  gauss_val 4 2 2 w (by omega) (by omega) (by omega) (by omega) 35 gauss35 (by omega)

set_option maxHeartbeats 2000000 in
theorem spaceFact_ok (w : World) (hP : Primes w) : Calls Tryd.prog 8 #[] w fun e w' => e = .returned (.bool true) ∧ Ext w w' := by
  have HG := Lib.hid (gauss_422 w)
  have HP := Lib.hid hP
  clear hP
  go_enter Tryd.func8, Tryd.ntmps8
  go_wp2_with fail
  refine Calls.mono HG.out ?_
  rintro e w1 ⟨rfl, hx1⟩
  have HL := Lib.hid (least31 w1 (HP.out.ext hx1))
  have E1 := Lib.hid hx1
  clear hx1
  go_wp2_with fail
  refine Calls.mono HL.out ?_
  rintro e w2 ⟨ao, cap, rfl, hr, hx⟩
  have HR2 := Lib.hid hr
  have E2 := Lib.hid (E1.out.trans hx)
  have F2 := Lib.hid (Blk.new w2 #[.int .i64 3, .int .i64 1, .slice ao 1 cap] 29)
  obtain ⟨w3, hw3⟩ : ∃ w3, w3 = w2.alloc (.cells #[.int .i64 3, .int .i64 1, .slice ao 1 cap] 29) := ⟨_, rfl⟩
  have E3 : Hid (Ext w2 w3) := by rw [hw3]; exact ext_box _ _ _
  rw [← hw3] at F2
  have k3 := F2.out.three
  have hs3 : w3.heap.size = w2.heap.size + 1 := by rw [hw3]; simp
  clear hr hx
  obtain ⟨w6, hw6⟩ : ∃ w6, w6 = ((w3.alloc (.cells #[.int .i64 1, .int .i64 2, .int .i64 0] 3)).alloc (.cells #[.int .i64 2, .int .i64 1, .int .i64 1] 3)).alloc (.cells #[.slice (some ⟨w3.heap.size, 0, none⟩) 3 3, .slice (some ⟨w3.heap.size + 1, 0, none⟩) 3 3] 27) := ⟨_, rfl⟩
  have E6 : Hid (Ext w3 w6) := by show Ext w3 w6; rw [hw6]; exact (((Ext.refl w3).alloc _).alloc _).alloc _
  have HRL : Hid (ReadsL w6 (some ⟨w3.heap.size + 1 + 1, 0, none⟩) factRows) := by
    have b0 : Blk w6 w3.heap.size #[.int .i64 1, .int .i64 2, .int .i64 0] 3 := by rw [hw6]; exact ((Blk.new w3 _ _).alloc _).alloc _
    have b1 : Blk w6 (w3.heap.size + 1) #[.int .i64 2, .int .i64 1, .int .i64 1] 3 := by rw [hw6]; exact (Blk.new' _ _ _ (by simp)).alloc _
    have b2 : Blk w6 (w3.heap.size + 1 + 1) #[.slice (some ⟨w3.heap.size, 0, none⟩) 3 3, .slice (some ⟨w3.heap.size + 1, 0, none⟩) 3 3] 27 := by rw [hw6]; exact Blk.new' _ _ _ (by simp)
    refine ⟨[.slice (some ⟨w3.heap.size, 0, none⟩) 3 3, .slice (some ⟨w3.heap.size + 1, 0, none⟩) 3 3], .inr ⟨_, 0, rfl, b2.lt, fun j u hu => ?_⟩, rfl, fun j v hv => ?_⟩
    · rw [Nat.zero_add]
      exact b2.c j u (by simpa using hu)
    · match j, hv with
      | 0, hv => obtain rfl : .slice (some ⟨w3.heap.size, 0, none⟩) 3 3 = v := by simpa using hv
                 exact inner_lit (xs := [1, 2, 0]) b0 rfl (by decide) rfl 3
      | 1, hv => obtain rfl : .slice (some ⟨w3.heap.size + 1, 0, none⟩) 3 3 = v := by simpa using hv
                 exact inner_lit (xs := [2, 1, 1]) b1 rfl (by decide) rfl 3
      | j + 2, hv => simp at hv
  have HB := Lib.hid (fact_basis ao (some ⟨w3.heap.size + 1 + 1, 0, none⟩) cap 2 w6 (HP.out.ext (E2.out.trans (E3.out.trans E6.out))) ((E3.out.trans E6.out).reads HR2.out) HRL.out)
  go_wp2_with fail
  rw [← hw3, ← hs3, ← hw6]
  clear hw3 hw6
  refine Calls.mono HB.out ?_
  rintro e w7 ⟨ro, rc, rfl, hx7⟩
  have HE := Lib.hid ((E2.out.trans (E3.out.trans E6.out)).trans hx7)
  clear hx7
  go_wp2
  go_ret
  exact ⟨by simp, HE.out⟩

end Go.Proofs.YthkafhmciapipaaDoor

/- What SpacePascal returns. Condition: primes. -/
namespace Go.Proofs.YthkafhmciapipaaDoor
open Go.RowKit
set_option linter.unusedVariables false

set_option maxHeartbeats 400000 in
theorem gauss_bad (n k q : Int) (w : World) (h : n < 0 ∨ 30 < n ∨ k < 0 ∨ n < k ∨ q < 2 ∨ 64 < q) :
    Calls Tryd.prog 9 #[.int .i64 n, .int .i64 k, .int .i64 q] w fun e w' => e = .returned (.tuple #[.int .i64 0, .int .i64 1]) ∧ w = w' := by
  by_cases h1 : n < 0
  · go_enter Tryd.func9, Tryd.ntmps9
    go_wp2
    go_ret2
    exact ⟨rfl, rfl⟩
  by_cases h2 : 30 < n
  · go_enter Tryd.func9, Tryd.ntmps9
    go_wp2
    go_ret2
    exact ⟨rfl, rfl⟩
  by_cases h3 : k < 0
  · go_enter Tryd.func9, Tryd.ntmps9
    go_wp2
    go_ret2
    exact ⟨rfl, rfl⟩
  by_cases h4 : n < k
  · go_enter Tryd.func9, Tryd.ntmps9
    go_wp2
    go_ret2
    exact ⟨rfl, rfl⟩
  by_cases h5 : q < 2
  · go_enter Tryd.func9, Tryd.ntmps9
    go_wp2
    go_ret2
    exact ⟨rfl, rfl⟩
  · have h6 : 64 < q := by omega
    go_enter Tryd.func9, Tryd.ntmps9
    go_wp2
    go_ret2
    exact ⟨rfl, rfl⟩

theorem gauss_big (n k : Nat) (q : Int) (w : World) (hn : n ≤ 30) (hk : k ≤ n) (hq : 2 ≤ q) (hq' : q ≤ 64) (hx0 : 1000000000000000000 < nth (gaRow q n) k) :
    Calls Tryd.prog 9 #[.int .i64 n, .int .i64 k, .int .i64 q] w fun e w' => e = .returned (.tuple #[.int .i64 0, .int .i64 3]) ∧ Ext w w' := by
  refine (gauss_any n k q w hn hk hq hq' (gaP_ne' q hq hq')).mono ?_
  rintro e w' ⟨rfl, h⟩
  exact ⟨by unfold gaussVal; rw [if_pos hx0], h⟩

set_option maxHeartbeats 1000000 in
theorem pascal_no (n k q c : Int) (w : World) (hP : Primes w) (hc : c ≠ 0) (hg : ∀ w, Calls Tryd.prog 9 #[.int .i64 n, .int .i64 k, .int .i64 q] w fun e w' => e = .returned (.tuple #[.int .i64 0, .int .i64 c]) ∧ Ext w w') :
    Calls Tryd.prog 3 #[.int .i64 n, .int .i64 k, .int .i64 q] w fun e w' => e = .returned (.bool true) ∧ Ext w w' := by
  have HF := Lib.hid (spaceFact_ok w hP)
  have HG := Lib.hid hg
  have b1 : (c != 0) = true := by rw [bne_iff_ne]; exact hc
  clear hP hg hc
  go_enter Tryd.func3, Tryd.ntmps3
  go_wp2_with fail
  refine Calls.mono HF.out ?_
  rintro e w1 ⟨rfl, hx1⟩
  have E1 := Lib.hid hx1
  clear hx1
  go_wp2_with fail
  refine Calls.mono (HG.out w1) ?_
  rintro e w2 ⟨rfl, hx2⟩
  have E2 := Lib.hid (E1.out.trans hx2)
  clear hx2
  go_wp2
  go_ret
  exact ⟨rfl, E2.out⟩

set_option maxHeartbeats 1000000 in
theorem pascal_rim0 (n : Nat) (q : Int) (w : World) (hP : Primes w) (hn : n ≤ 30) (hg : ∀ w, Calls Tryd.prog 9 #[.int .i64 n, .int .i64 0, .int .i64 q] w fun e w' => e = .returned (.tuple #[.int .i64 1, .int .i64 0]) ∧ Ext w w')
    (hm : ∀ w, Calls Tryd.prog 9 #[.int .i64 n, .int .i64 n, .int .i64 q] w fun e w' => e = .returned (.tuple #[.int .i64 1, .int .i64 0]) ∧ Ext w w') :
    Calls Tryd.prog 3 #[.int .i64 n, .int .i64 0, .int .i64 q] w fun e w' => e = .returned (.bool true) ∧ Ext w w' := by
  have HF := Lib.hid (spaceFact_ok w hP)
  have HG := Lib.hid hg
  have HM := Lib.hid hm
  clear hP hg hm
  go_enter Tryd.func3, Tryd.ntmps3
  go_wp2_with fail
  refine Calls.mono HF.out ?_
  rintro e w1 ⟨rfl, hx1⟩
  have E1 := Lib.hid hx1
  clear hx1
  go_wp2_with fail
  refine Calls.mono (HG.out w1) ?_
  rintro e w2 ⟨rfl, hx2⟩
  have E2 := Lib.hid (E1.out.trans hx2)
  clear hx2
  go_wp2_with fail
  refine Calls.mono (HM.out w2) ?_
  rintro e w3 ⟨rfl, hx3⟩
  have E3 := Lib.hid (E2.out.trans hx3)
  clear hx3
  go_wp2
  go_ret
  exact ⟨rfl, E3.out⟩

set_option maxHeartbeats 1000000 in
theorem pascal_rimn (n : Nat) (q : Int) (w : World) (hP : Primes w) (hn : n ≤ 30) (h0 : n ≠ 0) (hg : ∀ w, Calls Tryd.prog 9 #[.int .i64 n, .int .i64 n, .int .i64 q] w fun e w' => e = .returned (.tuple #[.int .i64 1, .int .i64 0]) ∧ Ext w w')
    (hm : ∀ w, Calls Tryd.prog 9 #[.int .i64 n, .int .i64 0, .int .i64 q] w fun e w' => e = .returned (.tuple #[.int .i64 1, .int .i64 0]) ∧ Ext w w') :
    Calls Tryd.prog 3 #[.int .i64 n, .int .i64 n, .int .i64 q] w fun e w' => e = .returned (.bool true) ∧ Ext w w' := by
  have HF := Lib.hid (spaceFact_ok w hP)
  have HG := Lib.hid hg
  have HM := Lib.hid hm
  clear hP hg hm
  have b1 : ((n : Int) == 0) = false := by rw [beq_eq_false_iff_ne]; omega
  go_enter Tryd.func3, Tryd.ntmps3
  go_wp2_with fail
  refine Calls.mono HF.out ?_
  rintro e w1 ⟨rfl, hx1⟩
  have E1 := Lib.hid hx1
  clear hx1
  go_wp2_with fail
  refine Calls.mono (HG.out w1) ?_
  rintro e w2 ⟨rfl, hx2⟩
  have E2 := Lib.hid (E1.out.trans hx2)
  clear hx2
  go_wp2_with fail
  refine Calls.mono (HM.out w2) ?_
  rintro e w3 ⟨rfl, hx3⟩
  have E3 := Lib.hid (E2.out.trans hx3)
  clear hx3
  go_wp2
  go_ret
  exact ⟨rfl, E3.out⟩

/-- a times q, i times. -/
def mulUp (q a : Int) : Nat → Int
  | 0 => a
  | i + 1 => mulUp q a i * q
theorem mulUp_pow (q a : Int) : ∀ i, mulUp q a i = a * q ^ i
  | 0 => by rw [mulUp, Int.pow_zero, Int.mul_one]
  | i + 1 => by rw [mulUp, mulUp_pow q a i, Int.pow_succ, Int.mul_assoc]
theorem mulUp_mono {q a : Int} (hq : 2 ≤ q) (ha : 0 ≤ a) : ∀ i, 0 ≤ mulUp q a i ∧ mulUp q a i ≤ mulUp q a (i + 1)
  | 0 => by
    rw [mulUp, mulUp, mulUp]
    refine ⟨ha, ?_⟩
    have := Int.mul_le_mul_of_nonneg_left (show (1 : Int) ≤ q by omega) ha
    omega
  | i + 1 => by
    have h := mulUp_mono hq ha i
    have h0 : 0 ≤ mulUp q a (i + 1) := by omega
    refine ⟨h0, ?_⟩
    have := Int.mul_le_mul_of_nonneg_left (show (1 : Int) ≤ q by omega) h0
    show mulUp q a (i + 1) ≤ mulUp q a (i + 1) * q
    omega
theorem mulUp_le {q a : Int} (hq : 2 ≤ q) (ha : 0 ≤ a) (i : Nat) : ∀ j, i ≤ j → mulUp q a i ≤ mulUp q a j
  | 0, h => by obtain rfl : i = 0 := by omega
               exact Int.le_refl _
  | j + 1, h => by
    by_cases e : i = j + 1
    · subst e; exact Int.le_refl _
    · exact Int.le_trans (mulUp_le hq ha i j (by omega)) (mulUp_mono hq ha j).2

set_option maxHeartbeats 2000000 in
theorem pascal_in (n k : Nat) (q g a b : Int) (w : World) (hP : Primes w) (hn : n ≤ 30) (hk0 : k ≠ 0) (hkn : k < n) (hq : 2 ≤ q) (hq' : q ≤ 64) (ha : 0 ≤ a) (hb : 0 ≤ b) (hg0 : g ≤ 1000000000000000000) (he : g = a * q ^ k + b)
    (hg : ∀ w, Calls Tryd.prog 9 #[.int .i64 n, .int .i64 k, .int .i64 q] w fun e w' => e = .returned (.tuple #[.int .i64 g, .int .i64 0]) ∧ Ext w w')
    (hm : ∀ w, Calls Tryd.prog 9 #[.int .i64 n, .int .i64 (n - k : Nat), .int .i64 q] w fun e w' => e = .returned (.tuple #[.int .i64 g, .int .i64 0]) ∧ Ext w w')
    (hga : ∀ w, Calls Tryd.prog 9 #[.int .i64 (n - 1 : Nat), .int .i64 k, .int .i64 q] w fun e w' => e = .returned (.tuple #[.int .i64 a, .int .i64 0]) ∧ Ext w w')
    (hgb : ∀ w, Calls Tryd.prog 9 #[.int .i64 (n - 1 : Nat), .int .i64 (k - 1 : Nat), .int .i64 q] w fun e w' => e = .returned (.tuple #[.int .i64 b, .int .i64 0]) ∧ Ext w w') :
    Calls Tryd.prog 3 #[.int .i64 n, .int .i64 k, .int .i64 q] w fun e w' => e = .returned (.bool true) ∧ Ext w w' := by
  have HF := Lib.hid (spaceFact_ok w hP)
  have HG := Lib.hid hg
  rw [show ((n - k : Nat) : Int) = n - k by omega] at hm
  rw [show ((n - 1 : Nat) : Int) = n - 1 by omega] at hga hgb
  rw [show ((k - 1 : Nat) : Int) = k - 1 by omega] at hgb
  have HM := Lib.hid hm
  have HGA := Lib.hid hga
  have HGB := Lib.hid hgb
  rw [← mulUp_pow] at he
  have HU : Hid (∀ i, i ≤ k → 0 ≤ mulUp q a i ∧ mulUp q a i ≤ 1000000000000000000) := fun i hi => by
    have h1 := (mulUp_mono hq ha i).1
    have h2 := mulUp_le hq ha i k hi
    omega
  have HUS : Hid (∀ i, mulUp q a (i + 1) = mulUp q a i * q) := fun i => by show _ = _; rfl
  have HE := Lib.hid he
  have hu0 := Lib.hid (show mulUp q a 0 = a from rfl)
  have b1 : ((k : Int) == 0) = false := by rw [beq_eq_false_iff_ne]; omega
  have b2 : ((k : Int) == n) = false := by rw [beq_eq_false_iff_ne]; omega
  clear hP hg hm hga hgb he
  go_enter Tryd.func3, Tryd.ntmps3
  go_wp2_with fail
  refine Calls.mono HF.out ?_
  rintro e w1 ⟨rfl, hx1⟩
  have E1 := Lib.hid hx1
  clear hx1
  go_wp2_with fail
  refine Calls.mono (HG.out w1) ?_
  rintro e w2 ⟨rfl, hx2⟩
  have E2 := Lib.hid (E1.out.trans hx2)
  clear hx2
  go_wp2_with fail
  refine Calls.mono (HM.out w2) ?_
  rintro e w3 ⟨rfl, hx3⟩
  have E3 := Lib.hid (E2.out.trans hx3)
  clear hx3
  go_wp2_with fail
  refine Calls.mono (HGA.out w3) ?_
  rintro e w4 ⟨rfl, hx4⟩
  have E4 := Lib.hid (E3.out.trans hx4)
  clear hx4
  go_wp2_with fail
  refine Calls.mono (HGB.out w4) ?_
  rintro e w5 ⟨rfl, hx5⟩
  have E5 := Lib.hid (E4.out.trans hx5)
  clear hx5
  go_wp2
  go_loopg [11, 14] k (fun g x y wr => ∃ i : Nat, i + g = k ∧ y = .int .i64 i ∧ x = .int .i64 (mulUp q a i) ∧ w5 = wr)
  case atStart => exact ⟨0, by omega, rfl, by rw [hu0.out], rfl⟩
  case round =>
    obtain ⟨i, hik, rfl, rfl, rfl⟩ := hrel
    cases gk with
    | zero =>
      have hiz : ¬ ((i : Int) < (k : Int)) := by omega
      obtain rfl : i = k := by omega
      have hub := HU.out i (Nat.le_refl _)
      have HE2 := HE.out
      obtain ⟨u, hu⟩ : ∃ u, mulUp q a i = u := ⟨_, rfl⟩
      rw [hu] at HE2 hub ⊢
      have h9 : u + b = g := HE2.symm
      have h10 : 0 ≤ g := by omega
      clear hu hu0 HE2
      go_wp2
      go_ret
      exact ⟨by simp, E5.out⟩
    | succ g1 =>
      have hil : (i : Int) < (k : Int) := by omega
      have hub := HU.out i (by omega)
      have hub2 := HU.out (i + 1) (by omega)
      have hst := HUS.out i
      obtain ⟨u, hu⟩ : ∃ u, mulUp q a i = u := ⟨_, rfl⟩
      obtain ⟨v, hv⟩ : ∃ v, mulUp q a (i + 1) = v := ⟨_, rfl⟩
      rw [hu, hv] at hst
      rw [hv] at hub2
      rw [hu] at hub ⊢
      have HV := Lib.hid hv
      have h8 : u * q = v := hst.symm
      clear hu hu0 hv hst
      go_wp2
      go_roundg g1
      case measure => omega
      case rel => exact ⟨i + 1, by omega, by go_num, by rw [HV.out], rfl⟩

/-- SpacePascal at any input. -/
theorem spacePascal_any (n : Int) (_ : -9223372036854775808 ≤ n ∧ n ≤ 9223372036854775807) (k : Int) (_ : -9223372036854775808 ≤ k ∧ k ≤ 9223372036854775807) (q : Int) (_ : -9223372036854775808 ≤ q ∧ q ≤ 9223372036854775807) {w : World} (hP : Primes w) :
    Calls Tryd.prog 3 #[.int .i64 n, .int .i64 k, .int .i64 q] w fun e w' => e = .returned (.bool true) ∧ Below w.heap.size w w' := by
  by_cases hb : n < 0 ∨ 30 < n ∨ k < 0 ∨ n < k ∨ q < 2 ∨ 64 < q
  · exact pascal_no n k q 1 w hP (by omega) fun w => (gauss_bad n k q w hb).mono fun e w' h => ⟨h.1, by rw [h.2]; exact Ext.refl _⟩
  · obtain ⟨n, rfl⟩ : ∃ m : Nat, n = m := ⟨n.toNat, by omega⟩
    obtain ⟨k, rfl⟩ : ∃ m : Nat, k = m := ⟨k.toNat, by omega⟩
    have hn : n ≤ 30 := by omega
    have hk : k ≤ n := by omega
    have hq : 2 ≤ q := by omega
    have hq' : q ≤ 64 := by omega
    by_cases hg : nth (gaRow q n) k ≤ 1000000000000000000
    · obtain ⟨h1, h2, h3⟩ := pascal_law n k q hn hk hq hq' hg
      by_cases hr : k = 0 ∨ k = n
      · have h4 := h2 hr
        rw [h4] at h1
        by_cases h0 : k = 0
        · subst h0
          exact pascal_rim0 n q w hP hn (fun w => gauss_val n 0 q w hn hk hq hq' 1 h4 (by omega)) (fun w => gauss_val n n q w hn (by omega) hq hq' 1 h1 (by omega))
        · obtain rfl : k = n := by omega
          rw [Nat.sub_self] at h1
          exact pascal_rimn k q w hP hn h0 (fun w => gauss_val k k q w hn hk hq hq' 1 h4 (by omega)) (fun w => gauss_val k 0 q w hn (by omega) hq hq' 1 h1 (by omega))
      · obtain ⟨h4, h5, h6, h7, h8⟩ := h3 (by omega) (by omega)
        exact pascal_in n k q _ _ _ w hP hn (by omega) (by omega) hq hq' h5 h7 hg h4 (fun w => gauss_val n k q w hn hk hq hq' _ rfl hg) (fun w => gauss_val n (n - k) q w hn (by omega) hq hq' _ h1 hg)
          (fun w => gauss_val (n - 1) k q w (by omega) (by omega) hq hq' _ rfl h6) (fun w => gauss_val (n - 1) (k - 1) q w (by omega) (by omega) hq hq' _ rfl h8)
    · exact pascal_no n k q 3 w hP (by omega) fun w => gauss_big n k q w hn hk hq hq' (by omega)

end Go.Proofs.YthkafhmciapipaaDoor

/- What is known of a list of ints that comes in as an argument. No conditions. -/
namespace Go.Proofs.YthkafhmciapipaaDoor
open Go.ChangeShapes Go.WideShapes Go.ChangeAt Go.RowKit

/-- A list of ints that came in. -/
structure IntsArg (w : World) (ao : Option Addr) (n cap : Nat) (xs : List Int) : Prop where
  len : xs.length = n
  big : n ≤ maxLen
  reads : Reads w ao (ints xs)
  rng : ∀ x ∈ xs, -9223372036854775808 ≤ x ∧ x ≤ 9223372036854775807

theorem spot_of_cell {w : World} {a : Addr} {v : Value} (h : w.cell? a = some v) : a = ⟨a.block, a.off, none⟩ := by
  obtain ⟨b, o, s⟩ := a
  unfold World.cell? at h
  cases s with
  | none => rfl
  | some k => simp at h; split at h <;> simp at h

theorem reads_of_add {w : World} {a : Addr} {xs : List Value} (h : ∀ i u, xs[i]? = some u → w.cell? (a.add i) = some u) : Reads w (some a) xs := by
  cases xs with
  | nil => exact .inl rfl
  | cons x xs =>
    have h0 := h 0 x rfl
    rw [show a.add 0 = a by simp [Addr.add]] at h0
    have ha := spot_of_cell h0
    have hb := World.block_lt_of_cell? w a h0
    refine .inr ⟨a.block, a.off, by rw [← ha], hb, fun j u hu => ?_⟩
    have := h j u hu
    rw [show a.add j = ⟨a.block, a.off + j, none⟩ by unfold Addr.add; split <;> rename_i hj; (rw [hj]; exact ha); rfl] at this
    exact this

theorem rng_of_wf {x : Int} (h : (Lit.int .i64 x).wf = true) : -9223372036854775808 ≤ x ∧ x ≤ 9223372036854775807 := by
  simpa [Lit.wf, IntKind.min, IntKind.max, IntKind.signed, IntKind.bits] using h

theorem intsArg_of_trod {H : Type} {enc : TypeId × Value → H} {W : World} {fuel : Nat} {v : Value} {x : DataW H × List MemPlace}
    (h : DataW.trod enc Tryd.prog W 0 (fun _ => true) true fuel 27 [v] = some x) : ∃ ao n cap xs, v = .slice ao n cap ∧ IntsArg W ao n cap xs := by
  rcases open_ints Tryd.underlying27 Tryd.underlying3 (by kernel_rfl) h with ⟨hcs, _⟩ | ⟨a, l, c, zs, hcs, _, hl, hm, hz, _, hcell, hwz⟩
  · obtain rfl : v = .slice none 0 0 := by simpa using hcs
    exact ⟨none, 0, 0, [], rfl, rfl, by decide, .inl rfl, by simp⟩
  · obtain rfl : v = .slice (some a) l c := by simpa using hcs
    have hz' : zs.length = c := by simpa using hz
    refine ⟨some a, l, c, zs.take l, rfl, by simp; omega, by omega, reads_of_add fun i u hu => ?_, fun n hn => rng_of_wf (hwz n (List.mem_of_mem_take hn))⟩
    have hi : i < l := by have := (List.getElem?_eq_some_iff.1 hu).1; simp [ints] at this; omega
    rw [hcell i (by omega)]
    rw [← hu]
    simp [ints, hi, List.getElem?_eq_getElem (show i < zs.length by omega)]

theorem open_intsArg {H : Type} {enc : TypeId × Value → H} {W : World} {base : Nat} {v : Value} {d : DataW H} {p : List MemPlace}
    (hv : Value.okWide Tryd.prog W .any base 27 v) (h : DataW.Trod enc Tryd.prog W 0 (fun _ => true) true 27 v d p) :
    ∃ ao n cap xs, v = .slice ao n cap ∧ IntsArg W ao n cap xs := by
  obtain ⟨a0, len0, cap0, rfl⟩ := okWide_slice Tryd.underlying27 hv
  obtain ⟨fuel, hf⟩ := h
  exact intsArg_of_trod (by simpa [Value.cells] using hf)

end Go.Proofs.YthkafhmciapipaaDoor
