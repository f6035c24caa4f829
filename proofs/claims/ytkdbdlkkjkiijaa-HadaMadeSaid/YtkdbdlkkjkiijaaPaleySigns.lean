/- What parterreref3.PaleySigns answers: as hada.Paley. -/
import Derived.Test.YtkdbdlkkjkiijaaPaley
import Derived.Test.YtkdbdlkkjkiijaaIsPrime
namespace Go.Proofs.Ytkdbdlkkjkiijaa
open Go.RowKit

theorem Filling.grown2 {w0 w w2 : World} {b n m : Nat} {g : Nat → Int} {ao ao' : Option Addr} {cap cap' : Nat} {y : Int} (h : Filling w0 w b n m g ao cap)
    (hg : w.grownBy w2 (Value.slice ao m cap).ownBlock) (hr : RowOf 3 w2 (b + 1) ao' (m + 1) cap' (ints (tab g m) ++ [.int .i64 y])) (hb : ∀ B0 w0, Below B0 w0 w → B0 ≤ b + 1 → Below B0 w0 w2) (hy : g m = y) :
    BoxAt w2 b (.int .i64 n) (.slice ao m cap) ∧ Filling w0 (w2.setCell ⟨b, 1, none⟩ (.slice ao' (m + 1) cap')) b n (m + 1) g ao' cap' := by
  have hne : some b ≠ (Value.slice ao m cap).ownBlock := fun e => by have := (h.row.block b e.symm).1; omega
  have h2 : BoxAt w2 b (.int .i64 n) (.slice ao m cap) := h.box.carry (hg.block b h.box.lt hne)
  refine ⟨h2, h2.put1 _, ?_, (hb _ _ h.bel (by omega)).setCell (Nat.le_refl _) _⟩
  rw [← tab_snoc g m y hy]
  exact hr.beside _ (by simp) _

/-- Does a difference come as a square of one of the first numbers? -/
def palYes (p i j k : Nat) : Bool := (List.range k).any fun y => y != 0 && ((y * y + i + p - j) % p == 0)
/-- The reference's cells. -/
def palRef (p i j : Nat) : Int := if i = 0 ∨ i = j then 1 else if 0 < j ∧ palYes p i j p = true then 1 else -1
theorem palRef_eq : ∀ p, p = 3 ∨ p = 7 ∨ p = 11 ∨ p = 19 ∨ p = 23 → ∀ i, i < p + 1 → ∀ j, j < p + 1 → palRef p i j = palCell p i j := by
  rintro p (rfl | rfl | rfl | rfl | rfl) <;> decide +kernel
theorem palYes_succ (p i j k : Nat) : palYes p i j (k + 1) = (palYes p i j k || (k != 0 && ((k * k + i + p - j) % p == 0))) := by
  unfold palYes; rw [List.range_succ, List.any_append]; simp

set_option maxHeartbeats 400000 in
theorem paleySigns_range (p : Int) (w : World) (hp : p < 1 ∨ 23 < p) :
    Calls Try.prog 22 #[.int .i64 p] w fun e w' => e = .returned (.tuple #[.agg #[.int .i64 0, .slice none 0 0], .int .i64 1]) ∧ Ext w w' := by
  rcases hp with hp | hp
  · have b1 : decide (p < 1) = true := decide_eq_true hp
    go_enter Try.func22, Try.ntmps22
    go_wp2
    exact bodyPost_ret (v := .tuple #[.agg #[.int .i64 0, .slice none 0 0], .int .i64 1]) (by simp [results, Try.results22, go_sem]) rfl ⟨rfl, (Ext.refl _).alloc _⟩
  · have b1 : decide (p < 1) = false := decide_eq_false (by omega)
    have b2 : decide (23 < p) = true := decide_eq_true hp
    go_enter Try.func22, Try.ntmps22
    go_wp2
    exact bodyPost_ret (v := .tuple #[.agg #[.int .i64 0, .slice none 0 0], .int .i64 1]) (by simp [results, Try.results22, go_sem]) rfl ⟨rfl, (Ext.refl _).alloc _⟩

theorem prime_three : ∀ p, 2 ≤ p → p ≤ 23 → (primeB p = false ∨ p % 4 ≠ 3) ∨ (primeB p = true ∧ p % 4 = 3 ∧ (p = 3 ∨ p = 7 ∨ p = 11 ∨ p = 19 ∨ p = 23)) := by
  intro p h1 h2
  have : ∀ q, q < 24 → 2 ≤ q → (primeB q = false ∨ q % 4 ≠ 3) ∨ (primeB q = true ∧ q % 4 = 3 ∧ (q = 3 ∨ q = 7 ∨ q = 11 ∨ q = 19 ∨ q = 23)) := by decide +kernel
  exact this p (by omega) h1
theorem prime_five : ∀ p, p = 3 ∨ p = 7 ∨ p = 11 ∨ p = 19 ∨ p = 23 → primeB p = true ∧ p % 4 = 3 := by
  rintro p (rfl | rfl | rfl | rfl | rfl) <;> decide +kernel

set_option maxHeartbeats 400000 in
theorem paleySigns_none (p : Nat) (w : World) (hp : 1 ≤ p) (hp2 : p ≤ 23) (hn : ¬ (p = 3 ∨ p = 7 ∨ p = 11 ∨ p = 19 ∨ p = 23)) :
    Calls Try.prog 22 #[.int .i64 p] w fun e w' => e = .returned (.tuple #[.agg #[.int .i64 0, .slice none 0 0], .int .i64 4]) ∧ Ext w w' := by
  have b1 : decide ((p : Int) < 1) = false := decide_eq_false (by omega)
  have b2 : decide (23 < (p : Int)) = false := decide_eq_false (by omega)
  have hm' : (p : Int) % 4 = (p % 4 : Nat) := by simp
  have HC : Hid (∀ w1 : World, ∃ v, (v = false ∨ ((p : Int) % 4 != 3) = true) ∧ Calls Try.prog 34 #[.int .i64 p] w1 fun e w' => e = .returned (.bool v) ∧ w1 = w') := by
    intro w1
    by_cases h : p = 1
    · exact ⟨false, .inl rfl, isPrime_big p w1 (by omega)⟩
    · refine ⟨primeB p, ?_, isPrime_any p w1 (by omega) (by omega)⟩
      rcases prime_three p (by omega) hp2 with (h1 | h1) | h1
      · exact .inl h1
      · right; rw [hm', bne_iff_ne]; omega
      · exact absurd h1.2.2 hn
  obtain ⟨v, hv, hc⟩ := HC.out (w.alloc (.cells #[.int .i64 0, .slice none 0 0] 24))
  have HCC := Lib.hid hc
  clear hc HC hn hm'
  cases v
  · clear hv
    go_enter Try.func22, Try.ntmps22
    go_wp2_with (go_at_call 34; refine Calls.mono HCC.out ?_; rintro e w' ⟨rfl, rfl⟩)
    exact bodyPost_ret (v := .tuple #[.agg #[.int .i64 0, .slice none 0 0], .int .i64 4]) (by simp [results, Try.results22, go_sem]) rfl ⟨rfl, (Ext.refl _).alloc _⟩
  · have b3 : ((p : Int) % 4 != 3) = true := by rcases hv with h | h; cases h; exact h
    clear hv
    go_enter Try.func22, Try.ntmps22
    go_wp2_with (go_at_call 34; refine Calls.mono HCC.out ?_; rintro e w' ⟨rfl, rfl⟩)
    exact bodyPost_ret (v := .tuple #[.agg #[.int .i64 0, .slice none 0 0], .int .i64 4]) (by simp [results, Try.results22, go_sem]) rfl ⟨rfl, (Ext.refl _).alloc _⟩

theorem tmod_zero (D : Int) (p m : Nat) (h : D + p = m) : (D.tmod p == 0) = (m % p == 0) := by
  rw [Bool.eq_iff_iff, beq_iff_eq, beq_iff_eq, ← Int.dvd_iff_tmod_eq_zero, ← Nat.dvd_iff_mod_eq_zero]
  constructor
  · intro ⟨c, hc⟩
    have : ((p : Nat) : Int) ∣ ((m : Nat) : Int) := ⟨c + 1, by rw [← h, hc, Int.mul_add, Int.mul_one]⟩
    exact Int.natCast_dvd_natCast.1 this
  · intro hd
    obtain ⟨c, hc⟩ := Int.natCast_dvd_natCast.2 hd
    exact ⟨c - 1, by rw [Int.mul_sub, Int.mul_one, ← hc, ← h]; omega⟩
theorem sgB_step (a b : Bool) : (if b = true then (1 : Int) else sgB a) = sgB (a || b) := by cases a <;> cases b <;> rfl

set_option maxHeartbeats 2000000 in
theorem paleySigns_ok (p : Nat) (w : World) (hp : p = 3 ∨ p = 7 ∨ p = 11 ∨ p = 19 ∨ p = 23) :
    Calls Try.prog 22 #[.int .i64 p] w fun e w' =>
      ∃ ao cap, e = .returned (.tuple #[.agg #[.int .i64 ((p : Int) + 1), .slice ao ((p + 1) * (p + 1)) cap], .int .i64 0]) ∧ RowOf 3 w' w.heap.size ao ((p + 1) * (p + 1)) cap (ints (tab (flat (p + 1) (palCell p)) ((p + 1) * (p + 1)))) ∧ Ext w w' := by
  have hp1 : 3 ≤ p := by omega
  have hp2 : p ≤ 23 := by omega
  have b1 : decide ((p : Int) < 1) = false := decide_eq_false (by omega)
  have b2 : decide (23 < (p : Int)) = false := decide_eq_false (by omega)
  have h5 := prime_five p hp
  have b3 : ((p : Int) % 4 != 3) = false := by rw [bne_eq_false_iff_eq]; omega
  have hc := isPrime_any p (w.alloc (.cells #[.int .i64 0, .slice none 0 0] 24)) (by omega) (by omega)
  rw [h5.1] at hc
  have HCC := Lib.hid hc
  have HREF := Lib.hid (palRef_eq p hp)
  obtain ⟨n, hn⟩ : ∃ n : Nat, n = p + 1 := ⟨_, rfl⟩
  have hn' : (p : Int) + 1 = n := by omega
  have HN := Lib.hid hn
  have hn1 : n ≤ p + 1 := by omega
  have hn2 : p + 1 ≤ n := by omega
  have HF : Hid (Filling (w.alloc (.cells #[.int .i64 0, .slice none 0 0] 24)) ((w.alloc (.cells #[.int .i64 0, .slice none 0 0] 24)).alloc (.cells #[.int .i64 n, .slice none 0 0] 24)) (w.heap.size + 1) n 0 (flat n (palCell p)) none 0) :=
    ⟨by have := BoxAt.new (w.alloc (.cells #[.int .i64 0, .slice none 0 0] 24)) (.int .i64 n) (.slice none 0 0) 24; rwa [show (w.alloc (.cells #[.int .i64 0, .slice none 0 0] 24)).heap.size = w.heap.size + 1 by simp] at this, RowOf.nil _ _ _, (Below.refl _ _).alloc (by simp) _⟩
  have XR : Hid (Blk (w.alloc (.cells #[.int .i64 0, .slice none 0 0] 24)) w.heap.size #[.int .i64 0, .slice none 0 0] 24) := Blk.new _ _ _
  clear hp hc h5 hn
  go_enter Try.func22, Try.ntmps22
  go_wp2_with (go_at_call 34; refine Calls.mono HCC.out ?_; rintro e w' ⟨rfl, rfl⟩)
  obtain ⟨r, hr⟩ : ∃ r, r = w.heap.size := ⟨_, rfl⟩
  have E0 : Hid (Ext w (w.alloc (.cells #[.int .i64 0, .slice none 0 0] 24))) := (Ext.refl _).alloc _
  have EZ : Hid ((w.alloc (.cells #[.int .i64 0, .slice none 0 0] 24)).heap.size = r + 1) := by show _ = _; rw [hr]; simp
  obtain ⟨w1, hw1⟩ : ∃ w1, w1 = (w.alloc (.cells #[.int .i64 0, .slice none 0 0] 24)).alloc (.cells #[.int .i64 n, .slice none 0 0] 24) := ⟨_, rfl⟩
  obtain ⟨w0, hw0⟩ : ∃ w0, w0 = w.alloc (.cells #[.int .i64 0, .slice none 0 0] 24) := ⟨_, rfl⟩
  rw [← hw1, ← hw0, ← hr] at HF
  rw [← hw0, ← hr] at XR
  rw [← hw0] at EZ E0
  rw [← hw1, ← hr]
  have HR := Lib.hid hr
  clear hw1 hw0 hr HCC
  go_loopw [6, 7, 8, 9] (fun a _ _ _ wr => ∃ (i m : Nat) (ao : Option Addr) (cap : Nat), i ≤ n ∧ a = .int .i64 i ∧ Hid (m = i * n) ∧ Filling w0 wr (r + 1) n m (flat n (palCell p)) ao cap) (fun i _ _ _ _ => n - (intOf i).toNat)
  case atStart => exact ⟨0, 0, none, 0, by omega, rfl, (Nat.zero_mul n).symm, HF.out⟩
  case round =>
    obtain ⟨i, m, ao, cap, hi, rfl, HM, hf⟩ := hrel
    have HF1 := Lib.hid hf
    clear hf
    by_cases hin : i ≤ p
    · go_wp2
      go_loopw [7, 8, 9] (fun b _ _ wr => ∃ (j m' : Nat) (ao : Option Addr) (cap : Nat), j ≤ n ∧ b = .int .i64 j ∧ Hid (m' = i * n + j) ∧ Filling w0 wr (r + 1) n m' (flat n (palCell p)) ao cap) (fun j _ _ _ => n - (intOf j).toNat)
      case atStart => exact ⟨0, m, ao, cap, by omega, rfl, HM, HF1.out⟩
      case round =>
        obtain ⟨j, m', ao2, cap2, hj, rfl, HM2, hf2⟩ := hrel
        have H2 := Lib.hid hf2
        clear hf2
        by_cases hjn : j ≤ p
        · have hm : m' ≤ 576 := by
            have h1 : i * n + j < n * n := place_lt (by omega) (by omega)
            have h2 : n * n ≤ 576 := sq_bound (by omega)
            have := HM2.out; omega
          have HY0 : Hid (flat n (palCell p) m' = palRef p i j) := by
            show _ = _; rw [HM2.out, flat_at _ (by omega), HREF.out i (by omega) j (by omega)]
          by_cases hA : i = 0 ∨ i = j
          · have HY : Hid (flat n (palCell p) m' = 1) := by show _ = _; rw [HY0.out]; unfold palRef; rw [if_pos hA]
            clear HY0
            by_cases h0 : i = 0
            · have c1 : ((i : Int) == 0) = true := by rw [h0]; rfl
              clear hA h0
              have k0 := H2.out.box.c0
              have k1 := H2.out.box.c1
              have hbs := H2.out.size
              go_wp2_with (at_builtin; refine wpList_appInt eInt rfl (.tmp 65) (.tmp 67) rfl (r + 1 + 1) (by rfl) H2.out.row (by rfl) (by omega) hbs ?_; intro ao4 cap4 w4 hr4 hg4 hb4; have HG := Lib.hid (H2.out.grown2 hg4 hr4 hb4 HY.out); have k2 := HG.out.1.c1; have k3 := HG.out.1.f1; clear hr4 hg4 hb4)
              go_roundw
              case rel => exact ⟨j + 1, m' + 1, ao4, cap4, by omega, by go_num, (by show m' + 1 = i * n + (j + 1); rw [HM2.out]; omega), HG.out.2⟩
              case measure => simp [intOf]; omega
            · have c1 : ((i : Int) == 0) = false := by rw [beq_eq_false_iff_ne]; omega
              have c2 : ((i : Int) == (j : Int)) = true := by rw [beq_iff_eq]; omega
              clear hA h0
              have k0 := H2.out.box.c0
              have k1 := H2.out.box.c1
              have hbs := H2.out.size
              go_wp2_with (at_builtin; refine wpList_appInt eInt rfl (.tmp 65) (.tmp 67) rfl (r + 1 + 1) (by rfl) H2.out.row (by rfl) (by omega) hbs ?_; intro ao4 cap4 w4 hr4 hg4 hb4; have HG := Lib.hid (H2.out.grown2 hg4 hr4 hb4 HY.out); have k2 := HG.out.1.c1; have k3 := HG.out.1.f1; clear hr4 hg4 hb4)
              go_roundw
              case rel => exact ⟨j + 1, m' + 1, ao4, cap4, by omega, by go_num, (by show m' + 1 = i * n + (j + 1); rw [HM2.out]; omega), HG.out.2⟩
              case measure => simp [intOf]; omega
          · have c1 : ((i : Int) == 0) = false := by rw [beq_eq_false_iff_ne]; omega
            have c2 : ((i : Int) == (j : Int)) = false := by rw [beq_eq_false_iff_ne]; omega
            by_cases hj0 : j = 0
            · have HY : Hid (flat n (palCell p) m' = -1) := by show _ = _; rw [HY0.out]; unfold palRef; rw [if_neg hA, if_neg (by omega)]
              have c3 : decide (0 < (j : Int)) = false := decide_eq_false (by omega)
              have c4 : decide (0 < j) = false := decide_eq_false (by omega)
              have c5 : j ≤ 0 := by omega
              clear HY0 hA hj0
              have k0 := H2.out.box.c0
              have k1 := H2.out.box.c1
              have hbs := H2.out.size
              go_wp2_with (at_builtin; refine wpList_appInt eInt rfl (.tmp 65) (.tmp 67) rfl (r + 1 + 1) (by rfl) H2.out.row (by rfl) (by omega) hbs ?_; intro ao4 cap4 w4 hr4 hg4 hb4; have HG := Lib.hid (H2.out.grown2 hg4 hr4 hb4 HY.out); have k2 := HG.out.1.c1; have k3 := HG.out.1.f1; clear hr4 hg4 hb4)
              go_roundw
              case rel => exact ⟨j + 1, m' + 1, ao4, cap4, by omega, by go_num, (by show m' + 1 = i * n + (j + 1); rw [HM2.out]; omega), HG.out.2⟩
              case measure => simp [intOf]; omega
            · have HY : Hid (flat n (palCell p) m' = sgB (palYes p i j p)) := by
                show _ = _; rw [HY0.out]; unfold palRef sgB; rw [if_neg hA]
                by_cases h : palYes p i j p = true
                · rw [if_pos ⟨by omega, h⟩, if_pos h]
                · rw [if_neg (fun e => h e.2), if_neg h]
              have c3 : decide (0 < (j : Int)) = true := decide_eq_true (by omega)
              have c4 : decide (0 < j) = true := decide_eq_true (by omega)
              have c5 : 1 ≤ j := by omega
              clear HY0 hA hj0
              go_wp2
              go_loop [8, 9] (fun x y => ∃ k : Nat, k + 1 ≤ p ∧ y = .int .i64 ((k : Int) + 1) ∧ x = .int .i64 (sgB (palYes p i j (k + 1)))) (fun _ y => p - (intOf y).toNat)
              case atStart => exact ⟨0, by omega, rfl, rfl⟩
              case round =>
                obtain ⟨k, hk, rfl, rfl⟩ := hrel
                by_cases hlt : k + 1 < p
                · obtain ⟨s, hs⟩ : ∃ s : Nat, s = (k + 1) * (k + 1) := ⟨_, rfl⟩
                  have hs' : ((k : Int) + 1) * ((k : Int) + 1) = s := by rw [hs]; simp
                  have hsb : s ≤ 529 := by rw [hs]; exact Nat.mul_le_mul (show k + 1 ≤ 23 by omega) (show k + 1 ≤ 23 by omega)
                  have hz := tmod_zero ((s : Int) - j + i) p (s + i + p - j) (by omega)
                  have HX : Hid (palYes p i j (k + 1 + 1) = (palYes p i j (k + 1) || ((s + i + p - j) % p == 0))) := by
                    show _ = _; rw [palYes_succ, hs]; simp
                  obtain ⟨v, hv⟩ : ∃ v, ((s + i + p - j) % p == 0) = v := ⟨_, rfl⟩
                  rw [hv] at hz HX
                  have HSG := Lib.hid (sgB_step (palYes p i j (k + 1)) v)
                  clear hs hv
                  cases v
                  all_goals
                    go_wp2
                    go_round
                    case rel => exact ⟨k + 1, by omega, by go_num, by rw [HX.out, ← HSG.out]; rfl⟩
                    case measure => simp [intOf]; omega
                · have hkp : k + 1 = p := by omega
                  have HY2 : Hid (flat n (palCell p) m' = sgB (palYes p i j (k + 1))) := by show _ = _; rw [HY.out, hkp]
                  have HY := HY2
                  obtain ⟨x, hx⟩ : ∃ x, sgB (palYes p i j (k + 1)) = x := ⟨_, rfl⟩
                  rw [hx] at HY
                  rw [hx]
                  clear hkp HY2 hx
                  have k0 := H2.out.box.c0
                  have k1 := H2.out.box.c1
                  have hbs := H2.out.size
                  go_wp2_with (at_builtin; refine wpList_appInt eInt rfl (.tmp 65) (.tmp 67) rfl (r + 1 + 1) (by rfl) H2.out.row (by rfl) (by omega) hbs ?_; intro ao4 cap4 w4 hr4 hg4 hb4; have HG := Lib.hid (H2.out.grown2 hg4 hr4 hb4 HY.out); have k2 := HG.out.1.c1; have k3 := HG.out.1.f1; clear hr4 hg4 hb4)
                  go_roundw
                  case rel => exact ⟨j + 1, m' + 1, ao4, cap4, by omega, by go_num, (by show m' + 1 = i * n + (j + 1); rw [HM2.out]; omega), HG.out.2⟩
                  case measure => simp [intOf]; omega
        · obtain rfl : n = j := by omega
          go_wp2
          go_roundw
          case rel => exact ⟨i + 1, m', ao2, cap2, by omega, by go_num, (by show m' = (i + 1) * n; rw [HM2.out, Nat.succ_mul]), H2.out⟩
          case measure => simp [intOf]; omega
    · obtain rfl : n = i := by omega
      have k0 := HF1.out.box.c0
      have k1 := HF1.out.box.c1
      have XR1 := Lib.hid ((XR.out.ext (by show Ext w0 w0; exact Ext.refl _)))
      have hbk := HF1.out.bel.block r (by omega)
      have XR2 : Hid (Blk wr r #[.int .i64 0, .slice none 0 0] 24) := hbk.trans XR.out
      have k2 := XR2.out.two
      have k3 := XR2.out.f 0
      have k4 := XR2.out.f 1
      clear hbk
      go_wp2
      have HRB := Lib.hid ((XR2.out.set 0 (.int .i64 n)).set 1 (.slice ao m cap))
      have e0 := HRB.out.c 0 (.int .i64 n) rfl
      have e1 := HRB.out.c 1 (.slice ao m cap) rfl
      refine bodyPost_ret (v := .tuple #[.agg #[.int .i64 n, .slice ao m cap], .int .i64 0]) (by simp [results, Try.results22, go_sem, e0, e1]) rfl ⟨ao, cap, by rw [HM.out, ← HN.out, hn'], ?_, ?_⟩
      · rw [← HN.out, ← HM.out]
        rw [← show r = w.heap.size from HR.out]; exact ((HF1.out.row.beside ⟨r, 0, none⟩ (by simp; omega) _).beside ⟨r, 1, none⟩ (by simp; omega) _).mono (by omega)
      · have h1 : Ext w wr := (E0.out.trans ((HF1.out.bel).mono (by rw [EZ.out]; exact Nat.le_refl _)))
        exact (h1.set (by rw [HR.out]; exact Nat.le_refl _) _).set (by rw [HR.out]; exact Nat.le_refl _) _

end Go.Proofs.Ytkdbdlkkjkiijaa
