/- What design.sets answers at a good design. -/
import Derived.Test.YtkgdohoandfaeaaDgCheck
namespace Go.Proofs.Ytkgdohoandfaeaa
open Go.RowKit
set_option linter.unusedVariables false

/-- Rows of sets of points. -/
def us (ms : List Nat) : List Value := ms.map fun (m : Nat) => Value.int .u64 (m : Int)
theorem us_length (ms : List Nat) : (us ms).length = ms.length := by simp [us]
theorem us_append (xs ys : List Nat) : us (xs ++ ys) = us xs ++ us ys := by simp [us]
theorem us_one (m : Nat) : us [m] = [.int .u64 (m : Int)] := rfl
theorem us_get (ms : List Nat) (j : Nat) (h : j < ms.length) : (us ms)[j]? = some (.int .u64 ((ms.getD j 0 : Nat) : Int)) := by simp [us, h]
theorem eSet : Elt 49 54 (.int .u64 0) 8 := ⟨Try.underlying49, by kernel_rfl, rfl, by decide⟩
/-- A list of sets that has been made since w0. -/
def OwnSets (w0 w : World) (v : Value) (ms : List Nat) : Prop := ∃ ao n cap, v = .slice ao n cap ∧ RowOf 54 w w0.heap.size ao n cap (us ms) ∧ Ext w0 w
theorem OwnSets.nil {w0 w : World} (h : Ext w0 w) : OwnSets w0 w (.slice none 0 0) [] := ⟨none, 0, 0, rfl, RowOf.nil _ _ _, h⟩
theorem OwnSets.back {w w1 w' : World} {v : Value} {xs : List Nat} (hx : Ext w w1) (h : OwnSets w1 w' v xs) : OwnSets w w' v xs := by
  obtain ⟨ao, n, cap, rfl, h1, h2⟩ := h
  exact ⟨ao, n, cap, rfl, h1.mono hx.size, hx.trans h2⟩
/-- The sets of the first blocks. -/
def masksTo (bs : List (List Int)) : Nat → List Nat
  | 0 => []
  | k + 1 => masksTo bs k ++ [maskN (row bs k)]
theorem masksTo_length (bs : List (List Int)) : ∀ k, (masksTo bs k).length = k
  | 0 => rfl
  | k + 1 => by rw [masksTo, List.length_append, masksTo_length bs k]; rfl
theorem masksTo_get (bs : List (List Int)) : ∀ k t, t < k → (masksTo bs k).getD t 0 = maskN (row bs t)
  | 0, t, h => by omega
  | k + 1, t, h => by
    rw [masksTo]
    by_cases e : t = k
    · subst e; simp [masksTo_length]
    · have ih := masksTo_get bs k t (by omega)
      rw [List.getD_eq_getElem?_getD, List.getElem?_append_left (by rw [masksTo_length]; omega), ← List.getD_eq_getElem?_getD, ih]
theorem maskTo_succ (b : List Int) (k : Nat) (h : k < b.length) : maskTo b (k + 1) = maskTo b k ||| 2 ^ (nth b k).toNat := by
  unfold maskTo
  rw [List.take_succ_eq_append_getElem h, maskN_snoc, nth_eq _ _ h]
theorem maskTo_all (b : List Int) : maskTo b b.length = maskN b := by unfold maskTo; rw [List.take_length]

theorem wrap_pow (n : Nat) (hn : n < 64) : IntKind.u64.wrap ((2 : Int) ^ n) = ((2 ^ n : Nat) : Int) := by
  have h : 2 ^ n < 2 ^ 64 := Nat.pow_lt_pow_right (by omega) hn
  rw [show (2 : Int) ^ n = ((2 ^ n : Nat) : Int) by push_cast; rfl]
  generalize 2 ^ n = q at h
  unfold IntKind.wrap
  simp [IntKind.bits, IntKind.signed]
  omega
theorem or_pow (m n : Nat) (hm : m < 1099511627776) (hn : n < 40) : bits BinOp.or IntKind.u64 (m : Int) (IntKind.u64.wrap ((2 : Int) ^ n)) = ((m ||| 2 ^ n : Nat) : Int) := by
  have h : 2 ^ n < 2 ^ 64 := Nat.pow_lt_pow_right (by omega) (show n < 64 by omega)
  rw [wrap_pow n (by omega), bits_or_u64_nat _ _ (by omega) h]

set_option maxHeartbeats 4000000 in
set_option maxRecDepth 100000 in
theorem sets_ok (P : Nat) (ao : Option Addr) (l cap : Nat) (bs : List (List Int)) (w : World) (hP40 : P ≤ 40) (hl : bs.length = l) (hl200 : l ≤ 200) (hr : ReadsL w ao bs) (hb : ∀ i, i < l → Block P (row bs i)) :
    Calls Try.prog 23 #[.agg #[.int .i64 P, .slice ao l cap]] w fun e w' => ∃ v, e = .returned v ∧ OwnSets w w' v (masksTo bs l) := by
  have E0 := Lib.hid (ext_box w #[.int .i64 P, .slice ao l cap] 33)
  have F0 := Lib.hid (Blk.new w #[.int .i64 P, .slice ao l cap] 33)
  have HR := Lib.hid hr
  have HB := Lib.hid hb
  have HL := Lib.hid hl
  clear hr hb hl
  go_enter Try.func23, Try.ntmps23
  go_wp2
  obtain ⟨w0, hw0⟩ : ∃ w0, w0 = w.alloc (.cells #[.int .i64 P, .slice ao l cap] 33) := ⟨_, rfl⟩
  rw [← hw0] at E0 F0 ⊢
  clear hw0
  have hbw : w.heap.size ≤ w0.heap.size := E0.out.size
  go_loopg [3, 12] l (fun r y a wr => ∃ i : Nat, i + r = l ∧ a = .int .i64 i ∧ OwnSets w0 wr y (masksTo bs i))
  case atStart => exact ⟨0, by omega, rfl, OwnSets.nil (Ext.refl _)⟩
  case round =>
    obtain ⟨i, hil, rfl, uo, un, uc, rfl, hrow, hx⟩ := hrel
    have HX := Lib.hid hx
    have HRW := Lib.hid hrow
    have hun : un = i := by have := hrow.length; rw [us_length, masksTo_length] at this; omega
    clear hx hrow
    subst hun
    cases gk with
    | zero =>
      obtain rfl : l = un := by omega
      go_wp2
      go_ret
      exact ⟨_, rfl, OwnSets.back E0.out ⟨uo, l, uc, rfl, HRW.out, HX.out⟩⟩
    | succ r1 =>
      have hin : (un : Int) < (l : Int) := by omega
      have hin' : un < l := by omega
      obtain ⟨b, off, rfl, hb, hc⟩ := HR.out.row (by rw [HL.out]; omega)
      obtain ⟨a, ac, h1, h2, h3⟩ := hc un (by rw [HL.out]; exact hin')
      have HMS : Hid (masksTo bs (un + 1) = masksTo bs un ++ [maskN (row bs un)]) := rfl
      obtain ⟨xs, hxs⟩ : ∃ xs, row bs un = xs := ⟨_, rfl⟩
      have hB := HB.out un hin'
      rw [hxs] at h1 h2 h3 hB HMS
      have EX := Lib.hid (E0.out.trans HX.out)
      have c1 := (EX.out.cell hb).trans h1
      have HRR := Lib.hid (EX.out.reads h2)
      have HRG : Hid (∀ x ∈ xs, 0 ≤ x ∧ x < (P : Int)) := hB.range
      unfold maxLen at h3
      have HMT : Hid (∀ k, k < xs.length → maskTo xs (k + 1) = maskTo xs k ||| 2 ^ (nth xs k).toNat) := fun k hk => maskTo_succ xs k hk
      have HMA : Hid (maskTo xs xs.length = maskN xs) := maskTo_all xs
      have HML : Hid (∀ k, maskTo xs k < 2 ^ P) := fun k => maskN_lt _ P fun x hx => by have := HRG.out x (List.mem_of_mem_take hx); omega
      have HP2 : Hid (2 ^ P ≤ 1099511627776) := Nat.pow_le_pow_right (n := 2) (by omega) hP40
      obtain ⟨len, hlen⟩ : ∃ len, xs.length = len := ⟨_, rfl⟩
      have HLN := Lib.hid hlen
      rw [hlen] at c1 h3 HMT HMA
      clear hc h1 h2 hxs hB hlen hb
      go_wp2
      go_loopg [6, 18] len (fun r y x wx => ∃ k : Nat, k + r = len ∧ x = .int .i64 k ∧ y = .int .u64 (maskTo xs k : Nat) ∧ wr = wx)
      case atStart => exact ⟨0, by omega, rfl, rfl, rfl⟩
      case round =>
        obtain ⟨k, hkl, rfl, rfl, rfl⟩ := hrel
        have hmb := HML.out k
        have hp2 := HP2.out
        cases gk with
        | zero =>
          obtain rfl : len = k := by omega
          rw [HMA.out] at hmb ⊢
          obtain ⟨m, hm⟩ : ∃ m, maskN xs = m := ⟨_, rfl⟩
          rw [hm] at hmb HMS ⊢
          clear hm
          have hsz := HX.out.size
          go_wp2_with (at_builtin; refine wpList_appInt eSet rfl (.tmp 27) (.tmp 29) rfl w0.heap.size (by rfl) HRW.out (by rfl) (by omega) (by omega) ?_; intro ao4 cap4 w4 hr4 hg4 hb4; have HR4 := Lib.hid hr4; have HB4 := Lib.hid (hb4 _ _ HX.out (Nat.le_refl _)); clear hr4 hg4 hb4)
          go_roundg r1
          case measure => omega
          case rel => exact ⟨un + 1, by omega, by go_num, ao4, un + 1, cap4, rfl, by rw [HMS.out, us_append, us_one]; exact HR4.out, HB4.out⟩
        | succ r2 =>
          have hkn : (k : Int) < (len : Int) := by omega
          obtain ⟨br, orr, rfl, hbr, hcr⟩ := HRR.out.int (by rw [HLN.out]; omega)
          have t0 := hcr k (by rw [HLN.out]; omega)
          have hx := HRG.out _ (nth_mem xs k (by rw [HLN.out]; omega))
          have HMK := Lib.hid (HMT.out k (by omega))
          obtain ⟨x, hxx⟩ : ∃ x, nth xs k = x := ⟨_, rfl⟩
          rw [hxx] at t0 hx HMK
          obtain ⟨n, rfl⟩ : ∃ n : Nat, x = n := ⟨x.toNat, by omega⟩
          rw [Int.toNat_natCast] at HMK
          obtain ⟨m, hm⟩ : ∃ m, maskTo xs k = m := ⟨_, rfl⟩
          rw [hm] at hmb HMK ⊢
          obtain ⟨hx1, hx2⟩ := hx
          clear hcr hbr hxx hm
          have HOR := Lib.hid (or_pow m n (by omega) (by omega))
          go_wp2
          go_roundg r2
          case measure => omega
          case rel => exact ⟨k + 1, by omega, by go_num, by rw [HOR.out, HMK.out], rfl⟩

end Go.Proofs.Ytkgdohoandfaeaa
