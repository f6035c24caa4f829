/- What latin.Check answers at any square. -/
import Derived.Test.YtnhdngnolepkcaaDoorJhpippbikkf
import Derived.Test.YtnhdngnolepkcaaDoorJmanplccnef
namespace Go.Proofs.YtnhdngnolepkcaaDoor
open Go.RowKit

/-- Two boxes: a square, and its side. -/
theorem ext_box2 (w : World) (c d : Array Value) (t u : TypeId) : Ext w ((w.alloc (.cells c t)).alloc (.cells d u)) := ((Ext.refl _).alloc _).alloc _

set_option maxHeartbeats 400000 in
theorem latinCheck_side (m : Int) (ao : Option Addr) (len cap : Nat) (w : World) (hm : m < 1 ∨ 8 < m) :
    Calls Tryd.prog 27 #[.agg #[.int .i64 m, .slice ao len cap]] w fun e w' => e = .returned (.int .i64 1) ∧ Ext w w' := by
  have HS := Lib.hid (fun w => side_any m w)
  rw [decide_eq_true hm] at HS
  clear hm
  go_enter Tryd.func27, Tryd.ntmps27
  go_wp2_with (go_at_call 47; refine Calls.mono (HS.out _) ?_; rintro e w1 ⟨rfl, rfl⟩)
  go_ret
  exact ⟨rfl, ext_box2 _ _ _ _ _⟩

set_option maxHeartbeats 400000 in
theorem latinCheck_shape (n : Nat) (ao : Option Addr) (len cap : Nat) (w : World) (h1 : 1 ≤ n) (h8 : n ≤ 8) (hl : len ≠ n * n) :
    Calls Tryd.prog 27 #[.agg #[.int .i64 n, .slice ao len cap]] w fun e w' => e = .returned (.int .i64 2) ∧ Ext w w' := by
  have HS := Lib.hid (fun w => side_any n w)
  rw [decide_eq_false (by omega)] at HS
  have hm1 : 0 ≤ (n : Int) * n := Int.mul_nonneg (by omega) (by omega)
  have hm2 : (n : Int) * n ≤ 8 * 8 := Int.mul_le_mul (by omega) (by omega) (by omega) (by omega)
  have b3 : ((len : Int) != (n : Int) * n) = true := by rw [bne_iff_ne, ← Int.natCast_mul]; omega
  clear hl
  go_enter Tryd.func27, Tryd.ntmps27
  go_wp2_with (go_at_call 47; refine Calls.mono (HS.out _) ?_; rintro e w1 ⟨rfl, rfl⟩)
  go_ret
  exact ⟨rfl, ext_box2 _ _ _ _ _⟩

set_option maxHeartbeats 1000000 in
theorem latinCheck_cells (n : Nat) (ao : Option Addr) (len cap : Nat) (xs : List Int) (w : World) (h1 : 1 ≤ n) (h8 : n ≤ 8) (hl : xs.length = len) (hln : len = n * n) (hr : Reads w ao (ints xs)) (hv : xs.any (badCell n) = true) :
    Calls Tryd.prog 27 #[.agg #[.int .i64 n, .slice ao len cap]] w fun e w' => e = .returned (.int .i64 1) ∧ Ext w w' := by
  have HS := Lib.hid (fun w => side_any n w)
  rw [decide_eq_false (by omega)] at HS
  have hm1 : 0 ≤ (n : Int) * n := Int.mul_nonneg (by omega) (by omega)
  have hm2 : (n : Int) * n ≤ 8 * 8 := Int.mul_le_mul (by omega) (by omega) (by omega) (by omega)
  have b3 : ((len : Int) != (n : Int) * n) = false := by rw [hln, Int.natCast_mul]; simp
  have h64 : len ≤ 64 := by rw [hln]; exact Nat.mul_le_mul h8 h8
  have HE : Hid (Ext w ((w.alloc (.cells #[.int .i64 n, .slice ao len cap] 54)).alloc (.cells #[.int .i64 n] 3))) := ext_box2 _ _ _ _ _
  have HC := Lib.hid (containsFunc_any 49 #[.pointer (some ⟨w.heap.size + 1, 0, none⟩)] ao len cap xs (badCell n) _ hl (by unfold maxLen; omega) (HE.out.reads hr) (cell_pred n xs (w.heap.size + 1) _ (Blk.new' _ _ _ (by simp))) (fun _ _ => rfl))
  rw [hv] at HC
  clear hl hln hr hv
  go_enter Tryd.func27, Tryd.ntmps27
  go_wp2_with (first
    | (go_at_call 47; refine Calls.mono (HS.out _) ?_; rintro e w1 ⟨rfl, rfl⟩)
    | (go_at_call 48; refine HC.out.mono ?_; rintro e w1 ⟨rfl, hd⟩; have HD := Lib.hid hd; clear hd))
  go_ret
  exact ⟨rfl, HE.out.drawn HD.out⟩

open Classical in
set_option maxHeartbeats 1000000 in
theorem latinCheck_twice (n : Nat) (ao : Option Addr) (len cap : Nat) (xs : List Int) (w : World) (h1 : 1 ≤ n) (h8 : n ≤ 8) (hl : xs.length = len) (hln : len = n * n) (hr : Reads w ao (ints xs)) (hv : xs.any (badCell n) = false) :
    Calls Tryd.prog 27 #[.agg #[.int .i64 n, .slice ao len cap]] w fun e w' => e = .returned (.int .i64 (if Once n xs len then 0 else 6)) ∧ Ext w w' := by
  have HS := Lib.hid (fun w => side_any n w)
  rw [decide_eq_false (by omega)] at HS
  have hm1 : 0 ≤ (n : Int) * n := Int.mul_nonneg (by omega) (by omega)
  have hm2 : (n : Int) * n ≤ 8 * 8 := Int.mul_le_mul (by omega) (by omega) (by omega) (by omega)
  have b3 : ((len : Int) != (n : Int) * n) = false := by rw [hln, Int.natCast_mul]; simp
  have h64 : len ≤ 64 := by rw [hln]; exact Nat.mul_le_mul h8 h8
  have HE : Hid (Ext w ((w.alloc (.cells #[.int .i64 n, .slice ao len cap] 54)).alloc (.cells #[.int .i64 n] 3))) := ext_box2 _ _ _ _ _
  have HB1 : Hid (Blk ((w.alloc (.cells #[.int .i64 n, .slice ao len cap] 54)).alloc (.cells #[.int .i64 n] 3)) w.heap.size #[.int .i64 n, .slice ao len cap] 54) := (Blk.new _ _ _).alloc _
  have HB2 : Hid (Blk ((w.alloc (.cells #[.int .i64 n, .slice ao len cap] 54)).alloc (.cells #[.int .i64 n] 3)) (w.heap.size + 1) #[.int .i64 n] 3) := Blk.new' _ _ _ (by simp)
  have HC := Lib.hid (containsFunc_any 49 #[.pointer (some ⟨w.heap.size + 1, 0, none⟩)] ao len cap xs (badCell n) _ hl (by unfold maxLen; omega) (HE.out.reads hr) (cell_pred n xs (w.heap.size + 1) _ (Blk.new' _ _ _ (by simp))) (fun _ _ => rfl))
  rw [hv] at HC
  have HT : Hid (∀ w', Ext w w' → _) := fun w' hx => twice_any n ao len cap xs w' h1 h8 hl hln (good_cells (by rw [hv]; simp)) (hx.reads hr)
  have HV : Hid ((if Once n xs len then (0 : Int) else 6) = if decide (¬ Once n xs len) then 6 else 0) := by
    show _ = _
    by_cases h : Once n xs len
    · rw [if_pos h, if_neg (by simp [h])]
    · rw [if_neg h, if_pos (by simp [h])]
  rw [HV.out]
  obtain ⟨v, hv2⟩ : ∃ v, decide (¬ Once n xs len) = v := ⟨_, rfl⟩
  rw [hv2] at HT ⊢
  clear hl hln hr hv hv2 HV
  cases v
  all_goals
    go_enter Tryd.func27, Tryd.ntmps27
    go_wp2_with (first
      | (go_at_call 47; refine Calls.mono (HS.out _) ?_; rintro e w1 ⟨rfl, rfl⟩)
      | (go_at_call 48; refine HC.out.mono ?_; rintro e w1 ⟨rfl, hd⟩; have k1 := (HB1.out.drawn hd).two; have k2 := (HB2.out.drawn hd).one; have HX := Lib.hid (HE.out.drawn hd); have HTT := Lib.hid (HT.out w1 HX.out); clear hd)
      | (go_at_call 50; refine HTT.out.mono ?_; rintro e w2 ⟨rfl, hx⟩; have HX2 := Lib.hid hx; clear hx))
    go_ret
    exact ⟨rfl, HX.out.trans HX2.out⟩

theorem latinCheck_any (m : Int) (ao : Option Addr) (len cap : Nat) (xs : List Int) (w : World) (hl : xs.length = len) (hr : Reads w ao (ints xs)) :
    Calls Tryd.prog 27 #[.agg #[.int .i64 m, .slice ao len cap]] w fun e w' => e = .returned (.int .i64 (latinFaultOf m xs)) ∧ Ext w w' := by
  unfold latinFaultOf
  by_cases hm : m < 1 ∨ 8 < m
  · rw [if_pos hm]; exact latinCheck_side m ao len cap w hm
  · rw [if_neg hm]
    obtain ⟨n, rfl⟩ : ∃ n : Nat, m = n := ⟨m.toNat, by omega⟩
    rw [Int.toNat_natCast]
    by_cases hs : xs.length ≠ n * n
    · rw [if_pos hs]; exact latinCheck_shape n ao len cap w (by omega) (by omega) (by rw [← hl]; exact hs)
    · rw [if_neg hs]
      have hs' : xs.length = n * n := Decidable.not_not.1 hs
      by_cases hv : xs.any (badCell n) = true
      · rw [if_pos hv]; exact latinCheck_cells n ao len cap xs w (by omega) (by omega) hl (by omega) hr hv
      · rw [if_neg hv]
        rw [show n * n = len by omega]
        exact latinCheck_twice n ao len cap xs w (by omega) (by omega) hl (by omega) hr (by simpa using hv)

end Go.Proofs.YtnhdngnolepkcaaDoor

/- Lists of squares that can be read; slices.ContainsFunc at such a list, where sides are asked. -/
namespace Go.Proofs.YtnhdngnolepkcaaDoor
open Go.RowKit

/-- The square of a number. -/
def sqAt (sqs : List (Int × List Int)) (j : Nat) : Int × List Int := sqs.getD j (0, [])
theorem sqAt_eq (sqs : List (Int × List Int)) (j : Nat) (h : j < sqs.length) : sqAt sqs j = sqs[j] := by simp [sqAt, List.getElem?_eq_getElem h]
/-- A slice of squares that reads as a list. -/
def ReadsSq (w : World) (ao : Option Addr) (sqs : List (Int × List Int)) : Prop :=
  sqs = [] ∨ ∃ b off, ao = some ⟨b, off, none⟩ ∧ b < w.heap.size ∧ ∀ j, j < sqs.length → ∃ a c, w.cell? ⟨b, off + j * 2, none⟩ = some (.int .i64 (sqAt sqs j).1) ∧ w.cell? ⟨b, off + j * 2 + 1, none⟩ = some (.slice a (sqAt sqs j).2.length c) ∧
    Reads w a (ints (sqAt sqs j).2) ∧ (sqAt sqs j).2.length ≤ maxLen
theorem ReadsSq.ext {w w' : World} {ao : Option Addr} {sqs : List (Int × List Int)} (h : ReadsSq w ao sqs) (hx : Ext w w') : ReadsSq w' ao sqs := by
  rcases h with h | ⟨b, off, h1, h2, h3⟩
  · exact .inl h
  · refine .inr ⟨b, off, h1, Nat.lt_of_lt_of_le h2 hx.size, fun j hj => ?_⟩
    obtain ⟨a, c, k1, k2, k3, k4⟩ := h3 j hj
    exact ⟨a, c, (hx.cell h2).trans k1, (hx.cell h2).trans k2, hx.reads k3, k4⟩

theorem side_ne {m : Int} {ao : Option Addr} {n cap r : Nat} {s : Int} {w : World} (hb : Blk w r #[.int .i64 s] 3) :
    Calls Tryd.prog 29 #[.agg #[.int .i64 m, .slice ao n cap], .pointer (some ⟨r, 0, none⟩)] w fun e w' => e = .returned (.bool (m != s)) ∧ Ext w w' := by
  have hlt := hb.lt
  have k1 : ∀ o, (w.alloc o).cell? ⟨r, 0, none⟩ = some (.int .i64 s) := fun o => (hb.alloc o).one
  clear hb
  go_enter Tryd.func29, Tryd.ntmps29
  go_wp2
  go_ret
  exact ⟨rfl, (Ext.refl w).alloc _⟩

/-- The first square of another side. -/
def sideIdx (s : Int) : List (Int × List Int) → Nat → Int
  | [], _ => -1
  | x :: xs, k => if x.1 != s then k else sideIdx s xs (k + 1)
theorem sideIdx_hit (s : Int) : ∀ (xs : List (Int × List Int)) (k j : Nat), j < xs.length → ((sqAt xs j).1 != s) = true → (∀ i, i < j → ((sqAt xs i).1 != s) = false) → sideIdx s xs k = k + j
  | [], _, _, h, _, _ => by simp at h
  | x :: xs, k, 0, _, h, _ => by have : (x.1 != s) = true := h; simp only [sideIdx, this, if_true]; simp
  | x :: xs, k, j + 1, h, hp, hn => by
    have h0 : (x.1 != s) = false := hn 0 (by omega)
    rw [sideIdx, h0, if_neg (by simp), sideIdx_hit s xs (k + 1) j (by simpa using h) hp (fun i hi => hn (i + 1) (by omega))]
    omega
theorem sideIdx_miss (s : Int) : ∀ (xs : List (Int × List Int)) (k : Nat), (∀ i, i < xs.length → ((sqAt xs i).1 != s) = false) → sideIdx s xs k = -1
  | [], _, _ => rfl
  | x :: xs, k, hn => by
    have h0 : (x.1 != s) = false := hn 0 (by simp)
    rw [sideIdx, h0, if_neg (by simp), sideIdx_miss s xs (k + 1) (fun i hi => hn (i + 1) (by simpa using hi))]
theorem sideIdx_any (s : Int) : ∀ (xs : List (Int × List Int)) (k : Nat), decide (0 ≤ sideIdx s xs k) = xs.any (fun x => x.1 != s)
  | [], _ => rfl
  | x :: xs, k => by
    rw [sideIdx, List.any_cons]
    by_cases h : (x.1 != s) = true
    · rw [h, if_pos rfl]; simp
    · rw [show (x.1 != s) = false by simpa using h, if_neg (by simp), sideIdx_any s xs (k + 1)]
      simp

set_option maxHeartbeats 1000000 in
theorem sideIdx_walk (s : Int) (r : Nat) (ao : Option Addr) (n cap : Nat) (sqs : List (Int × List Int)) (w : World) (hn : sqs.length = n) (hbig : n ≤ maxLen) (hr : ReadsSq w ao sqs) (hb : Blk w r #[.int .i64 s] 3) :
    Calls Tryd.prog 51 #[.slice ao n cap, .func (.func 29) #[] #[.pointer (some ⟨r, 0, none⟩)]] w fun e w' => e = .returned (.int .i64 (sideIdx s sqs 0)) ∧ Ext w w' := by
  unfold maxLen at hbig
  have HN := Lib.hid hn
  have HR := Lib.hid hr
  have HB := Lib.hid hb
  clear hn hr hb
  go_enter Tryd.func51, Tryd.ntmps51
  go_wp2
  go_loopw [8] (fun i wr => ∃ k : Nat, k ≤ n ∧ i = .int .i64 k ∧ Ext w wr ∧ ∀ i, i < k → ((sqAt sqs i).1 != s) = false) (fun i _ => n - (intOf i).toNat)
  case atStart => exact ⟨0, by omega, rfl, Ext.refl _, fun i hi => by omega⟩
  case round =>
    obtain ⟨k, hk, rfl, hd, hall⟩ := hrel
    have HA := Lib.hid hall
    have HD := Lib.hid hd
    clear hall hd
    by_cases hlt : k < n
    · rcases HR.out with h0 | ⟨b, off, rfl, hlb, hc⟩
      · have := HN.out; rw [h0] at this; simp at this; omega
      · obtain ⟨a, c, k1, k2, _, hl⟩ := hc k (by rw [HN.out]; exact hlt)
        rw [← HD.out.cell hlb] at k1 k2
        unfold maxLen at hl
        have hcall := Lib.hid (side_ne (m := (sqAt sqs k).1) (ao := a) (n := (sqAt sqs k).2.length) (cap := c) (HB.out.ext HD.out))
        obtain ⟨x, hx⟩ : ∃ x, ((sqAt sqs k).1 != s) = x := ⟨_, rfl⟩
        have HX := Lib.hid hx
        rw [hx] at hcall
        obtain ⟨q, hq⟩ : ∃ q, sqAt sqs k = q := ⟨_, rfl⟩
        rw [hq] at k1 k2 hcall hl
        obtain ⟨l, hql⟩ : ∃ l, q.2.length = l := ⟨_, rfl⟩
        obtain ⟨m, hqm⟩ : ∃ m, q.1 = m := ⟨_, rfl⟩
        rw [hqm] at k1 hcall
        rw [hql] at k2 hcall hl
        clear hc hx hq hql hqm
        cases x with
        | true =>
          go_wp2_with ((with_reducible refine Calls.mono hcall.out ?_); rintro e w' ⟨rfl, hdd⟩)
          go_ret
          exact ⟨by rw [sideIdx_hit s sqs 0 k (by rw [HN.out]; omega) HX.out HA.out]; simp, HD.out.trans hdd⟩
        | false =>
          go_wp2_with ((with_reducible refine Calls.mono hcall.out ?_); rintro e w' ⟨rfl, hdd⟩)
          go_roundw
          case rel => exact ⟨k + 1, by omega, by go_num, HD.out.trans hdd, fun i hi => by
            rcases Nat.lt_succ_iff_lt_or_eq.1 hi with h | rfl
            · exact HA.out i h
            · exact HX.out⟩
          case measure => simp [intOf]; omega
    · go_wp2
      go_ret
      exact ⟨by rw [sideIdx_miss s sqs 0 (fun i hi => HA.out i (by rw [HN.out] at hi; omega))]; simp, HD.out⟩

set_option maxHeartbeats 400000 in
theorem sideAny_walk (s : Int) (r : Nat) (ao : Option Addr) (n cap : Nat) (sqs : List (Int × List Int)) (w : World) (hn : sqs.length = n) (hbig : n ≤ maxLen) (hr : ReadsSq w ao sqs) (hb : Blk w r #[.int .i64 s] 3) :
    Calls Tryd.prog 28 #[.slice ao n cap, .func (.func 29) #[] #[.pointer (some ⟨r, 0, none⟩)]] w fun e w' => e = .returned (.bool (sqs.any fun x => x.1 != s)) ∧ Ext w w' := by
  have H := Lib.hid (sideIdx_walk s r ao n cap sqs w hn hbig hr hb)
  have HA := Lib.hid (sideIdx_any s sqs 0)
  clear hn hbig hr hb
  generalize sideIdx s sqs 0 = r at *
  go_enter Tryd.func28, Tryd.ntmps28
  go_wp2_with (go_at_call 51; refine H.out.mono ?_; rintro e w' ⟨rfl, hdd⟩)
  go_ret
  exact ⟨by rw [← HA.out]; rfl, hdd⟩

end Go.Proofs.YtnhdngnolepkcaaDoor

/- What array.Squares answers at any list of squares. -/
namespace Go.Proofs.YtnhdngnolepkcaaDoor
open Go.RowKit

/-- What is wrong with a square of a list. -/
noncomputable def sqFault (sqs : List (Int × List Int)) (j : Nat) : Int := latinFaultOf (sqAt sqs j).1 (sqAt sqs j).2
/-- What is wrong with a list of squares. -/
def SqIs (sqs : List (Int × List Int)) (c : Int) : Prop :=
  ((sqs.length = 0 ∨ 6 < sqs.length) ∧ c = 3) ∨
  (1 ≤ sqs.length ∧ sqs.length ≤ 6 ∧ ∃ j, j < sqs.length ∧ (∀ i, i < j → sqFault sqs i = 0) ∧ sqFault sqs j = c ∧ c ≠ 0) ∨
  (1 ≤ sqs.length ∧ sqs.length ≤ 6 ∧ (∀ i, i < sqs.length → sqFault sqs i = 0) ∧ (sqs.any fun x => x.1 != (sqAt sqs 0).1) = true ∧ c = 2) ∨
  (1 ≤ sqs.length ∧ sqs.length ≤ 6 ∧ (∀ i, i < sqs.length → sqFault sqs i = 0) ∧ (sqs.any fun x => x.1 != (sqAt sqs 0).1) = false ∧ c = 0)
theorem SqIs.one {sqs : List (Int × List Int)} {c d : Int} (h : SqIs sqs c) (k : SqIs sqs d) : c = d := by
  rcases h with ⟨h1, h2⟩ | ⟨h1, h2, j, h3, h4, h5, h6⟩ | ⟨h1, h2, h3, h4, h5⟩ | ⟨h1, h2, h3, h4, h5⟩ <;> rcases k with ⟨k1, k2⟩ | ⟨k1, k2, i, k3, k4, k5, k6⟩ | ⟨k1, k2, k3, k4, k5⟩ | ⟨k1, k2, k3, k4, k5⟩
  case inr.inl.inr.inl =>
    rcases Nat.lt_trichotomy i j with h | h | h
    · have := h4 i h; omega
    · subst h; omega
    · have := k4 j h; omega
  case inr.inl.inr.inr.inl => have := k3 j h3; omega
  case inr.inl.inr.inr.inr => have := k3 j h3; omega
  case inr.inr.inl.inr.inl => have := h3 i k3; omega
  case inr.inr.inr.inr.inl => have := h3 i k3; omega
  case inr.inr.inl.inr.inr.inr => rw [h4] at k4; simp at k4
  case inr.inr.inr.inr.inr.inl => rw [h4] at k4; simp at k4
  all_goals omega
/-- Squares that go together. -/
structure AreSq (n : Nat) (sqs : List (Int × List Int)) : Prop where
  one : 1 ≤ sqs.length
  six : sqs.length ≤ 6
  side : ∀ j, j < sqs.length → (sqAt sqs j).1 = n
  latin : ∀ j, j < sqs.length → IsLatin n (sqAt sqs j).2
theorem SqIs.zero {sqs : List (Int × List Int)} (h : SqIs sqs 0) : ∃ n, AreSq n sqs := by
  rcases h with ⟨_, h⟩ | ⟨_, _, j, _, _, _, h⟩ | ⟨_, _, _, _, h⟩ | ⟨h1, h2, h3, h4, _⟩
  · omega
  · exact absurd rfl h
  · omega
  · obtain ⟨n, e, hl⟩ := latinFaultOf_zero (h3 0 (by omega))
    have hs : ∀ j, j < sqs.length → (sqAt sqs j).1 = n := fun j hj => by
      have := List.any_eq_false.1 h4 sqs[j] (List.getElem_mem hj)
      rw [← sqAt_eq sqs j hj] at this
      rw [← e]
      simpa using this
    refine ⟨n, h1, h2, hs, fun j hj => ?_⟩
    obtain ⟨n', e', hl'⟩ := latinFaultOf_zero (h3 j hj)
    have : n' = n := by have := hs j hj; omega
    exact this ▸ hl'

/-- A run, as far as some squares. -/
def runUp (n : Nat) (sqs : List (Int × List Int)) (t j : Nat) : List Int := ((t / n : Nat) : Int) :: ((t % n : Nat) : Int) :: (sqs.take j).map fun s => nth s.2 t
theorem runUp_succ {n : Nat} {sqs : List (Int × List Int)} {t j : Nat} (hj : j < sqs.length) : runUp n sqs t (j + 1) = runUp n sqs t j ++ [nth (sqAt sqs j).2 t] := by
  unfold runUp
  rw [List.take_add_one, List.getElem?_eq_getElem hj, List.map_append, sqAt_eq _ _ hj]; rfl
theorem runUp_len (n : Nat) (sqs : List (Int × List Int)) (t j : Nat) (hj : j ≤ sqs.length) : (runUp n sqs t j).length = j + 2 := by
  simp [runUp]; omega
theorem runUp_all (n : Nat) (sqs : List (Int × List Int)) (t : Nat) : runUp n sqs t sqs.length = runAt n (sqs.map (·.2)) t := by
  unfold runUp runAt
  rw [List.take_length, List.map_map]; rfl
/-- The runs so far. -/
def runsUp (n : Nat) (sqs : List (Int × List Int)) (t : Nat) : List (List Int) := (List.range t).map fun i => runUp n sqs i sqs.length
theorem runsUp_succ (n : Nat) (sqs : List (Int × List Int)) (t : Nat) : runsUp n sqs (t + 1) = runsUp n sqs t ++ [runUp n sqs t sqs.length] := by
  unfold runsUp; rw [List.range_succ, List.map_append]; rfl
theorem runsUp_all (n : Nat) (sqs : List (Int × List Int)) : runsUp n sqs (n * n) = runsOf n (sqs.map (·.2)) := by
  unfold runsUp runsOf
  exact List.map_congr_left fun t _ => runUp_all n sqs t

/-- What is answered. -/
def SqPost (sqs : List (Int × List Int)) (w w' : World) (e : Ending) : Prop :=
  ∃ v c, e = .returned (.tuple #[v, .int .i64 c]) ∧ SqIs sqs c ∧ (c ≠ 0 → v = .slice none 0 0) ∧ (∀ n, c = 0 → AreSq n sqs → OwnTbl w w' v (runsOf n (sqs.map (·.2))))

set_option maxHeartbeats 1000000 in
theorem arraySquares_many (ao : Option Addr) (n cap : Nat) (sqs : List (Int × List Int)) (w : World) (hl : sqs.length = n) (hbig : n ≤ maxLen) (hn : n = 0 ∨ 6 < n) :
    Calls Tryd.prog 11 #[.slice ao n cap] w fun e w' => SqPost sqs w w' e ∧ Ext w w' := by
  unfold maxLen at hbig
  have HP : Hid (SqIs sqs 3) := .inl ⟨by omega, rfl⟩
  clear hl
  rcases hn with rfl | hn
  · go_enter Tryd.func11, Tryd.ntmps11
    go_wp2
    exact bodyPost_ret (v := .tuple #[.slice none 0 0, .int .i64 3]) (by simp [results, Tryd.results11, go_sem]) rfl ⟨⟨_, 3, rfl, HP.out, fun _ => rfl, fun _ h => by cases h⟩, Ext.refl _⟩
  · have b0 : ((n : Int) == 0) = false := by rw [beq_eq_false_iff_ne]; omega
    have b1 : decide (6 < (n : Int)) = true := decide_eq_true (by omega)
    go_enter Tryd.func11, Tryd.ntmps11
    go_wp2
    exact bodyPost_ret (v := .tuple #[.slice none 0 0, .int .i64 3]) (by simp [results, Tryd.results11, go_sem]) rfl ⟨⟨_, 3, rfl, HP.out, fun _ => rfl, fun _ h => by cases h⟩, Ext.refl _⟩

set_option maxHeartbeats 4000000 in
set_option maxRecDepth 100000 in
theorem arraySquares_some (ao : Option Addr) (n cap : Nat) (sqs : List (Int × List Int)) (w : World) (hl : sqs.length = n) (h1 : 1 ≤ n) (h6 : n ≤ 6) (hr : ReadsSq w ao sqs) :
    Calls Tryd.prog 11 #[.slice ao n cap] w fun e w' => SqPost sqs w w' e ∧ Ext w w' := by
  rcases hr with h0 | ⟨b, off, rfl, hb, hc⟩
  · rw [h0] at hl; simp at hl; omega
  have HL := Lib.hid hl
  have HC := Lib.hid hc
  have b0 : ((n : Int) == 0) = false := by rw [beq_eq_false_iff_ne]; omega
  have b1 : decide (6 < (n : Int)) = false := decide_eq_false (by omega)
  obtain ⟨z, hz⟩ : ∃ z, (sqAt sqs 0).1 = z := ⟨_, rfl⟩
  have HZ := Lib.hid hz
  clear hl hc hz
  go_enter Tryd.func11, Tryd.ntmps11
  go_wp2
  go_loopw [23] (fun a wr => ∃ k : Nat, k ≤ n ∧ a = .int .i64 k ∧ Ext w wr ∧ ∀ i, i < k → sqFault sqs i = 0) (fun a _ => n - (intOf a).toNat)
  case atStart => exact ⟨0, by omega, rfl, Ext.refl _, fun i h => by omega⟩
  case round =>
    obtain ⟨k, hk, rfl, hx, hall⟩ := hrel
    have HX := Lib.hid hx
    have HA := Lib.hid hall
    clear hx hall
    by_cases hlt : k < n
    · obtain ⟨a, c, k1, k2, r1, l1⟩ := HC.out k (by rw [HL.out]; exact hlt)
      rw [← HX.out.cell hb] at k1 k2
      have HLC : Hid (∀ w', Ext w w' → _) := fun w' hx => latinCheck_any (sqAt sqs k).1 a _ c (sqAt sqs k).2 w' rfl (hx.reads r1)
      obtain ⟨f, hf⟩ : ∃ f, latinFaultOf (sqAt sqs k).1 (sqAt sqs k).2 = f := ⟨_, rfl⟩
      have HF : Hid (sqFault sqs k = f) := hf
      rw [hf] at HLC
      obtain ⟨m, hm⟩ : ∃ m, (sqAt sqs k).1 = m := ⟨_, rfl⟩
      obtain ⟨l, hll⟩ : ∃ l, (sqAt sqs k).2.length = l := ⟨_, rfl⟩
      rw [hm] at k1 HLC
      rw [hll] at k2 HLC
      clear r1 l1 hf hm hll
      have HX1 : Hid (Ext w (wr.alloc (.cells #[.int .i64 m, .slice a l c] 54))) := HX.out.alloc _
      by_cases hf0 : f = 0
      · subst hf0
        go_wp2_with (go_at_call 27; refine Calls.mono (HLC.out _ HX1.out) ?_; rintro e w1 ⟨rfl, hx⟩; have HX2 := Lib.hid (HX1.out.trans hx); clear hx)
        go_roundw
        case rel => exact ⟨k + 1, by omega, by go_num, HX2.out, fun i hi => by
          rcases Nat.lt_succ_iff_lt_or_eq.1 hi with h | rfl
          · exact HA.out i h
          · exact HF.out⟩
        case measure => simp [intOf]; omega
      · have b2 : (f != 0) = true := by rw [bne_iff_ne]; exact hf0
        have HF0 := Lib.hid hf0
        clear hf0
        go_wp2_with (go_at_call 27; refine Calls.mono (HLC.out _ HX1.out) ?_; rintro e w1 ⟨rfl, hx⟩; have HX2 := Lib.hid (HX1.out.trans hx); clear hx)
        exact bodyPost_ret (v := .tuple #[.slice none 0 0, .int .i64 f]) (by simp [results, Tryd.results11, go_sem]) rfl ⟨⟨_, f, rfl, .inr (.inl ⟨by rw [HL.out]; exact h1, by rw [HL.out]; exact h6, k, by rw [HL.out]; exact hlt, HA.out, HF.out, HF0.out⟩), fun _ => rfl, fun _ h => absurd h HF0.out⟩, HX2.out⟩
    · obtain rfl : n = k := by omega
      obtain ⟨a, c, k1, _, _, _⟩ := HC.out 0 (by rw [HL.out]; omega)
      rw [← HX.out.cell hb, HZ.out, Nat.zero_mul, Nat.add_zero] at k1
      have HSA : Hid (∀ w' r, Ext w w' → Blk w' r #[.int .i64 z] 3 → _) := fun w' r hx hbl => sideAny_walk z r (some ⟨b, off, none⟩) n cap sqs w' HL.out (by unfold maxLen; omega) (.inr ⟨b, off, rfl, Nat.lt_of_lt_of_le hb hx.size, fun j hj => by
        obtain ⟨a, c, k1, k2, k3, k4⟩ := HC.out j hj
        exact ⟨a, c, (hx.cell hb).trans k1, (hx.cell hb).trans k2, hx.reads k3, k4⟩⟩) hbl
      obtain ⟨v, hv⟩ : ∃ v, (sqs.any fun x => x.1 != z) = v := ⟨_, rfl⟩
      have HV := Lib.hid hv
      rw [hv] at HSA
      clear hv
      have HX1 : Hid (Ext w (wr.alloc (.cells #[.int .i64 z] 3))) := HX.out.alloc _
      have HB1 : Hid (Blk (wr.alloc (.cells #[.int .i64 z] 3)) wr.heap.size #[.int .i64 z] 3) := Blk.new _ _ _
      go_wp2_with fail
      refine Calls.mono (HSA.out _ _ HX1.out HB1.out) ?_
      rintro e w1 ⟨rfl, hx⟩
      have HX2 := Lib.hid (HX1.out.trans hx)
      have HB2 := Lib.hid (HB1.out.ext hx)
      clear hx k1
      cases v with
      | true =>
        have HP : Hid (SqIs sqs 2) := .inr (.inr (.inl ⟨by rw [HL.out]; exact h1, by rw [HL.out]; exact h6, fun i hi => HA.out i (by rw [HL.out] at hi; exact hi), by rw [HZ.out]; exact HV.out, rfl⟩))
        go_wp2
        exact bodyPost_ret (v := .tuple #[.slice none 0 0, .int .i64 2]) (by simp [results, Tryd.results11, go_sem]) rfl ⟨⟨_, 2, rfl, HP.out, fun _ => rfl, fun _ h => by cases h⟩, HX2.out⟩
      | false =>
        have HP : Hid (SqIs sqs 0) := .inr (.inr (.inr ⟨by rw [HL.out]; exact h1, by rw [HL.out]; exact h6, fun i hi => HA.out i (by rw [HL.out] at hi; exact hi), by rw [HZ.out]; exact HV.out, rfl⟩))
        obtain ⟨N, hS⟩ := HP.out.zero
        have HS := Lib.hid hS
        obtain rfl : z = (N : Int) := by rw [← HZ.out]; exact hS.side 0 (by rw [HL.out]; exact h1)
        have hL0 := hS.latin 0 (by rw [HL.out]; exact h1)
        have hN1 := hL0.one
        have hN8 := hL0.big
        clear hS hL0
        obtain ⟨nb, hnb⟩ : ∃ nb, nb = wr.heap.size := ⟨_, rfl⟩
        rw [← hnb] at HB2 ⊢
        have hk0 := HB2.out.one
        obtain ⟨M, hM⟩ : ∃ M, M = N * N := ⟨_, rfl⟩
        have hM' : (N : Int) * (N : Int) = M := by rw [hM, Int.natCast_mul]
        have hM64 : M ≤ 64 := by rw [hM]; exact Nat.mul_le_mul hN8 hN8
        have HM := Lib.hid hM
        have HSZ := HX2.out.size
        clear hnb hM HB1 HX1 HSA
        go_wp2
        have H0 : Hid (OwnTbl w1 w1 (.slice none 0 0) (runsUp N sqs 0)) := OwnTbl.nil (Ext.refl w1)
        go_loopw [8, 43] (fun y a wr => ∃ t : Nat, t ≤ M ∧ a = .int .i64 t ∧ OwnTbl w1 wr y (runsUp N sqs t)) (fun _ a _ => M - (intOf a).toNat)
        case atStart => exact ⟨0, by omega, rfl, H0.out⟩
        case round =>
          obtain ⟨t, ht, rfl, hT⟩ := hrel
          clear H0 hk0
          obtain ⟨ao2, n2, cap2, rfl, htb, hx⟩ := hT
          have hn2 : n2 ≤ t := by rw [← htb.length]; simp [runsUp]
          have HTB := Lib.hid htb
          have HXT := Lib.hid hx
          clear htb hx
          have hk1 := (HB2.out.ext HXT.out).one
          by_cases htM : t < M
          · have hdn : t / N < N := Nat.div_lt_of_lt_mul (by have := HM.out; omega)
            have hmn : t % N < N := Nat.mod_lt t hN1
            obtain ⟨d, hd⟩ : ∃ d, t / N = d := ⟨_, rfl⟩
            obtain ⟨m, hm⟩ : ∃ m, t % N = m := ⟨_, rfl⟩
            have hd' : (t : Int) / N = d := by rw [← hd]; simp
            have hm' : (t : Int) % N = m := by rw [← hm]; simp
            have HRU : Hid (runUp N sqs t 0 = [(d : Int), (m : Int)]) := by show _ = _; unfold runUp; rw [hd, hm]; rfl
            clear hd hm
            go_wp2_with fail
            go_region
            have HI0 : Hid (OwnInts wr (wr.alloc (.cells #[.int .i64 d, .int .i64 m] 3)).drew (.slice (some ⟨wr.heap.size, 0, none⟩) 2 2) (runUp N sqs t 0)) := by
              rw [HRU.out]
              exact ⟨_, _, _, rfl, World.ownsRow.drew (RowOf.lit _ wr #[.int .i64 d, .int .i64 m] (by simp [maxLen])), ((Ext.refl wr).alloc _).drew⟩
            obtain ⟨wo, rfl⟩ : ∃ wo : World, wo = wr := ⟨_, rfl⟩
            clear hd' hm'
            go_wp2
            go_loopw [10, 55] (fun y a wr => ∃ j : Nat, j ≤ n ∧ a = .int .i64 j ∧ OwnInts wo wr y (runUp N sqs t j)) (fun _ a _ => n - (intOf a).toNat)
            case atStart => exact ⟨0, by omega, rfl, HI0.out⟩
            case round =>
              obtain ⟨j, hj, rfl, hI⟩ := hrel
              clear HI0
              obtain ⟨ao3, n3, cap3, rfl, hrow, hx⟩ := hI
              have hn3 : n3 ≤ j + 2 := by have := hrow.length; rw [ints_length, runUp_len N sqs t j (by rw [HL.out]; exact hj)] at this; omega
              have HROW := Lib.hid hrow
              have HXI := Lib.hid hx
              have hsz1 := HXT.out.size
              have hsz2 := hx.size
              clear hrow hx
              by_cases hjn : j < n
              · obtain ⟨a, c, k1, k2, r1, l1⟩ := HC.out j (by rw [HL.out]; exact hjn)
                have HXX := Lib.hid ((HX2.out.trans HXT.out).trans HXI.out)
                have hlen := (HS.out.latin j (by rw [HL.out]; exact hjn)).len
                rw [← HM.out] at hlen
                obtain ⟨b3, o3, rfl, hb3, hc3⟩ := Reads.int r1 (by rw [hlen]; omega)
                have k3 := (HXX.out.cell hb3).trans (hc3 t (by rw [hlen]; exact htM))
                rw [← HXX.out.cell hb] at k1 k2
                rw [HS.out.side j (by rw [HL.out]; exact hjn)] at k1
                have HRS : Hid (runUp N sqs t (j + 1) = runUp N sqs t j ++ [nth (sqAt sqs j).2 t]) := runUp_succ (by rw [HL.out]; exact hjn)
                obtain ⟨x, hx⟩ : ∃ x, nth (sqAt sqs j).2 t = x := ⟨_, rfl⟩
                rw [hx] at k3 HRS
                rw [hlen] at k2
                have hlb : b3 < wr.heap.size := Nat.lt_of_lt_of_le hb3 HXX.out.size
                clear hx hc3 r1 l1 hlen
                have HXA : Hid (Ext wo ((wr.alloc (.cells #[.int .i64 N, .slice (some ⟨b3, o3, none⟩) M c] 54)).alloc (.cells #[.int .i64 x] 3))) := (HXI.out.alloc _).alloc _
                go_wp2_with (at_builtin; refine wpList_app eInt rfl (.tmp 59) (.tmp 65) rfl wo.heap.size _ _ _ _ (by rfl) ((((Ext.refl wr).alloc _).alloc _).row HROW.out) ⟨wr.heap.size + 1, 0, none⟩ (.int .i64 x) (by rfl) (by rw [World.cell?_alloc_at _ _ _ _ (by simp)]; rfl) rfl (by omega) (by simp; omega) ?_; intro ao4 cap4 w4 hr4 hg4 hb4; have HR4 := Lib.hid hr4; have HB4 := Lib.hid (hb4 _ _ HXA.out (Nat.le_refl _)); clear hr4 hg4 hb4)
                go_roundw
                case rel => exact ⟨j + 1, by omega, by go_num, by rw [HRS.out]; exact ⟨_, _, _, rfl, by rw [ints_append]; exact HR4.out, HB4.out⟩⟩
                case measure => simp [intOf]; omega
              · obtain rfl : n = j := by omega
                have HRW : Hid (InnerX wr (fun b => w1.heap.size ≤ b) (Value.slice ao2 n2 cap2).ownBlock (.slice ao3 n3 cap3) (runUp N sqs t n)) := HROW.out.innerX _ _ (fun b hb => by omega) (fun b hb => (HTB.out.block b hb).2) (by unfold maxLen; omega)
                have HRS := Lib.hid (runsUp_succ N sqs t)
                rw [HL.out] at HRS
                go_wp2_with (at_builtin; (refine wpList_appRow (w := wr) rfl (.tmp 68) (.tmp 70) rfl (fun b => w1.heap.size ≤ b) w1.heap.size (by rfl) (HTB.out.ext HXI.out) (by rfl) HRW.out (by omega) (by omega) ?_; intro ao4 cap4 w4 hr4 hg4 hb4; have HR4 := Lib.hid hr4; have HB4 := Lib.hid (hb4 _ _ (HXT.out.trans HXI.out) (Nat.le_refl _)); clear hr4 hg4 hb4))
                go_roundw
                case rel => exact ⟨t + 1, by omega, by go_num, by rw [HRS.out]; exact ⟨_, _, _, rfl, HR4.out, HB4.out⟩⟩
                case measure => simp [intOf]; omega
          · obtain rfl : M = t := by omega
            go_wp2
            exact bodyPost_ret (v := .tuple #[.slice ao2 n2 cap2, .int .i64 0]) (by simp [results, Tryd.results11, go_sem]) rfl ⟨⟨_, 0, rfl, HP.out, fun h => absurd rfl h, fun N' _ hS' => by
              obtain rfl : N' = N := by have h3 := hS'.side 0 (by rw [HL.out]; exact h1); have h2 := HS.out.side 0 (by rw [HL.out]; exact h1); omega
              rw [← runsUp_all, ← HM.out]
              exact OwnTbl.back HX2.out ⟨_, _, _, rfl, HTB.out, HXT.out⟩⟩, HX2.out.trans HXT.out⟩

end Go.Proofs.YtnhdngnolepkcaaDoor
