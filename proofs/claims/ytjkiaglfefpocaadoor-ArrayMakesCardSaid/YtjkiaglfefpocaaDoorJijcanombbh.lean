/- What latin.Check answers at any square. -/
import Derived.Test.YtjkiaglfefpocaaDoorJemffakfpfd
import Derived.Test.YtjkiaglfefpocaaDoorJkajnadamdh
namespace Go.Proofs.YtjkiaglfefpocaaDoor
open Go.RowKit

/-- Two boxes: a square, and its side. -/
theorem ext_box2 (w : World) (c d : Array Value) (t u : TypeId) : Ext w ((w.alloc (.cells c t)).alloc (.cells d u)) := ((Ext.refl _).alloc _).alloc _

set_option maxHeartbeats 400000 in
theorem latinCheck_side (m : Int) (ao : Option Addr) (len cap : Nat) (w : World) (hm : m < 1 ∨ 8 < m) :
    Calls Tryd.prog 27 #[.agg #[.int .i64 m, .slice ao len cap]] w fun e w' => e = .returned (.int .i64 1) ∧ Ext w w' := by
  have HS := Lib.hid (fun w => side_any m w)
  rw [decide_eq_true hm] at HS
  clear hm
  go_enter Tryd.func27, Tryd.ntmps27
  go_wp2_with (go_at_call 47; refine Calls.mono (HS.out _) ?_; rintro e w1 ⟨rfl, rfl⟩)
  go_ret
  exact ⟨rfl, ext_box2 _ _ _ _ _⟩

set_option maxHeartbeats 400000 in
theorem latinCheck_shape (n : Nat) (ao : Option Addr) (len cap : Nat) (w : World) (h1 : 1 ≤ n) (h8 : n ≤ 8) (hl : len ≠ n * n) :
    Calls Tryd.prog 27 #[.agg #[.int .i64 n, .slice ao len cap]] w fun e w' => e = .returned (.int .i64 2) ∧ Ext w w' := by
  have HS := Lib.hid (fun w => side_any n w)
  rw [decide_eq_false (by omega)] at HS
  have hm1 : 0 ≤ (n : Int) * n := Int.mul_nonneg (by omega) (by omega)
  have hm2 : (n : Int) * n ≤ 8 * 8 := Int.mul_le_mul (by omega) (by omega) (by omega) (by omega)
  have b3 : ((len : Int) != (n : Int) * n) = true := by rw [bne_iff_ne, ← Int.natCast_mul]; omega
  clear hl
  go_enter Tryd.func27, Tryd.ntmps27
  go_wp2_with (go_at_call 47; refine Calls.mono (HS.out _) ?_; rintro e w1 ⟨rfl, rfl⟩)
  go_ret
  exact ⟨rfl, ext_box2 _ _ _ _ _⟩

set_option maxHeartbeats 1000000 in
theorem latinCheck_cells (n : Nat) (ao : Option Addr) (len cap : Nat) (xs : List Int) (w : World) (h1 : 1 ≤ n) (h8 : n ≤ 8) (hl : xs.length = len) (hln : len = n * n) (hr : Reads w ao (ints xs)) (hv : xs.any (badCell n) = true) :
    Calls Tryd.prog 27 #[.agg #[.int .i64 n, .slice ao len cap]] w fun e w' => e = .returned (.int .i64 1) ∧ Ext w w' := by
  have HS := Lib.hid (fun w => side_any n w)
  rw [decide_eq_false (by omega)] at HS
  have hm1 : 0 ≤ (n : Int) * n := Int.mul_nonneg (by omega) (by omega)
  have hm2 : (n : Int) * n ≤ 8 * 8 := Int.mul_le_mul (by omega) (by omega) (by omega) (by omega)
  have b3 : ((len : Int) != (n : Int) * n) = false := by rw [hln, Int.natCast_mul]; simp
  have h64 : len ≤ 64 := by rw [hln]; exact Nat.mul_le_mul h8 h8
  have HE : Hid (Ext w ((w.alloc (.cells #[.int .i64 n, .slice ao len cap] 54)).alloc (.cells #[.int .i64 n] 3))) := ext_box2 _ _ _ _ _
  have HC := Lib.hid (containsFunc_any 49 #[.pointer (some ⟨w.heap.size + 1, 0, none⟩)] ao len cap xs (badCell n) _ hl (by unfold maxLen; omega) (HE.out.reads hr) (cell_pred n xs (w.heap.size + 1) _ (Blk.new' _ _ _ (by simp))) (fun _ _ => rfl))
  rw [hv] at HC
  clear hl hln hr hv
  go_enter Tryd.func27, Tryd.ntmps27
  go_wp2_with (first
    | (go_at_call 47; refine Calls.mono (HS.out _) ?_; rintro e w1 ⟨rfl, rfl⟩)
    | (go_at_call 48; refine HC.out.mono ?_; rintro e w1 ⟨rfl, hd⟩; have HD := Lib.hid hd; clear hd))
  go_ret
  exact ⟨rfl, HE.out.drawn HD.out⟩

open Classical in
set_option maxHeartbeats 1000000 in
theorem latinCheck_twice (n : Nat) (ao : Option Addr) (len cap : Nat) (xs : List Int) (w : World) (h1 : 1 ≤ n) (h8 : n ≤ 8) (hl : xs.length = len) (hln : len = n * n) (hr : Reads w ao (ints xs)) (hv : xs.any (badCell n) = false) :
    Calls Tryd.prog 27 #[.agg #[.int .i64 n, .slice ao len cap]] w fun e w' => e = .returned (.int .i64 (if Once n xs len then 0 else 6)) ∧ Ext w w' := by
  have HS := Lib.hid (fun w => side_any n w)
  rw [decide_eq_false (by omega)] at HS
  have hm1 : 0 ≤ (n : Int) * n := Int.mul_nonneg (by omega) (by omega)
  have hm2 : (n : Int) * n ≤ 8 * 8 := Int.mul_le_mul (by omega) (by omega) (by omega) (by omega)
  have b3 : ((len : Int) != (n : Int) * n) = false := by rw [hln, Int.natCast_mul]; simp
  have h64 : len ≤ 64 := by rw [hln]; exact Nat.mul_le_mul h8 h8
  have HE : Hid (Ext w ((w.alloc (.cells #[.int .i64 n, .slice ao len cap] 54)).alloc (.cells #[.int .i64 n] 3))) := ext_box2 _ _ _ _ _
  have HB1 : Hid (Blk ((w.alloc (.cells #[.int .i64 n, .slice ao len cap] 54)).alloc (.cells #[.int .i64 n] 3)) w.heap.size #[.int .i64 n, .slice ao len cap] 54) := (Blk.new _ _ _).alloc _
  have HB2 : Hid (Blk ((w.alloc (.cells #[.int .i64 n, .slice ao len cap] 54)).alloc (.cells #[.int .i64 n] 3)) (w.heap.size + 1) #[.int .i64 n] 3) := Blk.new' _ _ _ (by simp)
  have HC := Lib.hid (containsFunc_any 49 #[.pointer (some ⟨w.heap.size + 1, 0, none⟩)] ao len cap xs (badCell n) _ hl (by unfold maxLen; omega) (HE.out.reads hr) (cell_pred n xs (w.heap.size + 1) _ (Blk.new' _ _ _ (by simp))) (fun _ _ => rfl))
  rw [hv] at HC
  have HT : Hid (∀ w', Ext w w' → _) := fun w' hx => twice_any n ao len cap xs w' h1 h8 hl hln (good_cells (by rw [hv]; simp)) (hx.reads hr)
  have HV : Hid ((if Once n xs len then (0 : Int) else 6) = if decide (¬ Once n xs len) then 6 else 0) := by
    show _ = _
    by_cases h : Once n xs len
    · rw [if_pos h, if_neg (by simp [h])]
    · rw [if_neg h, if_pos (by simp [h])]
  rw [HV.out]
  obtain ⟨v, hv2⟩ : ∃ v, decide (¬ Once n xs len) = v := ⟨_, rfl⟩
  rw [hv2] at HT ⊢
  clear hl hln hr hv hv2 HV
  cases v
  all_goals
    go_enter Tryd.func27, Tryd.ntmps27
    go_wp2_with (first
      | (go_at_call 47; refine Calls.mono (HS.out _) ?_; rintro e w1 ⟨rfl, rfl⟩)
      | (go_at_call 48; refine HC.out.mono ?_; rintro e w1 ⟨rfl, hd⟩; have k1 := (HB1.out.drawn hd).two; have k2 := (HB2.out.drawn hd).one; have HX := Lib.hid (HE.out.drawn hd); have HTT := Lib.hid (HT.out w1 HX.out); clear hd)
      | (go_at_call 50; refine HTT.out.mono ?_; rintro e w2 ⟨rfl, hx⟩; have HX2 := Lib.hid hx; clear hx))
    go_ret
    exact ⟨rfl, HX.out.trans HX2.out⟩

theorem latinCheck_any (m : Int) (ao : Option Addr) (len cap : Nat) (xs : List Int) (w : World) (hl : xs.length = len) (hr : Reads w ao (ints xs)) :
    Calls Tryd.prog 27 #[.agg #[.int .i64 m, .slice ao len cap]] w fun e w' => e = .returned (.int .i64 (latinFaultOf m xs)) ∧ Ext w w' := by
  unfold latinFaultOf
  by_cases hm : m < 1 ∨ 8 < m
  · rw [if_pos hm]; exact latinCheck_side m ao len cap w hm
  · rw [if_neg hm]
    obtain ⟨n, rfl⟩ : ∃ n : Nat, m = n := ⟨m.toNat, by omega⟩
    rw [Int.toNat_natCast]
    by_cases hs : xs.length ≠ n * n
    · rw [if_pos hs]; exact latinCheck_shape n ao len cap w (by omega) (by omega) (by rw [← hl]; exact hs)
    · rw [if_neg hs]
      have hs' : xs.length = n * n := Decidable.not_not.1 hs
      by_cases hv : xs.any (badCell n) = true
      · rw [if_pos hv]; exact latinCheck_cells n ao len cap xs w (by omega) (by omega) hl (by omega) hr hv
      · rw [if_neg hv]
        rw [show n * n = len by omega]
        exact latinCheck_twice n ao len cap xs w (by omega) (by omega) hl (by omega) hr (by simpa using hv)

end Go.Proofs.YtjkiaglfefpocaaDoor

/- Slices that read as lists, and lists of lists. No conditions. -/
namespace Go.Proofs.YtjkiaglfefpocaaDoor
open Go.RowKit

/-- A slice that reads as a list of ints. -/
def Inner (w : World) (v : Value) (xs : List Int) : Prop := ∃ a c, v = .slice a xs.length c ∧ Reads w a (ints xs) ∧ xs.length ≤ maxLen
theorem Inner.ext {w w' : World} {v : Value} {xs : List Int} (h : Inner w v xs) (hx : Ext w w') : Inner w' v xs := by
  obtain ⟨a, c, rfl, hr, hl⟩ := h
  exact ⟨a, c, rfl, hx.reads hr, hl⟩
/-- The row of a number. -/
def row (xss : List (List Int)) (j : Nat) : List Int := xss.getD j []
theorem row_eq (xss : List (List Int)) (j : Nat) (h : j < xss.length) : row xss j = xss[j] := by simp [row, List.getElem?_eq_getElem h]
theorem row_ext (xs ys : List (List Int)) (hl : xs.length = ys.length) (h : ∀ j, j < xs.length → row xs j = row ys j) : xs = ys := by
  apply List.ext_getElem hl
  intro j h1 h2
  have := h j h1
  rwa [row_eq _ _ h1, row_eq _ _ h2] at this
/-- Slices that read as lists of ints. -/
def Rows2 (w : World) (vs : List Value) (xss : List (List Int)) : Prop := vs.length = xss.length ∧ ∀ j v, vs[j]? = some v → Inner w v (row xss j)
theorem Rows2.ext {w w' : World} {vs : List Value} {xss : List (List Int)} (h : Rows2 w vs xss) (hx : Ext w w') : Rows2 w' vs xss := ⟨h.1, fun j v hv => (h.2 j v hv).ext hx⟩
theorem Rows2.nil (w : World) : Rows2 w [] [] := ⟨rfl, fun j v hv => by simp at hv⟩
theorem Rows2.snoc {w : World} {vs : List Value} {xss : List (List Int)} (h : Rows2 w vs xss) {v : Value} {xs : List Int} (hv : Inner w v xs) : Rows2 w (vs ++ [v]) (xss ++ [xs]) := by
  refine ⟨by simp [h.1], fun j u hu => ?_⟩
  have hj : j < vs.length + 1 := by have := (List.getElem?_eq_some_iff.1 hu).1; simpa using this
  by_cases hlt : j < vs.length
  · rw [List.getElem?_append_left hlt] at hu
    have := h.2 j u hu
    rwa [show row (xss ++ [xs]) j = row xss j by unfold row; rw [List.getD_eq_getElem?_getD, List.getD_eq_getElem?_getD, List.getElem?_append_left (by rw [← h.1]; exact hlt)]]
  · obtain rfl : j = vs.length := by omega
    rw [List.getElem?_append_right (Nat.le_refl _), Nat.sub_self] at hu
    simp at hu
    subst hu
    rwa [show row (xss ++ [xs]) vs.length = xs by unfold row; rw [List.getD_eq_getElem?_getD, h.1, List.getElem?_append_right (Nat.le_refl _), Nat.sub_self]; rfl]
/-- A slice of slices that reads as a list of lists. -/
def ReadsL (w : World) (ao : Option Addr) (xss : List (List Int)) : Prop := ∃ vs, Reads w ao vs ∧ Rows2 w vs xss
theorem ReadsL.ext {w w' : World} {ao : Option Addr} {xss : List (List Int)} (h : ReadsL w ao xss) (hx : Ext w w') : ReadsL w' ao xss := by
  obtain ⟨vs, h1, h2⟩ := h
  exact ⟨vs, hx.reads h1, h2.ext hx⟩
theorem ReadsL.nil (w : World) (ao : Option Addr) : ReadsL w ao [] := ⟨[], .inl rfl, Rows2.nil w⟩
/-- A row that is read. -/
theorem ReadsL.row {w : World} {ao : Option Addr} {xss : List (List Int)} (h : ReadsL w ao xss) (hn : 0 < xss.length) :
    ∃ b off, ao = some ⟨b, off, none⟩ ∧ b < w.heap.size ∧ ∀ j, j < xss.length → ∃ a c, w.cell? ⟨b, off + j, none⟩ = some (.slice a (row xss j).length c) ∧ Reads w a (ints (row xss j)) ∧ (row xss j).length ≤ maxLen := by
  obtain ⟨vs, h1, h2⟩ := h
  rcases h1 with h1 | ⟨b, off, ha, hlt, hc⟩
  · have := h2.1; rw [h1] at this; simp at this; omega
  · refine ⟨b, off, ha, hlt, fun j hj => ?_⟩
    have hj' : j < vs.length := by rw [h2.1]; exact hj
    have hv := List.getElem?_eq_getElem hj'
    obtain ⟨a, c, e, hr, hl⟩ := h2.2 j _ hv
    exact ⟨a, c, by rw [hc j _ hv, e], hr, hl⟩

end Go.Proofs.YtjkiaglfefpocaaDoor

/- Lists of ints that a call makes. No conditions. -/
namespace Go.Proofs.YtjkiaglfefpocaaDoor
open Go.RowKit

/-- A list of ints that has been made since w0. -/
def OwnInts (w0 w : World) (v : Value) (xs : List Int) : Prop := ∃ ao n cap, v = .slice ao n cap ∧ RowOf 3 w w0.heap.size ao n cap (ints xs) ∧ Ext w0 w
theorem OwnInts.nil {w0 w : World} (h : Ext w0 w) : OwnInts w0 w (.slice none 0 0) [] := ⟨none, 0, 0, rfl, RowOf.nil _ _ _, h⟩
theorem OwnInts.ext {w0 w w' : World} {v : Value} {xs : List Int} (h : OwnInts w0 w v xs) (hx : Ext w w') : OwnInts w0 w' v xs := by
  obtain ⟨ao, n, cap, rfl, h1, h2⟩ := h; exact ⟨ao, n, cap, rfl, hx.row h1, h2.trans hx⟩
theorem OwnInts.back {w w1 w' : World} {v : Value} {xs : List Int} (hx : Ext w w1) (h : OwnInts w1 w' v xs) : OwnInts w w' v xs := by
  obtain ⟨ao, n, cap, rfl, h1, h2⟩ := h
  exact ⟨ao, n, cap, rfl, h1.mono hx.size, hx.trans h2⟩

end Go.Proofs.YtjkiaglfefpocaaDoor
