/- Rows of truth values. No conditions. -/
import Derived.Test.YtnhdngnolepkcaaDoorJpoobehflpg
import Derived.Test.YtnhdngnolepkcaaDoorJpihnipoceb
import Derived.BigRegion
import Derived.Outline
namespace Go.Proofs.YtnhdngnolepkcaaDoor
open Go.RowKit

/-- A row of truth values. -/
def bools (f : Nat → Bool) (n : Nat) : Array Value := ((List.range n).map fun q => Value.bool (f q)).toArray
theorem bools_get (f : Nat → Bool) (n j : Nat) (h : j < n) : (bools f n)[j]? = some (.bool (f j)) := by simp [bools, h]
theorem bools_set (f : Nat → Bool) (n j : Nat) (b : Bool) : (bools f n).setIfInBounds j (.bool b) = bools (fun q => if q = j then b else f q) n := by
  unfold bools
  apply Array.ext
  · simp
  · intro i h1 h2
    simp at h1 h2 ⊢
    rw [List.getElem_set]
    by_cases e : j = i
    · rw [if_pos e, if_pos e.symm]
    · rw [if_neg e, if_neg (Ne.symm e)]; simp
theorem bools_congr (f g : Nat → Bool) (n : Nat) (h : ∀ q, q < n → f q = g q) : bools f n = bools g n := by
  unfold bools
  congr 1
  apply List.map_congr_left
  intro q hq
  rw [h q (List.mem_range.1 hq)]
theorem falses (T : TypeId) (w : World) : w.alloc (.cells #[.bool false, .bool false, .bool false, .bool false, .bool false, .bool false, .bool false, .bool false, .bool false, .bool false, .bool false, .bool false, .bool false, .bool false, .bool false, .bool false, .bool false, .bool false, .bool false, .bool false, .bool false, .bool false, .bool false, .bool false, .bool false, .bool false, .bool false, .bool false, .bool false, .bool false, .bool false, .bool false, .bool false, .bool false, .bool false, .bool false, .bool false, .bool false, .bool false, .bool false, .bool false, .bool false, .bool false, .bool false, .bool false, .bool false, .bool false, .bool false, .bool false, .bool false, .bool false, .bool false, .bool false, .bool false, .bool false, .bool false, .bool false, .bool false, .bool false, .bool false, .bool false, .bool false, .bool false, .bool false] T) = w.alloc (.cells (bools (fun _ => false) 64) T) := rfl

end Go.Proofs.YtnhdngnolepkcaaDoor

/- Latin squares, plain: what is wrong with a square. -/
namespace Go.Proofs.YtnhdngnolepkcaaDoor
open Go.RowKit

/-- No number stands twice in a row or a column. -/
def Once (n : Nat) (xs : List Int) (m : Nat) : Prop := ∀ i j, i < j → j < m → nth xs i = nth xs j → i / n ≠ j / n ∧ i % n ≠ j % n
/-- No cell. -/
def badCell (n x : Int) : Bool := decide (x < 0) || decide (n ≤ x)
/-- A Latin square. -/
structure IsLatin (n : Nat) (xs : List Int) : Prop where
  one : 1 ≤ n
  big : n ≤ 8
  len : xs.length = n * n
  cell : ∀ x ∈ xs, 0 ≤ x ∧ x < n
  once : Once n xs (n * n)
theorem IsLatin.at {n : Nat} {xs : List Int} (h : IsLatin n xs) (j : Nat) (hj : j < n * n) : 0 ≤ nth xs j ∧ nth xs j < n := h.cell _ (nth_mem xs j (by rw [h.len]; exact hj))

open Classical in
/-- What is wrong. -/
noncomputable def latinFaultOf (m : Int) (xs : List Int) : Int :=
  if m < 1 ∨ 8 < m then 1 else if xs.length ≠ m.toNat * m.toNat then 2 else if xs.any (badCell m) = true then 1 else if Once m.toNat xs (m.toNat * m.toNat) then 0 else 6

theorem good_cells {m : Int} {xs : List Int} (h : ¬ xs.any (badCell m) = true) : ∀ x ∈ xs, 0 ≤ x ∧ x < m := fun x hx => by
  have h3 : xs.any (badCell m) = false := by simpa using h
  have := List.any_eq_false.1 h3 x hx
  unfold badCell at this
  simp at this
  omega
theorem latinFaultOf_zero {m : Int} {xs : List Int} (h : latinFaultOf m xs = 0) : ∃ n : Nat, m = n ∧ IsLatin n xs := by
  unfold latinFaultOf at h
  split at h
  · omega
  · rename_i h1
    split at h
    · omega
    · rename_i h2
      split at h
      · omega
      · rename_i h3
        split at h
        · rename_i h4
          refine ⟨m.toNat, by omega, by omega, by omega, by omega, fun x hx => ?_, h4⟩
          have := good_cells h3 x hx
          omega
        · omega
theorem latinFaultOf_latin {n : Nat} {xs : List Int} (h : IsLatin n xs) : latinFaultOf n xs = 0 := by
  unfold latinFaultOf
  have h1 := h.one
  have h2 := h.big
  rw [if_neg (by omega), if_neg (by have := h.len; simpa using this), if_neg, if_pos (by simpa using h.once)]
  simp only [List.any_eq_true, not_exists, not_and, Bool.not_eq_true]
  intro x hx
  have := h.cell x hx
  unfold badCell
  rw [decide_eq_false (by omega), decide_eq_false (by omega)]
  rfl

/-- What stands above or at the left. -/
theorem Once.succ {n : Nat} {xs : List Int} {m : Nat} (h : Once n xs m) (h' : ∀ i, i < m → nth xs i = nth xs m → i / n ≠ m / n ∧ i % n ≠ m % n) : Once n xs (m + 1) := by
  intro i j hij hj he
  rcases Nat.lt_succ_iff_lt_or_eq.1 hj with h1 | rfl
  · exact h i j hij h1 he
  · exact h' i hij he
theorem Once.mono {n : Nat} {xs : List Int} {m l : Nat} (h : Once n xs m) (hl : l ≤ m) : Once n xs l := fun i j hij hj => h i j hij (by omega)

/-- The squares' runs. -/
def runAt (n : Nat) (list : List (List Int)) (at' : Nat) : List Int := ((at' / n : Nat) : Int) :: ((at' % n : Nat) : Int) :: list.map fun xs => nth xs at'
def runsOf (n : Nat) (list : List (List Int)) : List (List Int) := (List.range (n * n)).map (runAt n list)

end Go.Proofs.YtnhdngnolepkcaaDoor

/- What latin.side, latin.twice and latin.Check answer at any square. -/
namespace Go.Proofs.YtnhdngnolepkcaaDoor
open Go.RowKit

/-- Has a number stood in a row? -/
def rowSeen (n : Nat) (xs : List Int) (k q : Nat) : Bool := (List.range k).any fun i => i / n == q / 8 && nth xs i == ((q % 8 : Nat) : Int)
/-- .. in a column? -/
def colSeen (n : Nat) (xs : List Int) (k q : Nat) : Bool := (List.range k).any fun i => i % n == q / 8 && nth xs i == ((q % 8 : Nat) : Int)
theorem at8 {r c : Nat} (hc : c < 8) : (r * 8 + c) / 8 = r ∧ (r * 8 + c) % 8 = c := by omega
theorem rowSeen_true {n : Nat} {xs : List Int} {k r c : Nat} (hc : c < 8) : rowSeen n xs k (r * 8 + c) = true ↔ ∃ i, i < k ∧ i / n = r ∧ nth xs i = (c : Int) := by
  unfold rowSeen
  rw [(at8 hc).1, (at8 hc).2]
  simp [List.any_eq_true]
theorem colSeen_true {n : Nat} {xs : List Int} {k r c : Nat} (hc : c < 8) : colSeen n xs k (r * 8 + c) = true ↔ ∃ i, i < k ∧ i % n = r ∧ nth xs i = (c : Int) := by
  unfold colSeen
  rw [(at8 hc).1, (at8 hc).2]
  simp [List.any_eq_true]
theorem rowSeen_succ {n : Nat} {xs : List Int} {k c : Nat} (hc : c < 8) (hk : nth xs k = (c : Int)) (q : Nat) : rowSeen n xs (k + 1) q = if q = k / n * 8 + c then true else rowSeen n xs k q := by
  by_cases h : q = k / n * 8 + c
  · rw [if_pos h, h, rowSeen_true hc]; exact ⟨k, by omega, rfl, hk⟩
  · rw [if_neg h]
    unfold rowSeen
    rw [List.range_succ, List.any_append]
    have : ((k / n == q / 8) && (nth xs k == ((q % 8 : Nat) : Int))) = false := by
      rw [Bool.and_eq_false_iff, beq_eq_false_iff_ne, beq_eq_false_iff_ne, hk]
      by_cases h1 : k / n = q / 8
      · right; intro h2; apply h; rw [h1]; omega
      · exact .inl h1
    rw [List.any_cons, this]; simp
theorem colSeen_succ {n : Nat} {xs : List Int} {k c : Nat} (hc : c < 8) (hk : nth xs k = (c : Int)) (q : Nat) : colSeen n xs (k + 1) q = if q = k % n * 8 + c then true else colSeen n xs k q := by
  by_cases h : q = k % n * 8 + c
  · rw [if_pos h, h, colSeen_true hc]; exact ⟨k, by omega, rfl, hk⟩
  · rw [if_neg h]
    unfold colSeen
    rw [List.range_succ, List.any_append]
    have : ((k % n == q / 8) && (nth xs k == ((q % 8 : Nat) : Int))) = false := by
      rw [Bool.and_eq_false_iff, beq_eq_false_iff_ne, beq_eq_false_iff_ne, hk]
      by_cases h1 : k % n = q / 8
      · right; intro h2; apply h; rw [h1]; omega
      · exact .inl h1
    rw [List.any_cons, this]; simp

set_option maxHeartbeats 400000 in
theorem side_any (m : Int) (w : World) : Calls Tryd.prog 47 #[.int .i64 m] w fun e w' => e = .returned (.bool (!(decide (m < 1 ∨ 8 < m)))) ∧ w = w' := by
  by_cases h1 : m < 1
  · have b1 : decide (1 ≤ m) = false := decide_eq_false (by omega)
    have HV : Hid (decide (m < 1 ∨ 8 < m) = true) := decide_eq_true (.inl h1)
    clear h1
    go_enter Tryd.func47, Tryd.ntmps47
    go_wp2
    go_ret
    exact ⟨by rw [HV.out]; rfl, rfl⟩
  · have b1 : decide (1 ≤ m) = true := decide_eq_true (by omega)
    by_cases h2 : 8 < m
    · have b2 : decide (m ≤ 8) = false := decide_eq_false (by omega)
      have HV : Hid (decide (m < 1 ∨ 8 < m) = true) := decide_eq_true (.inr h2)
      clear h1 h2
      go_enter Tryd.func47, Tryd.ntmps47
      go_wp2
      go_ret
      exact ⟨by rw [HV.out]; rfl, rfl⟩
    · have b2 : decide (m ≤ 8) = true := decide_eq_true (by omega)
      have HV : Hid (decide (m < 1 ∨ 8 < m) = false) := decide_eq_false (by omega)
      clear h1 h2
      go_enter Tryd.func47, Tryd.ntmps47
      go_wp2
      go_ret
      exact ⟨by rw [HV.out]; rfl, rfl⟩

theorem cell_pred (m : Int) (xs : List Int) (r : Nat) (w : World) (hb : Blk w r #[.int .i64 m] 3) : PredOn 49 #[.pointer (some ⟨r, 0, none⟩)] xs (badCell m) w := by
  intro x _ w' hd
  have k0 := (hb.drawn hd).one
  clear hd
  unfold badCell
  obtain ⟨p, hp⟩ : ∃ p, decide (x < 0) = p := ⟨_, rfl⟩
  obtain ⟨q, hq⟩ : ∃ q, decide (m ≤ x) = q := ⟨_, rfl⟩
  rw [hp, hq]
  cases p
  all_goals
    go_enter Tryd.func49, Tryd.ntmps49
    go_wp2
    go_ret
    exact ⟨by simp [*], Drawn.refl _⟩

/-- A round's world. -/
structure TwSt (w wr : World) (n : Nat) (xs : List Int) (k : Nat) : Prop where
  ext : Ext w wr
  rows : Blk wr w.heap.size (bools (rowSeen n xs k) 64) 95
  cols : Blk wr (w.heap.size + 1) (bools (colSeen n xs k) 64) 95
  once : Once n xs k
theorem TwSt.start (w : World) (n : Nat) (xs : List Int) : TwSt w ((w.alloc (.cells (bools (fun _ => false) 64) 95)).alloc (.cells (bools (fun _ => false) 64) 95)) n xs 0 := by
  have e1 : bools (rowSeen n xs 0) 64 = bools (fun _ => false) 64 := bools_congr _ _ _ fun q _ => by simp [rowSeen]
  have e2 : bools (colSeen n xs 0) 64 = bools (fun _ => false) 64 := bools_congr _ _ _ fun q _ => by simp [colSeen]
  refine ⟨((Ext.refl w).alloc _).alloc _, ?_, ?_, fun i j _ h => by omega⟩
  · rw [e1]; exact (Blk.new w _ _).alloc _
  · rw [e2]; exact Blk.new' _ _ _ (by simp)
theorem TwSt.drew {w wr : World} {n : Nat} {xs : List Int} {k : Nat} (h : TwSt w wr n xs k) : TwSt w wr.drew n xs k := ⟨h.ext.drew, h.rows.drew, h.cols.drew, h.once⟩
theorem TwSt.next {w wr : World} {n : Nat} {xs : List Int} {k c : Nat} (h : TwSt w wr n xs k) (hc : c < 8) (hk : nth xs k = (c : Int)) (h1 : rowSeen n xs k (k / n * 8 + c) = false) (h2 : colSeen n xs k (k % n * 8 + c) = false) :
    TwSt w ((wr.setCell ⟨w.heap.size, k / n * 8 + c, none⟩ (.bool true)).setCell ⟨w.heap.size + 1, k % n * 8 + c, none⟩ (.bool true)) n xs (k + 1) := by
  refine ⟨(h.ext.set (by simp) _).set (by simp) _, ?_, ?_, ?_⟩
  · have := (h.rows.set (k / n * 8 + c) (.bool true)).beside ⟨w.heap.size + 1, k % n * 8 + c, none⟩ (by simp) (.bool true)
    rw [bools_set] at this
    rw [bools_congr (rowSeen n xs (k + 1)) _ 64 (fun q _ => rowSeen_succ hc hk q)]
    exact this
  · have := (h.cols.beside ⟨w.heap.size, k / n * 8 + c, none⟩ (by simp) (.bool true)).set (k % n * 8 + c) (.bool true)
    rw [bools_set] at this
    rw [bools_congr (colSeen n xs (k + 1)) _ 64 (fun q _ => colSeen_succ hc hk q)]
    exact this
  · refine h.once.succ fun i hi he => ⟨fun e => ?_, fun e => ?_⟩
    · have := (rowSeen_true (n := n) (xs := xs) (k := k) (r := k / n) hc).2 ⟨i, hi, e, by rw [he, hk]⟩
      rw [h1] at this; simp at this
    · have := (colSeen_true (n := n) (xs := xs) (k := k) (r := k % n) hc).2 ⟨i, hi, e, by rw [he, hk]⟩
      rw [h2] at this; simp at this

open Classical in
set_option maxHeartbeats 2000000 in
theorem twice_any (n : Nat) (ao : Option Addr) (len cap : Nat) (xs : List Int) (w : World) (h1 : 1 ≤ n) (h8 : n ≤ 8) (hl : xs.length = len) (hln : len = n * n) (hx : ∀ x ∈ xs, 0 ≤ x ∧ x < n) (hr : Reads w ao (ints xs)) :
    Calls Tryd.prog 50 #[.int .i64 n, .slice ao len cap] w fun e w' => e = .returned (.bool (decide (¬ Once n xs len))) ∧ Ext w w' := by
  have h64 : len ≤ 64 := by rw [hln]; exact Nat.mul_le_mul h8 h8
  have hpos : 0 < len := by rw [hln]; exact Nat.mul_pos h1 h1
  obtain ⟨b, off, rfl, hb, hc⟩ := Reads.int hr (by omega)
  have HLN := Lib.hid hln
  have HL := Lib.hid hl
  have HX := Lib.hid hx
  have HC := Lib.hid hc
  clear hln hx hc hr hl
  go_enter Tryd.func50, Tryd.ntmps50
  go_wp2
  rw [falses, falses]
  have H0 := Lib.hid (TwSt.start w n xs)
  obtain ⟨w0, hw0⟩ : ∃ w0, w0 = (w.alloc (.cells (bools (fun _ => false) 64) 95)).alloc (.cells (bools (fun _ => false) 64) 95) := ⟨_, rfl⟩
  rw [← hw0] at H0 ⊢
  clear hw0
  go_loopw [11] (fun a wr => ∃ k : Nat, k ≤ len ∧ a = .int .i64 k ∧ TwSt w wr n xs k) (fun a _ => len - (intOf a).toNat)
  case atStart => exact ⟨0, by omega, rfl, H0.out⟩
  case round =>
    obtain ⟨k, hk, rfl, hst⟩ := hrel
    have HS := Lib.hid hst
    clear hst H0
    by_cases hlt : k < len
    · have k0 := (HS.out.ext.cell hb).trans (HC.out k (by rw [HL.out]; exact hlt))
      have hx0 := HX.out _ (nth_mem xs k (by rw [HL.out]; exact hlt))
      obtain ⟨c, hcc⟩ : ∃ c : Nat, nth xs k = c := ⟨(nth xs k).toNat, by omega⟩
      have HCC := Lib.hid hcc
      rw [hcc] at k0 hx0
      have hc8 : c < 8 := by omega
      have hd8 : k / n < 8 := Nat.div_lt_of_lt_mul (by have := HLN.out; have : n * n ≤ n * 8 := Nat.mul_le_mul_left n h8; omega)
      have hm8 : k % n < 8 := by have := Nat.mod_lt k h1; omega
      obtain ⟨d, hd⟩ : ∃ d, k / n = d := ⟨_, rfl⟩
      obtain ⟨m, hm⟩ : ∃ m, k % n = m := ⟨_, rfl⟩
      have hd' : (k : Int) / n = d := by rw [← hd]; simp
      have hm' : (k : Int) % n = m := by rw [← hm]; simp
      have HR1 := HS.out.rows.c (d * 8 + c) _ (bools_get _ 64 _ (by omega))
      have HR2 := HS.out.cols.c (m * 8 + c) _ (bools_get _ 64 _ (by omega))
      have HF1 := HS.out.rows.f (d * 8 + c)
      have HF2 := HS.out.cols.f (m * 8 + c)
      have HN : Hid (rowSeen n xs k (d * 8 + c) = false → colSeen n xs k (m * 8 + c) = false → TwSt w ((wr.setCell ⟨w.heap.size, d * 8 + c, none⟩ (.bool true)).setCell ⟨w.heap.size + 1, m * 8 + c, none⟩ (.bool true)) n xs (k + 1)) := by
        rw [← hd, ← hm]; exact fun e1 e2 => HS.out.next hc8 hcc e1 e2
      have HY : Hid (rowSeen n xs k (d * 8 + c) = true ∨ colSeen n xs k (m * 8 + c) = true → ¬ Once n xs len) := fun h ho => by
        rcases h with h | h
        · obtain ⟨i, i1, i2, i3⟩ := (rowSeen_true hc8).1 h
          have := ho i k i1 hlt (by rw [i3, hcc]); omega
        · obtain ⟨i, i1, i2, i3⟩ := (colSeen_true hc8).1 h
          have := ho i k i1 hlt (by rw [i3, hcc]); omega
      rw [hd] at hd8
      rw [hm] at hm8
      clear hd hm hcc hx0
      have x0 := HS.out.ext.size
      cases hb1 : rowSeen n xs k (d * 8 + c) with
      | true =>
        rw [hb1] at HR1
        have HNO := Lib.hid (HY.out (.inl hb1))
        clear hb1
        go_wp2
        go_ret
        exact ⟨by rw [decide_eq_true HNO.out]; rfl, HS.out.ext⟩
      | false =>
        rw [hb1] at HR1
        cases hb2 : colSeen n xs k (m * 8 + c) with
        | true =>
          rw [hb2] at HR2
          have HNO := Lib.hid (HY.out (.inr hb2))
          clear hb1 hb2
          go_wp2
          go_ret
          exact ⟨by rw [decide_eq_true HNO.out]; rfl, HS.out.ext⟩
        | false =>
          rw [hb2] at HR2
          have HNX := Lib.hid (HN.out hb1 hb2)
          clear hb1 hb2
          go_wp2
          go_region
          all_goals
            go_wp2
            exact ⟨⟨k + 1, by omega, by go_num, HNX.out.drew⟩, by simp [intOf]; omega⟩
    · obtain rfl : len = k := by omega
      go_wp2
      go_ret
      exact ⟨by rw [decide_eq_false (fun h => h HS.out.once)]; rfl, HS.out.ext⟩

end Go.Proofs.YtnhdngnolepkcaaDoor
