/- What math/bits.OnesCount answers below 256. -/
import Derived.Test.YtnhdngnolepkcaaDoorJpoobehflpg
import Derived.Test.YtnhdngnolepkcaaDoorJnfcgcmlleb
import Derived.BigRegion
namespace Go.Proofs.YtnhdngnolepkcaaDoor
open Go.RowKit

/-- The ones of a number below 256. -/
def onesOf (x : Nat) : Nat := (List.range 8).foldl (fun s t => s + x / 2 ^ t % 2) 0
def ones1 (x : Int) : Int := IntKind.u64.wrap (bits .and .u64 (x / 2) 6148914691236517205 + bits .and .u64 x 6148914691236517205)
def ones2 (x : Int) : Int := IntKind.u64.wrap (bits .and .u64 (x / 4) 3689348814741910323 + bits .and .u64 x 3689348814741910323)
def ones3 (x : Int) : Int := bits .and .u64 (IntKind.u64.wrap (x / 16 + x)) 1085102592571150095
def ones4 (d x : Int) : Int := IntKind.u64.wrap (x + x / d)
def onesAll (x : Int) : Int := bits .and .i64 (wrap64 (ones4 4294967296 (ones4 65536 (ones4 256 (ones3 (ones2 (ones1 x))))))) 127
theorem ones_check : ((List.range 256).all fun x => decide (onesAll x = onesOf x)) = true := by decide +kernel
theorem ones_eq (x : Nat) (hx : x < 256) : onesAll x = onesOf x := by
  have h := ones_check
  rw [List.all_eq_true] at h
  exact of_decide_eq_true (h x (List.mem_range.2 hx))

set_option maxHeartbeats 1000000 in
theorem ones64_any (x : Nat) (w : World) (hx : x < 256) :
    Calls Tryd.prog 56 #[.int .u64 x] w fun e w' => e = .returned (.int .i64 (onesOf x)) ∧ w = w' := by
  have HE := Lib.hid (ones_eq x hx)
  go_enter Tryd.func56, Tryd.ntmps56
  go_wp2
  go_ret
  refine ⟨?_, rfl⟩
  rw [← HE.out]
  simp [onesAll, ones1, ones2, ones3, ones4]

set_option maxHeartbeats 1000000 in
theorem ones_any (x : Nat) (w : World) (hx : x < 256) :
    Calls Tryd.prog 33 #[.int .u64 x] w fun e w' => e = .returned (.int .i64 (onesOf x)) ∧ w = w' := by
  have HE := Lib.hid (ones64_any x w hx)
  go_enter Tryd.func33, Tryd.ntmps33
  go_wp2_with (go_at_call 56; refine HE.out.mono ?_; rintro e w' ⟨rfl, rfl⟩)
  go_ret
  exact ⟨rfl, rfl⟩

end Go.Proofs.YtnhdngnolepkcaaDoor

/- What array.alike answers. -/
namespace Go.Proofs.YtnhdngnolepkcaaDoor
set_option maxRecDepth 100000
open Go.RowKit Go.Maps

theorem laidOutP : laidOutB Tryd.prog = true := by kernel_rfl
theorem kty : KTy Tryd.prog 83 3 8 where
  arr := Tryd.underlying83
  int := Tryd.underlying3
  key := by kernel_rfl
  cells := by kernel_rfl
  one := by kernel_rfl
  big := of_decide_eq_true (by kernel_rfl)
theorem law8 : Go.WideMaps.KeyLaw Tryd.prog 83 := deep_law_laid laidOutP (m := 3) (by decide) (of_decide_eq_true (by kernel_rfl)) (by kernel_rfl) (by kernel_rfl)
theorem mapTy : Tryd.prog.underlying 82 = some (.map 83 3) := Tryd.underlying82
theorem zeroInt : ∀ w, (zeroValue 3).run Tryd.prog w = .ok (.int .i64 0) w := fun w => by
  obtain ⟨i, hi, hz, -, -⟩ := info_parts eInt.inf
  simp [zeroValue, typeInfo, hi, hz]

/-- Is a column one of the set? -/
def inSet (C i : Nat) : Bool := C / 2 ^ i % 2 == 1
/-- What stands in a run in the set's columns, the first t of them. -/
def keyUp (C : Nat) (r : List Int) (t : Nat) : List Int := (List.range 8).map fun i => if i < t ∧ inSet C i = true then nth r i else 0
def keyOf8 (C : Nat) (r : List Int) : List Int := keyUp C r r.length
theorem keyUp_length (C : Nat) (r : List Int) (t : Nat) : (keyUp C r t).length = 8 := by simp [keyUp]
theorem nth_keyUp (C : Nat) (r : List Int) (t i : Nat) (hi : i < 8) : nth (keyUp C r t) i = if i < t ∧ inSet C i = true then nth r i else 0 := by
  rw [nth_eq _ _ (by rw [keyUp_length]; exact hi)]
  simp [keyUp]
theorem keyUp_zero (C : Nat) (r : List Int) : keyUp C r 0 = [0, 0, 0, 0, 0, 0, 0, 0] := by
  refine nth_ext _ _ (keyUp_length C r 0) fun j hj => ?_
  rw [keyUp_length] at hj
  rw [nth_keyUp C r 0 j hj, if_neg (by omega)]
  have : j = 0 ∨ j = 1 ∨ j = 2 ∨ j = 3 ∨ j = 4 ∨ j = 5 ∨ j = 6 ∨ j = 7 := by omega
  rcases this with rfl | rfl | rfl | rfl | rfl | rfl | rfl | rfl <;> rfl
theorem keyUp_in {C : Nat} {r : List Int} {t : Nat} (ht : t < 8) (hb : inSet C t = true) : keyUp C r (t + 1) = (keyUp C r t).set t (nth r t) := by
  refine nth_ext _ _ (by rw [List.length_set, keyUp_length, keyUp_length]) fun j hj => ?_
  rw [keyUp_length] at hj
  rw [nth_keyUp C r (t + 1) j hj]
  by_cases e : j = t
  · subst e
    rw [if_pos ⟨by omega, hb⟩, nth_eq ((keyUp C r j).set j (nth r j)) j (by rw [List.length_set, keyUp_length]; exact hj), List.getElem_set_self]
  · rw [nth_eq ((keyUp C r t).set t (nth r t)) j (by rw [List.length_set, keyUp_length]; exact hj), List.getElem_set_ne (fun h => e h.symm), ← nth_eq (keyUp C r t) j (by rw [keyUp_length]; exact hj), nth_keyUp C r t j hj]
    by_cases h : j < t
    · simp only [h, show j < t + 1 by omega, true_and]
    · rw [if_neg (by omega), if_neg (by omega)]
theorem keyUp_out {C : Nat} {r : List Int} {t : Nat} (ht : t < 8) (hb : inSet C t = false) : keyUp C r (t + 1) = keyUp C r t := by
  refine nth_ext _ _ (by rw [keyUp_length, keyUp_length]) fun j hj => ?_
  rw [keyUp_length] at hj
  rw [nth_keyUp C r (t + 1) j hj, nth_keyUp C r t j hj]
  by_cases e : j = t
  · subst e; rw [if_neg (by rw [hb]; simp), if_neg (by omega)]
  · by_cases h : j < t
    · simp only [h, show j < t + 1 by omega, true_and]
    · rw [if_neg (by omega), if_neg (by omega)]

/-- In how many of the first j runs a list stands. -/
def cntUp (xss : List (List Int)) (C : Nat) (key : List Int) : Nat → Nat
  | 0 => 0
  | j + 1 => cntUp xss C key j + if keyOf8 C (row xss j) = key then 1 else 0
theorem cntUp_le (xss : List (List Int)) (C : Nat) (key : List Int) : ∀ j, cntUp xss C key j ≤ j
  | 0 => Nat.le_refl _
  | j + 1 => by rw [cntUp]; have := cntUp_le xss C key j; split <;> omega
/-- The map's elements behind j runs. -/
def seenF (xss : List (List Int)) (C j : Nat) (key : List Int) : Option Int := if cntUp xss C key j = 0 then none else some (cntUp xss C key j)
theorem seenF_get (xss : List (List Int)) (C j : Nat) (key : List Int) : (seenF xss C j key).getD 0 = cntUp xss C key j := by
  unfold seenF; split <;> simp [*]
theorem seenF_succ (xss : List (List Int)) (C j : Nat) : put (seenF xss C j) (keyOf8 C (row xss j)) ((seenF xss C j (keyOf8 C (row xss j))).getD 0 + 1) = seenF xss C (j + 1) := by
  funext key
  rw [seenF_get]
  unfold put seenF
  rw [cntUp]
  by_cases h : key = keyOf8 C (row xss j)
  · rw [if_pos h, h, if_pos rfl, if_neg (by omega)]; simp
  · rw [if_neg h, if_neg (show ¬ keyOf8 C (row xss j) = key from fun e => h e.symm), Nat.add_zero]

theorem bit_test (C i : Nat) (hC : C < 256) (hi : i < 8) : (bits .and .i64 ((C : Int) / 2 ^ i) 1 == 1) = inSet C i := by
  have h : ∀ C : Nat, C < 256 → ∀ i : Nat, i < 8 → (bits .and .i64 ((C : Int) / 2 ^ i) 1 == 1) = inSet C i := by decide +kernel
  exact h C hC i hi

theorem keyUp_in64 {C : Nat} {r : List Int} {t : Nat} (h : ∀ x ∈ r, 0 ≤ x ∧ x ≤ 64) : InI (keyUp C r t) := fun x hx => by
  unfold keyUp at hx
  obtain ⟨i, hi, rfl⟩ := List.mem_map.1 hx
  have hb : 0 ≤ (if i < t ∧ inSet C i = true then nth r i else 0) ∧ (if i < t ∧ inSet C i = true then nth r i else 0) ≤ 64 := by
    split
    · by_cases h2 : i < r.length
      · exact h _ (nth_mem r i h2)
      · unfold nth; simp [List.getElem?_eq_none (show r.length ≤ i by omega)]
    · omega
  simp only [Lit.wf, IntKind.min, IntKind.max, IntKind.signed, IntKind.bits]
  simp; omega
theorem Ext.grown {w wr w' : World} {b : Nat} (h : Ext w wr) (hg : wr.grownBy w' (some b)) (hb : w.heap.size ≤ b) : Ext w w' :=
  Below.grown h hg h.size (fun k hk => by cases hk; exact hb)
/-- The keys, each once. -/
def keysUp (xss : List (List Int)) (C : Nat) : Nat → List (List Int)
  | 0 => []
  | j + 1 => if keyOf8 C (row xss j) ∈ keysUp xss C j then keysUp xss C j else keysUp xss C j ++ [keyOf8 C (row xss j)]
theorem keysUp_mem (xss : List (List Int)) (C : Nat) (key : List Int) : ∀ j, key ∈ keysUp xss C j ↔ ∃ i, i < j ∧ keyOf8 C (row xss i) = key
  | 0 => by simp [keysUp]
  | j + 1 => by
    rw [keysUp]
    have ih := keysUp_mem xss C key j
    have hs : (∃ i, i < j + 1 ∧ keyOf8 C (row xss i) = key) ↔ (∃ i, i < j ∧ keyOf8 C (row xss i) = key) ∨ keyOf8 C (row xss j) = key := by
      constructor
      · rintro ⟨i, hi, he⟩
        rcases Nat.lt_succ_iff_lt_or_eq.1 hi with h | rfl
        · exact .inl ⟨i, h, he⟩
        · exact .inr he
      · rintro (⟨i, hi, he⟩ | he)
        · exact ⟨i, by omega, he⟩
        · exact ⟨j, by omega, he⟩
    rw [hs, ← ih]
    split
    · rename_i hm
      constructor
      · exact .inl
      · rintro (h | rfl)
        · exact h
        · exact hm
    · rw [List.mem_append, List.mem_singleton]
      constructor
      · rintro (h | h)
        · exact .inl h
        · exact .inr h.symm
      · rintro (h | h)
        · exact .inl h
        · exact .inr h.symm
theorem keysUp_nodup (xss : List (List Int)) (C : Nat) : ∀ j, (keysUp xss C j).Nodup
  | 0 => List.nodup_nil
  | j + 1 => by
    rw [keysUp]
    have ih := keysUp_nodup xss C j
    split
    · exact ih
    · rename_i hm
      exact List.nodup_append.2 ⟨ih, by simp, fun a ha c hc e => by
        rw [List.mem_singleton] at hc
        exact hm (hc ▸ e ▸ ha)⟩
theorem cntUp_pos (xss : List (List Int)) (C : Nat) (key : List Int) : ∀ j, cntUp xss C key j ≠ 0 ↔ ∃ i, i < j ∧ keyOf8 C (row xss i) = key
  | 0 => by simp [cntUp]
  | j + 1 => by
    rw [cntUp]
    have ih := cntUp_pos xss C key j
    by_cases h : keyOf8 C (row xss j) = key
    · rw [if_pos h]
      exact ⟨fun _ => ⟨j, by omega, h⟩, fun _ => by omega⟩
    · rw [if_neg h, Nat.add_zero, ih]
      constructor
      · rintro ⟨i, hi, he⟩; exact ⟨i, by omega, he⟩
      · rintro ⟨i, hi, he⟩
        rcases Nat.lt_succ_iff_lt_or_eq.1 hi with h' | rfl
        · exact ⟨i, h', he⟩
        · exact absurd he h
theorem seenF_some (xss : List (List Int)) (C : Nat) (key : List Int) (j : Nat) : (seenF xss C j key).isSome = true ↔ key ∈ keysUp xss C j := by
  rw [keysUp_mem, ← cntUp_pos]
  unfold seenF
  split <;> simp [*]
theorem one_hit {a : List Int} : ∀ {D : List (List Int)}, D.Nodup → a ∈ D → (D.map fun x => if a = x then 1 else 0).sum = 1
  | [], _, h => by simp at h
  | b :: D, hn, h => by
    rw [List.nodup_cons] at hn
    rw [List.map_cons, List.sum_cons]
    by_cases e : a = b
    · subst e
      rw [if_pos rfl]
      have : (D.map fun x => if a = x then 1 else 0) = D.map fun _ => 0 := List.map_congr_left fun x hx => if_neg (show ¬ a = x from fun e => hn.1 (e ▸ hx))
      rw [this]
      have h0 : ∀ D : List (List Int), (D.map fun _ => 0).sum = 0 := fun D => by
        induction D with
        | nil => rfl
        | cons c D ih => rw [List.map_cons, List.sum_cons, ih]
      rw [h0]
    · rw [if_neg e, one_hit hn.2 ((List.mem_cons.1 h).resolve_left e)]
theorem sum_add (f g : List Int → Nat) : ∀ D : List (List Int), (D.map fun x => f x + g x).sum = (D.map f).sum + (D.map g).sum
  | [] => rfl
  | b :: D => by simp only [List.map_cons, List.sum_cons, sum_add f g D]; omega
theorem cnt_sum (xss : List (List Int)) (C : Nat) {D : List (List Int)} (hD : D.Nodup) : ∀ j, (∀ i, i < j → keyOf8 C (row xss i) ∈ D) → (D.map fun x => cntUp xss C x j).sum = j
  | 0, _ => by
    have h0 : ∀ D : List (List Int), (D.map fun x => cntUp xss C x 0).sum = 0 := fun D => by
      induction D with
      | nil => rfl
      | cons c D ih => rw [List.map_cons, List.sum_cons, ih]; rfl
    exact h0 D
  | j + 1, h => by
    have ih := cnt_sum xss C hD j (fun i hi => h i (by omega))
    have e := sum_add (fun x => cntUp xss C x j) (fun x => if keyOf8 C (row xss j) = x then 1 else 0) D
    rw [one_hit hD (h j (by omega)), ih] at e
    exact e
theorem keys_all {xss : List (List Int)} {C n L : Nat} (hn : 1 ≤ n) (h : ∀ i, i < n → cntUp xss C (keyOf8 C (row xss i)) n * L = n) : (keysUp xss C n).length = L := by
  have h1 := cnt_sum xss C (keysUp_nodup xss C n) n (fun i hi => (keysUp_mem xss C _ n).2 ⟨i, hi, rfl⟩)
  have h2 : ∀ D : List (List Int), (∀ x ∈ D, cntUp xss C x n * L = n) → (D.map fun x => cntUp xss C x n).sum * L = D.length * n := fun D => by
    induction D with
    | nil => intro _; simp
    | cons c D ih =>
      intro hd
      rw [List.map_cons, List.sum_cons, Nat.add_mul, ih (fun x hx => hd x (by simp [hx])), hd c (by simp), List.length_cons, Nat.succ_mul, Nat.add_comm]
  have h3 := h2 (keysUp xss C n) (fun x hx => by
    obtain ⟨i, hi, rfl⟩ := (keysUp_mem xss C x n).1 hx
    exact h i hi)
  rw [h1, Nat.mul_comm] at h3
  exact (Nat.eq_of_mul_eq_mul_right hn h3).symm

/-- A round's world. -/
structure AlSt (w wr : World) (mb j : Nat) (xss : List (List Int)) (C : Nat) : Prop where
  ext : Ext w wr
  map : KMap Tryd.prog 83 3 8 wr mb j (seenF xss C j)
  m0 : w.heap.size ≤ mb

set_option maxHeartbeats 4000000 in
theorem alike_any (S C : Nat) (ao : Option Addr) (n cap : Nat) (xss : List (List Int)) (w : World) (hl : xss.length = n) (hr : ReadsL w ao xss) (hR : IsRuns S xss) (hC : C < 256) :
    Calls Tryd.prog 34 #[.int .i64 S, .slice ao n cap, .int .i64 C] w fun e w' =>
      ∃ v : Bool, e = .returned (.bool v) ∧ (v = true ↔ S ^ onesOf C ≤ n ∧ ∀ i, i < n → cntUp xss C (keyOf8 C (row xss i)) n * S ^ onesOf C = n) ∧ Ext w w' := by
  obtain ⟨b, off, rfl, hb, hc⟩ := hr.row (by have := hR.n1; omega)
  have HCC := Lib.hid hc
  have HL := Lib.hid hl
  have HR := Lib.hid hR
  have hs2 := hR.s2
  have hs64 := hR.s64
  have hk8 := hR.k8
  have h128 := hR.n128
  have h1n := hR.n1
  rw [hl] at h128 h1n
  obtain ⟨k, hk⟩ : ∃ k, (row xss 0).length = k := ⟨_, rfl⟩
  have HK := Lib.hid hk
  rw [hk] at hk8
  have HON := Lib.hid (fun w => ones_any C w hC)
  have hpop : onesOf C ≤ 8 := by
    have h : ∀ C, C < 256 → onesOf C ≤ 8 := by decide +kernel
    exact h C hC
  obtain ⟨p, hp⟩ : ∃ p, onesOf C = p := ⟨_, rfl⟩
  rw [hp] at HON hpop ⊢
  have hmm := @run_makeMap Tryd.prog
  clear hl hr hc hR hk hp
  go_enter Tryd.func34, Tryd.ntmps34
  go_wp2_with (go_at_call 33; refine Calls.mono (HON.out _) ?_; rintro e w' ⟨rfl, rfl⟩)
  go_loopw [7, 19] (fun y a wr => ∃ (i L : Nat), i ≤ p ∧ a = .int .i64 i ∧ y = .int .i64 L ∧ L ≤ n ∧ Hid (L = S ^ i) ∧ wr = w) (fun _ a _ => p - (intOf a).toNat)
  case atStart => exact ⟨0, 1, by omega, rfl, rfl, by omega, by show _ = _; simp, rfl⟩
  case round =>
    obtain ⟨i, L, hi, rfl, rfl, hLn, HLS, rfl⟩ := hrel
    by_cases hin : i < p
    · have HLS2 : Hid (L * S = S ^ (i + 1)) := by show _ = _; rw [Nat.pow_succ, HLS.out]
      have hLS : L * S ≤ 128 * 64 := Nat.mul_le_mul (by omega) (by omega)
      obtain ⟨L2, hL2⟩ : ∃ L2, L * S = L2 := ⟨_, rfl⟩
      have hL2' : (L : Int) * (S : Int) = L2 := by rw [← hL2, Int.natCast_mul]
      rw [hL2] at hLS HLS2
      clear hL2
      by_cases hbig : n < L2
      · have HNO : Hid (¬ S ^ p ≤ n) := fun h => by
          have h1 : S ^ (i + 1) ≤ S ^ p := Nat.pow_le_pow_right (by omega) (by omega)
          rw [← HLS2.out] at h1
          omega
        go_wp2
        go_ret
        exact ⟨false, rfl, by simp [HNO.out], Ext.refl _⟩
      · go_wp2
        go_roundw
        case rel => exact ⟨i + 1, L2, by omega, by go_num, rfl, by omega, HLS2, trivial⟩
        case measure => simp [intOf] <;> omega
    · obtain rfl : p = i := by omega
      clear HON
      obtain ⟨w0, rfl⟩ : ∃ w0 : World, w0 = wr := ⟨_, rfl⟩
      go_wp2
      have H0 : Hid (AlSt w0 (w0.alloc (.map #[] 0)) w0.heap.size 0 xss C) := ⟨(Ext.refl w0).alloc _, (KMap.made w0).congr (fun xs _ _ => by simp [seenF, cntUp]), Nat.le_refl _⟩
      obtain ⟨mb, hmb⟩ : ∃ mb, mb = w0.heap.size := ⟨_, rfl⟩
      obtain ⟨w1, hw1⟩ : ∃ w1, w1 = w0.alloc (.map #[] 0) := ⟨_, rfl⟩
      rw [← hw1, ← hmb] at H0 ⊢
      clear hw1 hmb hmm
      go_loopw [32] (fun a wr => ∃ j : Nat, j ≤ n ∧ a = .int .i64 j ∧ AlSt w0 wr mb j xss C) (fun a _ => n - (intOf a).toNat)
      case atStart => exact ⟨0, by omega, rfl, H0.out⟩
      case round =>
        obtain ⟨j, hj, rfl, hst⟩ := hrel
        have HJ := Lib.hid hst
        clear hst H0
        by_cases hjn : j < n
        · obtain ⟨a, q, c1, r1, _⟩ := HCC.out j (by rw [HL.out]; exact hjn)
          have hlen := HR.out.len j (by rw [HL.out]; exact hjn)
          rw [HK.out] at hlen
          rw [hlen] at c1
          have hk1 := HR.out.k1
          rw [HK.out] at hk1
          obtain ⟨b3, o3, rfl, hb3, hc3⟩ := Reads.int r1 (by rw [hlen]; omega)
          have c2 := (HJ.out.ext.cell hb).trans c1
          have hj0 := HJ.out.ext.size
          have HSUC := Lib.hid (seenF_succ xss C j)
          obtain ⟨xs, hxs⟩ : ∃ xs, row xss j = xs := ⟨_, rfl⟩
          have hlev := HR.out.lev j (by rw [HL.out]; exact hjn)
          rw [hxs] at hc3 HSUC hlen hlev
          have HLEV : Hid (∀ x ∈ xs, 0 ≤ x ∧ x ≤ 64) := fun x hx => by have := hlev x hx; omega
          have HC3 := Lib.hid hc3
          have HLEN := Lib.hid hlen
          clear c1 r1 hlen hxs hc3 hlev
          obtain ⟨wo, rfl⟩ : ∃ wo : World, wo = wr := ⟨_, rfl⟩
          go_wp2
          have HI0 : Hid (RowOf 83 (wo.alloc (.cells #[.int .i64 0, .int .i64 0, .int .i64 0, .int .i64 0, .int .i64 0, .int .i64 0, .int .i64 0, .int .i64 0] 83)) wo.heap.size (some ⟨wo.heap.size, 0, none⟩) 8 8 (ints (keyUp C xs 0)) ∧ Ext wo (wo.alloc (.cells #[.int .i64 0, .int .i64 0, .int .i64 0, .int .i64 0, .int .i64 0, .int .i64 0, .int .i64 0, .int .i64 0] 83))) :=
            ⟨by rw [keyUp_zero]; exact RowOf.lit _ _ _ (by decide), (Ext.refl wo).alloc _⟩
          obtain ⟨lb, hlb⟩ : ∃ lb, lb = wo.heap.size := ⟨_, rfl⟩
          obtain ⟨w2, hw2⟩ : ∃ w2, w2 = wo.alloc (.cells #[.int .i64 0, .int .i64 0, .int .i64 0, .int .i64 0, .int .i64 0, .int .i64 0, .int .i64 0, .int .i64 0] 83) := ⟨_, rfl⟩
          rw [← hw2, ← hlb] at HI0
          rw [← hw2, ← hlb]
          have HLB := Lib.hid hlb
          clear hw2 hlb c2
          go_loopw [38] (fun a wi => ∃ t : Nat, t ≤ k ∧ a = .int .i64 t ∧ RowOf 83 wi lb (some ⟨lb, 0, none⟩) 8 8 (ints (keyUp C xs t)) ∧ Ext wo wi) (fun a _ => k - (intOf a).toNat)
          case atStart => exact ⟨0, by omega, rfl, HI0.out.1, HI0.out.2⟩
          case round =>
            obtain ⟨t, htk, rfl, hrow, hxt⟩ := hrel
            have HROW := Lib.hid hrow
            have HXT := Lib.hid hxt
            obtain ⟨_, hlt, hkc, hkf⟩ := hrow.known
            clear hrow hxt HI0
            by_cases htl : t < k
            · have c3 := ((HJ.out.ext.trans HXT.out).cell hb3).trans (HC3.out t (by rw [HLEN.out]; exact htl))
              have hkt := hkc t _ (ints_get (keyUp C xs t) t (by rw [keyUp_length]; omega))
              have hkf' := hkf t
              have hbt := bit_test C t hC (by omega)
              obtain ⟨x, hx⟩ : ∃ x, nth xs t = x := ⟨_, rfl⟩
              have HIN : Hid (inSet C t = true → keyUp C xs (t + 1) = (keyUp C xs t).set t x) := fun h => by rw [← hx]; exact keyUp_in (by omega) h
              have HOUT : Hid (inSet C t = false → keyUp C xs (t + 1) = keyUp C xs t) := fun h => keyUp_out (by omega) h
              rw [hx] at c3
              clear hx hkc hkf
              cases hbb : inSet C t with
              | true =>
                rw [hbb] at hbt
                have HV := Lib.hid (HIN.out hbb)
                clear hbb
                go_wp2
                go_roundw
                case rel => exact ⟨t + 1, by omega, by go_num, by rw [HV.out, ← ints_set]; exact HROW.out.stored t _, HXT.out.set (by rw [HLB.out]; exact Nat.le_refl _) _⟩
                case measure => simp [intOf] <;> omega
              | false =>
                rw [hbb] at hbt
                have HV := Lib.hid (HOUT.out hbb)
                clear hbb
                go_wp2
                go_roundw
                case rel => exact ⟨t + 1, by omega, by go_num, by rw [HV.out]; exact HROW.out, HXT.out⟩
                case measure => simp [intOf] <;> omega
            · obtain rfl : k = t := by omega
              obtain ⟨ks, hks⟩ : ∃ ks, keyUp C xs k = ks := ⟨_, rfl⟩
              have hkey : keyOf8 C xs = ks := by unfold keyOf8; rw [HLEN.out]; exact hks
              have hkl : ks.length = 8 := by rw [← hks]; exact keyUp_length _ _ _
              have hki : InI ks := by
                rw [← hks]
                exact keyUp_in64 HLEV.out
              have hcb : 0 ≤ (seenF xss C j ks).getD 0 ∧ (seenF xss C j ks).getD 0 ≤ 128 := by
                rw [seenF_get]
                have := cntUp_le xss C ks j
                omega
              rw [hks] at hkc
              rw [hkey] at HSUC
              have hmp : KMap Tryd.prog 83 3 8 wr.drew mb j (seenF xss C j) := HJ.out.map.kept (row := none) ⟨HXT.out.drew.os, HXT.out.drew.tape, HXT.out.drew.output, HXT.out.drew.size, fun k hk _ => HXT.out.drew.block k hk⟩ (by simp)
              obtain ⟨v0, st, w3, w4, e1, e2, g1, e3, e4, g2, hm4⟩ := hmp.bump kty law8 mapTy zeroInt (by unfold maxLen; omega) ks hkl hki (by simp [Lit.wf, IntKind.min, IntKind.max, IntKind.signed, IntKind.bits]; omega)
              have hlne : lb ≠ mb := by
                have h1 := HJ.out.map.lt
                have h2 := HLB.out
                omega
              have hc0 := fun i (hi : i < 8) => hkc i _ (ints_get ks i (by omega))
              have hc1 : ∀ i, i < 8 → w3.cell? ⟨lb, i, none⟩ = some (.int .i64 (nth ks i)) := fun i hi => by
                have h1 := hc0 i hi
                simp only [World.cell?] at h1 ⊢
                rw [g1.block lb hlt (by simpa using hlne)]
                exact h1
              have hkv : kval ks = .agg #[.int .i64 (nth ks 0), .int .i64 (nth ks 1), .int .i64 (nth ks 2), .int .i64 (nth ks 3), .int .i64 (nth ks 4), .int .i64 (nth ks 5), .int .i64 (nth ks 6), .int .i64 (nth ks 7)] := by
                match ks, hkl with
                | [a0, a1, a2, a3, a4, a5, a6, a7], _ => rfl
              rw [hkv] at e1 e2 e3
              rw [HSUC.out] at hm4
              obtain ⟨c, hc⟩ : ∃ c, (seenF xss C j ks).getD 0 = c := ⟨_, rfl⟩
              rw [hc] at e1 e3 e4 hcb
              have HM4 := Lib.hid hm4
              have HG2 := Lib.hid g2
              have q0 := hc0 0 (by omega)
              have q1 := hc0 1 (by omega)
              have q2 := hc0 2 (by omega)
              have q3 := hc0 3 (by omega)
              have q4 := hc0 4 (by omega)
              have q5 := hc0 5 (by omega)
              have q6 := hc0 6 (by omega)
              have q7 := hc0 7 (by omega)
              have p0 := hc1 0 (by omega)
              have p1 := hc1 1 (by omega)
              have p2 := hc1 2 (by omega)
              have p3 := hc1 3 (by omega)
              have p4 := hc1 4 (by omega)
              have p5 := hc1 5 (by omega)
              have p6 := hc1 6 (by omega)
              have p7 := hc1 7 (by omega)
              obtain ⟨hcb0, hcb1⟩ := hcb
              have hwr : IntKind.i64.wrap (c + 1) = c + 1 := IntWalk.i64_in _ (by omega)
              clear hc hkv hc0 hc1 hkc hkf hki hkl hks hkey hm4 g1 g2 hmp
              go_wp2_with fail
              go_region
              go_wp2
              go_roundw
              case rel => exact ⟨j + 1, by omega, by go_num, (HJ.out.ext.trans HXT.out.drew).grown HG2.out HJ.out.m0, HM4.out, HJ.out.m0⟩
              case measure => simp [intOf] <;> omega
        · obtain rfl : n = j := by omega
          have HLEN := Lib.hid (HJ.out.map.len kty (Keyed.of_law law8) mapTy (zeroInt wr) (keysUp_nodup xss C n) (fun xs hxs => by
            obtain ⟨i, hi, rfl⟩ := (keysUp_mem xss C xs n).1 hxs
            exact ⟨keyUp_length _ _ _, keyUp_in64 (fun x hx => by have := HR.out.lev i (by rw [HL.out]; exact hi) x hx; omega)⟩) (fun xs _ _ => seenF_some xss C xs n))
          obtain ⟨D, hD⟩ : ∃ D, (keysUp xss C n).length = D := ⟨_, rfl⟩
          rw [hD] at HLEN
          have hlen := HLEN.out
          have HDL := Lib.hid hD
          clear hD HLEN
          by_cases hdl : D = L
          · have b1 : ((D : Int) != (L : Int)) = false := by rw [hdl]; simp
            clear hdl
            have hml := HJ.out.map.lt
            go_wp2_with (first | (at_range; refine wpList_over _ (Keyed.of_law law8) rfl _ _ rfl mapTy mb n (seenF xss C n) rfl HJ.out.map ?_; intro w4 cnt hr4 hc4 hg4 hs4) | go_in)
            have HG : Hid (KRange Tryd.prog 83 3 8 w4 mb wr.heap.size (seenF xss C n) [] cnt ∧ Ext w0 w4 ∧ ∀ x ∈ ([] : List (List Int)), cntUp xss C x n * L = n) :=
              ⟨hr4, HJ.out.ext.trans ⟨hg4.os, hg4.tape, hg4.output, hg4.size, fun k hk => hg4.block k hk (by simp)⟩, by simp⟩
            go_frame
            obtain ⟨rb, hrb⟩ : ∃ rb, rb = wr.heap.size := ⟨_, rfl⟩
            rw [← hrb] at HG ⊢
            have HRB : Hid (mb < rb ∧ w0.heap.size ≤ rb) := by have h1 := HJ.out.ext.size; exact ⟨by omega, by omega⟩
            clear hrb hr4 hg4 hs4 hml hlen
            go_loopw [15] (fun _ wr => ∃ (done : List (List Int)) (cnt : Nat), KRange Tryd.prog 83 3 8 wr mb rb (seenF xss C n) done cnt ∧ Ext w0 wr ∧ ∀ x ∈ done, cntUp xss C x n * L = n) (fun _ w' => w'.rangeLeft mb rb)
            case atStart => exact ⟨[], cnt, HG.out⟩
            case round =>
              obtain ⟨done, cnt, hkr, hxe, hdone⟩ := hrel
              have HKR := Lib.hid hkr
              have HXE := Lib.hid hxe
              have HDN := Lib.hid hdone
              clear hkr hxe hdone HG
              go_wp2_with (first | (at_next; refine wpList_step _ kty (Keyed.of_law law8) rfl _ rfl mb rb (seenF xss C n) done cnt rfl HKR.out ?_ ?_) | go_in)
              · intro hall hnd
                have HA : Hid (S ^ p ≤ n ∧ ∀ i, i < n → cntUp xss C (keyOf8 C (row xss i)) n * S ^ p = n) := by
                  have h1 := HLS.out
                  refine ⟨by rw [← h1]; exact hLn, fun i hi => ?_⟩
                  rw [← h1]
                  exact HDN.out _ ((hall _ (keyUp_length _ _ _) (keyUp_in64 (fun x hx => by have := HR.out.lev i (by rw [HL.out]; exact hi) x hx; omega))).1 ((seenF_some xss C _ n).2 ((keysUp_mem xss C _ n).2 ⟨i, hi, rfl⟩)))
                clear hall hnd
                go_wp2
                go_ret
                exact ⟨true, rfl, ⟨fun _ => HA.out, fun _ => rfl⟩, HXE.out⟩
              · intro ps v w5 cnt' hl hi5 hfc hnd hr5 hlt hg hs hen
                have hpk := (seenF_some xss C ps n).1 (by rw [hfc]; rfl)
                obtain ⟨i0, hi0, hkp⟩ := (keysUp_mem xss C ps n).1 hpk
                obtain ⟨c, hc⟩ : ∃ c, cntUp xss C ps n = c := ⟨_, rfl⟩
                have hcle := cntUp_le xss C ps n
                obtain rfl : v = c := by
                  have h1 := seenF_get xss C n ps
                  rw [hfc, hc] at h1
                  exact h1
                rw [hc] at hcle
                have hcL : c * L ≤ 128 * 128 := Nat.mul_le_mul (by omega) (by omega)
                obtain ⟨m, hm⟩ : ∃ m, c * L = m := ⟨_, rfl⟩
                have hm' : (c : Int) * (L : Int) = m := by rw [← hm, Int.natCast_mul]
                rw [hm] at hcL
                have HM : Hid (cntUp xss C ps n * L = m) := by show _ = _; rw [hc, hm]
                have HKP := Lib.hid hkp
                have HKR5 := Lib.hid hr5
                have HXE5 := Lib.hid (HXE.out.grown hg HRB.out.2)
                clear hpk hc hm hfc hnd hr5 hg hl hi5 hkp
                by_cases hmn : m = n
                · have b2 : ((m : Int) != (n : Int)) = false := by rw [hmn]; simp
                  have HMN := Lib.hid hmn
                  clear hmn
                  go_wp2
                  go_roundw
                  case rel => exact ⟨done ++ [ps], cnt', HKR5.out, HXE5.out, fun x hx => by
                    rcases List.mem_append.1 hx with h | h
                    · exact HDN.out x h
                    · rw [List.mem_singleton] at h
                      rw [h, HM.out, HMN.out]⟩
                  case measure => exact Nat.lt_of_le_of_lt (Nat.le_of_eq HKR5.out.left_eq) (by rw [HKR.out.left_eq]; exact hlt)
                · have b2 : ((m : Int) != (n : Int)) = true := by rw [bne_iff_ne]; omega
                  have HNO : Hid (¬ ∀ i, i < n → cntUp xss C (keyOf8 C (row xss i)) n * S ^ p = n) := fun h => by
                    have h1 := h i0 hi0
                    rw [HKP.out, ← HLS.out, HM.out] at h1
                    exact hmn h1
                  clear hmn
                  go_wp2
                  go_ret
                  exact ⟨false, rfl, by simp only [Bool.false_eq_true, false_iff]; exact fun h => HNO.out h.2, HXE5.out⟩
          · have b1 : ((D : Int) != (L : Int)) = true := by rw [bne_iff_ne]; omega
            have HNO : Hid (¬ ∀ i, i < n → cntUp xss C (keyOf8 C (row xss i)) n * S ^ p = n) := fun h => by
              rw [← HLS.out] at h
              exact hdl (by rw [← HDL.out]; exact keys_all (by omega) h)
            clear hdl
            go_wp2
            go_ret
            exact ⟨false, rfl, by simp only [Bool.false_eq_true, false_iff]; exact fun h => HNO.out h.2, HJ.out.ext⟩

end Go.Proofs.YtnhdngnolepkcaaDoor

/- What array.Strength answers at any runs. -/
namespace Go.Proofs.YtnhdngnolepkcaaDoor
open Go.RowKit Go.Maps

/-- All lists stand alike often in the columns of a set. -/
def AlikeP (S : Nat) (xss : List (List Int)) (C : Nat) : Prop := S ^ onesOf C ≤ xss.length ∧ ∀ i, i < xss.length → cntUp xss C (keyOf8 C (row xss i)) xss.length * S ^ onesOf C = xss.length
/-- The strength. -/
def StrengthIs (S : Nat) (xss : List (List Int)) (t : Nat) : Prop :=
  t ≤ (row xss 0).length ∧ (∀ C, C < 2 ^ (row xss 0).length → 1 ≤ onesOf C → onesOf C ≤ t → AlikeP S xss C) ∧ (t = (row xss 0).length ∨ ∃ C, C < 2 ^ (row xss 0).length ∧ onesOf C = t + 1 ∧ ¬ AlikeP S xss C)
theorem StrengthIs.one {S : Nat} {xss : List (List Int)} {t u : Nat} (h : StrengthIs S xss t) (k : StrengthIs S xss u) : t = u := by
  obtain ⟨h1, h2, h3⟩ := h
  obtain ⟨k1, k2, k3⟩ := k
  rcases Nat.lt_trichotomy t u with hlt | hlt | hlt
  · rcases h3 with h3 | ⟨C, c1, c2, c3⟩
    · omega
    · exact absurd (k2 C c1 (by omega) (by omega)) c3
  · exact hlt
  · rcases k3 with k3 | ⟨C, c1, c2, c3⟩
    · omega
    · exact absurd (h2 C c1 (by omega) (by omega)) c3

set_option maxHeartbeats 1000000 in
theorem strength_bad (s : Int) (ao : Option Addr) (n cap : Nat) (xss : List (List Int)) (c : Int) (w : World) (hl : xss.length = n) (hbig : n ≤ maxLen) (hr : ReadsL w ao xss) (hc : RunsAre s xss c) (h0 : c ≠ 0) :
    Calls Tryd.prog 15 #[.int .i64 s, .slice ao n cap] w fun e w' => e = .returned (.tuple #[.int .i64 0, .int .i64 c]) ∧ Ext w w' := by
  have HC := Lib.hid (runsCheck_any s ao n cap xss w hl hbig hr)
  have HP := Lib.hid hc
  have b1 : (c != 0) = true := by rw [bne_iff_ne]; exact h0
  clear hl hr hc h0
  go_enter Tryd.func15, Tryd.ntmps15
  go_wp2_with (go_at_call 32; refine HC.out.mono ?_; rintro e w1 ⟨c', rfl, hca, hx⟩; obtain rfl := HP.out.one hca; have HX := Lib.hid hx; clear hx hca)
  exact bodyPost_ret (v := .tuple #[.int .i64 0, .int .i64 c]) (by simp [results, Tryd.results15, go_sem]) rfl ⟨rfl, HX.out⟩

set_option maxHeartbeats 4000000 in
set_option maxRecDepth 100000 in
theorem strength_ok (S : Nat) (ao : Option Addr) (n cap : Nat) (xss : List (List Int)) (w : World) (hl : xss.length = n) (hbig : n ≤ maxLen) (hr : ReadsL w ao xss) (hz : RunsAre S xss 0) :
    Calls Tryd.prog 15 #[.int .i64 S, .slice ao n cap] w fun e w' => ∃ t : Nat, e = .returned (.tuple #[.int .i64 t, .int .i64 0]) ∧ StrengthIs S xss t ∧ Ext w w' := by
  have hR := hz.zero
  have HC := Lib.hid (runsCheck_any S ao n cap xss w hl hbig hr)
  have HP := Lib.hid hz
  have HAL : Hid (∀ (C : Nat) (w' : World), C < 256 → Ext w w' → Calls Tryd.prog 34 #[.int .i64 S, .slice ao n cap, .int .i64 C] w' fun e w'' => ∃ v : Bool, e = .returned (.bool v) ∧ (v = true ↔ AlikeP S xss C) ∧ Ext w' w'') := fun C w' hC hx => by
    have h := alike_any S C ao n cap xss w' hl (hr.ext hx) hR hC
    unfold AlikeP
    rw [hl]
    exact h
  obtain ⟨b, off, a0, q0, rfl, hb, hc⟩ := hR.first hr
  have hk8 := hR.k8
  have hk1 := hR.k1
  have h128 := hR.n128
  have h1n := hR.n1
  rw [hl] at h128 h1n
  obtain ⟨k, hk⟩ : ∃ k, (row xss 0).length = k := ⟨_, rfl⟩
  have HS : Hid (∀ t, (t ≤ k ∧ (∀ C, C < 2 ^ k → 1 ≤ onesOf C → onesOf C ≤ t → AlikeP S xss C) ∧ (t = k ∨ ∃ C, C < 2 ^ k ∧ onesOf C = t + 1 ∧ ¬ AlikeP S xss C)) → StrengthIs S xss t) := fun t h => by
    unfold StrengthIs; rw [hk]; exact h
  rw [hk] at hk8 hk1 hc
  have HON : Hid (∀ (C : Nat) (w' : World), C < 256 → Calls Tryd.prog 33 #[.int .u64 C] w' fun e w'' => e = .returned (.int .i64 (onesOf C)) ∧ w' = w'') := fun C w' hC => ones_any C w' hC
  have hpow : 2 ^ k ≤ 256 := by
    have : 2 ^ k ≤ 2 ^ 8 := Nat.pow_le_pow_right (by omega) hk8
    omega
  have HPOS : Hid (∀ C, C < 2 ^ k → onesOf C ≤ 8) := fun C hC => by
    have h : ∀ C, C < 256 → onesOf C ≤ 8 := by decide +kernel
    exact h C (by omega)
  obtain ⟨K2, hK2⟩ : ∃ K2, 2 ^ k = K2 := ⟨_, rfl⟩
  rw [hK2] at HS hpow HPOS
  have hK2' : (2 : Int) ^ k = (K2 : Int) := by rw [← hK2]; simp
  clear hl hr hz hR hk hK2
  go_enter Tryd.func15, Tryd.ntmps15
  go_wp2_with (go_at_call 32; refine HC.out.mono ?_; rintro e w1 ⟨c', rfl, hca, hx⟩; obtain rfl := hca.one HP.out; have HX := Lib.hid hx; have c1 := (hx.cell hb).trans hc; clear hx hca)
  clear c1 hc
  go_loopw [8] (fun a wr => ∃ t : Nat, 1 ≤ t ∧ t ≤ k + 1 ∧ a = .int .i64 t ∧ Ext w wr ∧ Hid (∀ C, C < K2 → 1 ≤ onesOf C → onesOf C < t → AlikeP S xss C)) (fun a _ => k + 1 - (intOf a).toNat)
  case atStart => exact ⟨1, by omega, by omega, by go_num, HX.out, fun C _ h1 h2 => by omega⟩
  case round =>
    obtain ⟨t, ht1, htk, rfl, hx, HA⟩ := hrel
    have HX2 := Lib.hid hx
    clear hx HX
    by_cases htl : t ≤ k
    · obtain ⟨wo, rfl⟩ : ∃ wo : World, wo = wr := ⟨_, rfl⟩
      go_wp2
      go_loopw [27] (fun a wr => ∃ C : Nat, C ≤ K2 ∧ a = .int .i64 C ∧ Ext w wr ∧ Hid (∀ D, D < C → onesOf D = t → AlikeP S xss D)) (fun a _ => K2 - (intOf a).toNat)
      case atStart => exact ⟨0, by omega, by go_num, HX2.out, fun D h => by omega⟩
      case round =>
        obtain ⟨C, hCK, rfl, hx, HD⟩ := hrel
        have HX3 := Lib.hid hx
        clear hx HX2
        by_cases hCl : C < K2
        · have HO := Lib.hid (HON.out C wr (by omega))
          obtain ⟨p, hp⟩ : ∃ p, onesOf C = p := ⟨_, rfl⟩
          have HPE := Lib.hid hp
          rw [hp] at HO
          have hp8 := HPOS.out C hCl
          rw [hp] at hp8
          clear hp
          by_cases hpt : p = t
          · have b2 : ((p : Int) == (t : Int)) = true := by rw [hpt]; simp
            have HPT := Lib.hid hpt
            have HAC := Lib.hid (HAL.out C wr (by omega) HX3.out)
            clear hpt
            go_wp2_with (first
              | (go_at_call 33; refine Calls.mono HO.out ?_; rintro e w2 ⟨rfl, rfl⟩)
              | (go_at_call 34; refine Calls.mono HAC.out ?_; rintro e w2 ⟨v, rfl, hv, hx2⟩; have HV := Lib.hid hv; have HX4 := Lib.hid hx2; clear hv hx2; cases v))
            · exact bodyPost_ret (v := .tuple #[.int .i64 ((t : Int) - 1), .int .i64 0]) (by simp [results, Tryd.results15, go_sem]) rfl ⟨t - 1, by rw [show ((t - 1 : Nat) : Int) = (t : Int) - 1 by omega],
                HS.out (t - 1) ⟨by omega, fun D h1 h2 h3 => HA.out D h1 h2 (by omega), .inr ⟨C, hCl, by rw [HPE.out, HPT.out]; omega, fun h => by have := HV.out.2 h; simp at this⟩⟩, HX3.out.trans HX4.out⟩
            · go_roundw
              case rel => exact ⟨C + 1, by omega, by go_num, HX3.out.trans HX4.out, fun D hD1 hD2 => by
                rcases Nat.lt_succ_iff_lt_or_eq.1 hD1 with h | rfl
                · exact HD.out D h hD2
                · exact HV.out.1 (by simp)⟩
              case measure => simp [intOf] <;> omega
          · have b2 : ((p : Int) == (t : Int)) = false := by rw [beq_eq_false_iff_ne]; omega
            have HPT := Lib.hid hpt
            clear hpt
            go_wp2_with (go_at_call 33; refine Calls.mono HO.out ?_; rintro e w2 ⟨rfl, rfl⟩)
            go_roundw
            case rel => exact ⟨C + 1, by omega, by go_num, HX3.out, fun D hD1 hD2 => by
              rcases Nat.lt_succ_iff_lt_or_eq.1 hD1 with h | rfl
              · exact HD.out D h hD2
              · exact absurd (HPE.out.symm.trans hD2) HPT.out⟩
            case measure => simp [intOf] <;> omega
        · obtain rfl : K2 = C := by omega
          go_wp2
          go_roundw
          case rel => exact ⟨t + 1, by omega, by omega, by go_num, HX3.out, fun C h1 h2 h3 => by
            rcases Nat.lt_succ_iff_lt_or_eq.1 h3 with h | h
            · exact HA.out C h1 h2 h
            · exact HD.out C h1 h⟩
          case measure => simp [intOf] <;> omega
    · obtain rfl : t = k + 1 := by omega
      go_wp2
      exact bodyPost_ret (v := .tuple #[.int .i64 k, .int .i64 0]) (by simp [results, Tryd.results15, go_sem]) rfl ⟨k, rfl, HS.out k ⟨Nat.le_refl _, fun C h1 h2 h3 => HA.out C h1 h2 (by omega), .inl rfl⟩, HX2.out⟩

end Go.Proofs.YtnhdngnolepkcaaDoor
