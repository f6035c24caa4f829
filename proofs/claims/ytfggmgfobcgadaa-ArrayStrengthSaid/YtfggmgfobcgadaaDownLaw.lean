/- Runs without a column, and those of a level: their strength; plain. -/
import Derived.Test.YtfggmgfobcgadaaStrength
namespace Go.Proofs.Ytfggmgfobcgadaa
open Go.RowKit Go.Maps

theorem cntUp_list (xss : List (List Int)) (C : Nat) (key : List Int) : ∀ j, j ≤ xss.length → cntUp xss C key j = (xss.take j).countP (fun r => decide (keyOf8 C r = key))
  | 0, _ => by simp [cntUp]
  | j + 1, h => by
    rw [cntUp, cntUp_list xss C key j (by omega), List.take_add_one, List.getElem?_eq_getElem (show j < xss.length by omega), List.countP_append, row_eq _ _ (show j < xss.length by omega)]
    congr 1
    simp [List.countP_cons]
theorem alike_list {S : Nat} {xss : List (List Int)} {C : Nat} : AlikeP S xss C ↔ S ^ onesOf C ≤ xss.length ∧ ∀ r ∈ xss, xss.countP (fun x => decide (keyOf8 C x = keyOf8 C r)) * S ^ onesOf C = xss.length := by
  unfold AlikeP
  constructor
  · rintro ⟨h1, h2⟩
    refine ⟨h1, fun r hr => ?_⟩
    obtain ⟨i, hi, rfl⟩ := List.getElem_of_mem hr
    have h := h2 i hi
    rw [cntUp_list xss C _ _ (Nat.le_refl _), List.take_length, row_eq _ _ hi] at h
    exact h
  · rintro ⟨h1, h2⟩
    refine ⟨h1, fun i hi => ?_⟩
    rw [cntUp_list xss C _ _ (Nat.le_refl _), List.take_length, row_eq _ _ hi]
    exact h2 _ (List.getElem_mem hi)

/-- Two runs agree in a set of columns. -/
def Agree (C k : Nat) (r r' : List Int) : Prop := ∀ q, q < k → inSet C q = true → nth r q = nth r' q
theorem key_agree {C k : Nat} {r r' : List Int} (hk : k ≤ 8) (h : r.length = k) (h' : r'.length = k) : keyOf8 C r = keyOf8 C r' ↔ Agree C k r r' := by
  unfold keyOf8
  rw [h, h']
  constructor
  · intro he q hq hs
    have e1 := nth_keyUp C r k q (by omega)
    have e2 := nth_keyUp C r' k q (by omega)
    rw [if_pos ⟨hq, hs⟩] at e1 e2
    rw [← e1, ← e2, he]
  · intro ha
    refine nth_ext _ _ (by rw [keyUp_length, keyUp_length]) fun q hq => ?_
    rw [keyUp_length] at hq
    rw [nth_keyUp C r k q hq, nth_keyUp C r' k q hq]
    by_cases hc : q < k ∧ inSet C q = true
    · rw [if_pos hc, if_pos hc]; exact ha q hc.1 hc.2
    · rw [if_neg hc, if_neg hc]

/-- A set of columns, a column laid in that is not in it. -/
def ins (i C : Nat) : Nat := C % 2 ^ i + 2 ^ (i + 1) * (C / 2 ^ i)
def sh (i q : Nat) : Nat := if q < i then q else q + 1
theorem ins_facts : ∀ i, i < 8 → ∀ C, C < 128 → onesOf (ins i C) = onesOf C ∧ onesOf (ins i C + 2 ^ i) = onesOf C + 1 ∧ inSet (ins i C) i = false ∧ inSet (ins i C + 2 ^ i) i = true ∧ ∀ q, q < 7 → inSet (ins i C) (sh i q) = inSet C q ∧ inSet (ins i C + 2 ^ i) (sh i q) = inSet C q := by decide +kernel
theorem ins_lt : ∀ k, k < 9 → ∀ i, i < k → ∀ C, C < 2 ^ (k - 1) → ins i C + 2 ^ i < 2 ^ k := by decide +kernel
theorem one_set : ∀ i, i < 8 → onesOf (2 ^ i) = 1 ∧ ∀ q, q < 8 → inSet (2 ^ i) q = (q == i) := by decide +kernel

theorem nth_cut {r : List Int} {i q : Nat} (hi : i < r.length) (hq : q < r.length - 1) : nth (cut r i) q = nth r (sh i q) := by
  have hl := cut_length hi
  rw [nth_eq (cut r i) q (by omega)]
  unfold sh
  by_cases h : q < i
  · rw [if_pos h, nth_eq r q (by omega)]
    unfold cut
    rw [List.getElem_append_left (by simp; omega), List.getElem_take]
  · rw [if_neg h, nth_eq r (q + 1) (by omega)]
    unfold cut
    rw [List.getElem_append_right (by simp; omega), List.getElem_drop]
    congr 1
    simp; omega
theorem sh_back {i q : Nat} (h : q ≠ i) : ∃ p, sh i p = q ∧ (q < i → p = q) ∧ (i < q → p + 1 = q) := by
  by_cases hlt : q < i
  · exact ⟨q, by unfold sh; rw [if_pos hlt], fun _ => rfl, fun h => by omega⟩
  · exact ⟨q - 1, by unfold sh; rw [if_neg (by omega)]; omega, fun h => by omega, fun _ => by omega⟩

theorem agree_cut {i C k : Nat} {r r' : List Int} (hk : k ≤ 8) (hi : i < k) (hC : C < 128) (h : r.length = k) (h' : r'.length = k) : Agree C (k - 1) (cut r i) (cut r' i) ↔ Agree (ins i C) k r r' := by
  obtain ⟨_, _, f3, _, f5⟩ := ins_facts i (by omega) C hC
  constructor
  · intro ha q hq hs
    by_cases hqi : q = i
    · rw [hqi, f3] at hs; simp at hs
    · obtain ⟨p, h1, h2, h3⟩ := sh_back hqi
      have hp : p < k - 1 := by
        rcases Nat.lt_or_gt_of_ne hqi with h4 | h4
        · rw [h2 h4]; omega
        · have := h3 h4; omega
      have h4 := ha p hp (by rw [← (f5 p (by omega)).1, h1]; exact hs)
      rw [nth_cut (by omega) (by omega), nth_cut (by omega) (by omega), h1] at h4
      exact h4
  · intro ha q hq hs
    rw [nth_cut (by omega) (by omega), nth_cut (by omega) (by omega)]
    refine ha _ (by unfold sh; split <;> omega) (by rw [(f5 q (by omega)).1]; exact hs)
theorem agree_lev {i C k : Nat} {r r' : List Int} (hk : k ≤ 8) (hi : i < k) (hC : C < 128) (h : r.length = k) (h' : r'.length = k) : Agree (ins i C + 2 ^ i) k r r' ↔ Agree C (k - 1) (cut r i) (cut r' i) ∧ nth r i = nth r' i := by
  obtain ⟨_, _, f3, f4, f5⟩ := ins_facts i (by omega) C hC
  constructor
  · intro ha
    refine ⟨fun q hq hs => ?_, ha i hi f4⟩
    rw [nth_cut (by omega) (by omega), nth_cut (by omega) (by omega)]
    exact ha _ (by unfold sh; split <;> omega) (by rw [(f5 q (by omega)).2]; exact hs)
  · rintro ⟨ha, he⟩ q hq hs
    by_cases hqi : q = i
    · rw [hqi]; exact he
    · obtain ⟨p, h1, h2, h3⟩ := sh_back hqi
      have hp : p < k - 1 := by
        rcases Nat.lt_or_gt_of_ne hqi with h4 | h4
        · rw [h2 h4]; omega
        · have := h3 h4; omega
      have h4 := ha p hp (by rw [← (f5 p (by omega)).2, h1]; exact hs)
      rw [nth_cut (by omega) (by omega), nth_cut (by omega) (by omega), h1] at h4
      exact h4

theorem IsRuns.row {s : Int} {xss : List (List Int)} (h : IsRuns s xss) {r : List Int} (hr : r ∈ xss) : r.length = (Go.Proofs.Ytfggmgfobcgadaa.row xss 0).length ∧ ∀ x ∈ r, 0 ≤ x ∧ x < s := by
  obtain ⟨i, hi, rfl⟩ := List.getElem_of_mem hr
  rw [← row_eq _ _ hi]
  exact ⟨h.len i hi, h.lev i hi⟩
theorem rowFault_ok {s : Int} {k : Nat} {r : List Int} (h : r.length = k) (h1 : 1 ≤ k) (h8 : k ≤ 8) (hx : ∀ x ∈ r, 0 ≤ x ∧ x < s) : rowFault s k r = 0 := by
  unfold rowFault
  rw [h, if_neg (by omega), if_neg]
  simp only [List.any_eq_true, not_exists, not_and, Bool.not_eq_true]
  intro x hm
  have := hx x hm
  unfold badAt
  rw [decide_eq_false (by omega), decide_eq_false (by omega)]
  rfl
theorem runs_zero {s : Int} {k : Nat} {yss : List (List Int)} (h2 : 2 ≤ s) (h64 : s ≤ 64) (n1 : 1 ≤ yss.length) (n128 : yss.length ≤ 128) (h1 : 1 ≤ k) (h8 : k ≤ 8) (hr : ∀ r ∈ yss, r.length = k ∧ ∀ x ∈ r, 0 ≤ x ∧ x < s) : RunsAre s yss 0 ∧ (row yss 0).length = k := by
  have hk : (row yss 0).length = k := by rw [row_eq _ _ (by omega)]; exact (hr _ (List.getElem_mem _)).1
  refine ⟨.inr (.inr (.inr ⟨h2, h64, n1, n128, .inr ⟨fun i hi => ?_, rfl⟩⟩)), hk⟩
  rw [hk, row_eq _ _ hi]
  obtain ⟨e1, e2⟩ := hr _ (List.getElem_mem hi)
  exact rowFault_ok e1 h1 h8 e2
theorem mem_cut {r : List Int} {i : Nat} {x : Int} (h : x ∈ cut r i) : x ∈ r := by
  unfold cut at h
  rcases List.mem_append.1 h with h | h
  · exact List.mem_of_mem_take h
  · exact List.mem_of_mem_drop h

/-- The runs without a column. -/
theorem outs_all (i : Nat) (xss : List (List Int)) : outs (fun _ => true) i xss xss.length = xss.map fun r => cut r i := by
  unfold outs
  rw [List.take_length, List.filter_eq_self.2 (fun _ _ => rfl)]
theorem outs_lev (p : List Int → Bool) (i : Nat) (xss : List (List Int)) : outs p i xss xss.length = (xss.filter p).map fun r => cut r i := by
  unfold outs
  rw [List.take_length]

theorem drop_law {S i t u : Nat} {xss : List (List Int)} (hR : IsRuns S xss) (hi : i < (row xss 0).length) (h2 : 2 ≤ (row xss 0).length) (hs : StrengthIs S xss t) :
    RunsAre S (xss.map fun r => cut r i) 0 ∧ (StrengthIs S (xss.map fun r => cut r i) u → t ≤ u ∨ u = (row xss 0).length - 1) := by
  have hz := runs_zero (s := S) (k := (row xss 0).length - 1) (yss := xss.map fun r => cut r i) hR.s2 hR.s64 (by rw [List.length_map]; exact hR.n1) (by rw [List.length_map]; exact hR.n128) (by omega) (by have := hR.k8; omega) (fun r hr => by
    obtain ⟨r0, h0, rfl⟩ := List.mem_map.1 hr
    obtain ⟨e1, e2⟩ := hR.row h0
    exact ⟨by rw [cut_length (by omega), e1], fun x hx => e2 x (mem_cut hx)⟩)
  refine ⟨hz.1, ?_⟩
  rintro ⟨u1, u2, u3⟩
  rw [hz.2] at u1 u2 u3
  have hk8 := hR.k8
  obtain ⟨k, hk⟩ : ∃ k, (row xss 0).length = k := ⟨_, rfl⟩
  obtain ⟨t1, t2, t3⟩ := hs
  rw [hk] at u1 u2 u3 t1 t2 t3 hk8 hi h2 ⊢
  rcases u3 with u3 | ⟨C, c1, c2, c3⟩
  · exact .inr u3
  · by_cases htu : t ≤ u
    · exact .inl htu
    · exfalso
      have hC : C < 128 := by
        have : 2 ^ (k - 1) ≤ 2 ^ 7 := Nat.pow_le_pow_right (by omega) (by omega)
        omega
      obtain ⟨f1, _, _, _, _⟩ := ins_facts i (by omega) C hC
      have hlt := ins_lt k (by omega) i hi C c1
      have ha := alike_list.1 (t2 (ins i C) (Nat.lt_of_le_of_lt (Nat.le_add_right _ _) hlt) (by rw [f1]; omega) (by rw [f1]; omega))
      apply c3
      rw [alike_list, List.length_map]
      rw [f1] at ha
      refine ⟨ha.1, fun y hy => ?_⟩
      obtain ⟨r, hr, rfl⟩ := List.mem_map.1 hy
      rw [List.countP_map]
      rw [← ha.2 r hr]
      congr 1
      refine List.countP_congr fun x hx => ?_
      have ex := (hR.row hx).1
      have er := (hR.row hr).1
      rw [hk] at ex er
      simp only [Function.comp, decide_eq_true_iff]
      rw [key_agree (k := k - 1) (by omega) (by rw [cut_length (by omega), ex]) (by rw [cut_length (by omega), er]), agree_cut hk8 hi hC ex er, key_agree hk8 ex er]

/-- A key of one column. -/
theorem key_one {i : Nat} {r : List Int} (hi : i < r.length) (h8 : r.length ≤ 8) : keyOf8 (2 ^ i) r = (List.range 8).map fun q => if q = i then nth r i else 0 := by
  obtain ⟨_, f2⟩ := one_set i (by omega)
  unfold keyOf8 keyUp
  refine List.map_congr_left fun q hq => ?_
  have hq8 := List.mem_range.1 hq
  rw [f2 q hq8]
  by_cases h : q = i
  · subst h; rw [if_pos ⟨hi, by simp⟩, if_pos rfl]
  · rw [if_neg (by simp [h]), if_neg h]

theorem take_law {S i t u lv : Nat} {xss : List (List Int)} (hR : IsRuns S xss) (hi : i < (row xss 0).length) (h2 : 2 ≤ (row xss 0).length) (hs : StrengthIs S xss t) (hlv : lv < S) :
    ((xss.filter fun r => nth r i == (lv : Int)) = [] → t = 0) ∧ ((xss.filter fun r => nth r i == (lv : Int)) ≠ [] → RunsAre S ((xss.filter fun r => nth r i == (lv : Int)).map fun r => cut r i) 0 ∧
      (StrengthIs S ((xss.filter fun r => nth r i == (lv : Int)).map fun r => cut r i) u → t ≤ u + 1)) := by
  have hk8 := hR.k8
  have hn1 := hR.n1
  obtain ⟨k, hk⟩ : ∃ k, (row xss 0).length = k := ⟨_, rfl⟩
  obtain ⟨t1, t2, t3⟩ := hs
  obtain ⟨o1, o2⟩ := one_set i (by omega)
  have hrow : ∀ r ∈ xss, r.length = k := fun r hr => by rw [(hR.row hr).1, hk]
  rw [hk] at t1 t2 t3 hk8 hi h2
  have hpow : ∀ i, i < k → 2 ^ i < 2 ^ k := fun i hi => Nat.pow_lt_pow_right (by omega) hi
  have hone : 1 ≤ t → AlikeP S xss (2 ^ i) := fun ht => t2 (2 ^ i) (hpow i hi) (by omega) (by omega)
  constructor
  · intro he
    by_cases ht : t = 0
    · exact ht
    · exfalso
      have ha := hone (by omega)
      have hkeys := keys_all hn1 (C := 2 ^ i) (L := S) (fun j hj => by have := ha.2 j hj; rw [o1, Nat.pow_one] at this; exact this)
      have hle := nodup_len (keysUp xss (2 ^ i) xss.length) (((List.range S).filter (fun v => v != lv)).map fun (v : Nat) => (List.range 8).map fun q => if q = i then (v : Int) else 0) (keysUp_nodup _ _ _) (fun key hkey => by
        obtain ⟨j, hj, rfl⟩ := (keysUp_mem xss (2 ^ i) key xss.length).1 hkey
        have hmem : row xss j ∈ xss := by rw [row_eq _ _ hj]; exact List.getElem_mem hj
        have hlen := hrow _ hmem
        rw [key_one (by omega) (by omega)]
        have hb := (hR.row hmem).2 (nth (row xss j) i) (nth_mem _ _ (by omega))
        refine List.mem_map.2 ⟨(nth (row xss j) i).toNat, List.mem_filter.2 ⟨List.mem_range.2 (by omega), ?_⟩, ?_⟩
        · rw [bne_iff_ne]
          intro hv
          have : row xss j ∈ (xss.filter fun r => nth r i == (lv : Int)) := List.mem_filter.2 ⟨hmem, by rw [beq_iff_eq]; omega⟩
          rw [he] at this
          simp at this
        · rw [Int.toNat_of_nonneg hb.1])
      rw [hkeys, List.length_map] at hle
      have hlt : ((List.range S).filter (fun v => v != lv)).length < (List.range S).length := List.length_filter_lt_length_iff_exists.2 ⟨lv, List.mem_range.2 hlv, by simp⟩
      rw [List.length_range] at hlt
      omega
  · intro hne
    have hlen : ((xss.filter fun r => nth r i == (lv : Int)).map fun r => cut r i).length = (xss.filter fun r => nth r i == (lv : Int)).length := List.length_map _
    have hpos : 1 ≤ (xss.filter fun r => nth r i == (lv : Int)).length := List.length_pos_iff.2 hne
    have hz := runs_zero (s := S) (k := k - 1) (yss := (xss.filter fun r => nth r i == (lv : Int)).map fun r => cut r i) hR.s2 hR.s64 (by rw [hlen]; exact hpos) (by rw [hlen]; exact Nat.le_trans (List.length_filter_le _ _) hR.n128) (by omega) (by omega) (fun r hr => by
      obtain ⟨r0, h0, rfl⟩ := List.mem_map.1 hr
      have hm := (List.mem_filter.1 h0).1
      have := hrow r0 hm
      exact ⟨by rw [cut_length (by omega), this], fun x hx => (hR.row hm).2 x (mem_cut hx)⟩)
    refine ⟨hz.1, ?_⟩
    rintro ⟨u1, u2, u3⟩
    rw [hz.2] at u1 u2 u3
    rcases u3 with u3 | ⟨C, c1, c2, c3⟩
    · omega
    · by_cases htu : t ≤ u + 1
      · exact htu
      · exfalso
        have hC : C < 128 := by
          have : 2 ^ (k - 1) ≤ 2 ^ 7 := Nat.pow_le_pow_right (by omega) (by omega)
          omega
        obtain ⟨_, f2, _, _, _⟩ := ins_facts i (by omega) C hC
        have hlt := ins_lt k (by omega) i hi C c1
        have ha := alike_list.1 (t2 (ins i C + 2 ^ i) hlt (by omega) (by omega))
        have hb := alike_list.1 (hone (by omega))
        rw [f2] at ha
        rw [o1, Nat.pow_one] at hb
        have hS : 0 < S := by have := hR.s2; omega
        have hcount : ∀ r ∈ xss, nth r i = (lv : Int) → (xss.filter fun r => nth r i == (lv : Int)).length * S = xss.length := fun r hr hv => by
          rw [← hb.2 r hr, ← List.countP_eq_length_filter]
          congr 1
          refine List.countP_congr fun x hx => ?_
          rw [decide_eq_true_iff, key_agree hk8 (hrow x hx) (hrow r hr), beq_iff_eq]
          constructor
          · intro e q hq hsq
            rw [o2 q (by omega), beq_iff_eq] at hsq
            rw [hsq, e, hv]
          · intro h
            rw [h i hi (by rw [o2 i (by omega)]; simp), hv]
        have hmain : ∀ r ∈ xss, nth r i = (lv : Int) → ((xss.filter fun r => nth r i == (lv : Int)).map fun r => cut r i).countP (fun x => decide (keyOf8 C x = keyOf8 C (cut r i))) * S ^ onesOf C = (xss.filter fun r => nth r i == (lv : Int)).length := fun r hr hv => by
          have e1 : ((xss.filter fun r => nth r i == (lv : Int)).map fun r => cut r i).countP (fun x => decide (keyOf8 C x = keyOf8 C (cut r i))) = xss.countP (fun x => decide (keyOf8 (ins i C + 2 ^ i) x = keyOf8 (ins i C + 2 ^ i) r)) := by
            rw [List.countP_map, List.countP_filter]
            refine List.countP_congr fun x hx => ?_
            have ex := hrow x hx
            have er := hrow r hr
            simp only [Function.comp, Bool.and_eq_true, decide_eq_true_iff, beq_iff_eq]
            rw [key_agree (k := k - 1) (by omega) (by rw [cut_length (by omega), ex]) (by rw [cut_length (by omega), er]), key_agree hk8 ex er, agree_lev hk8 hi hC ex er, hv]
          have e2 := ha.2 r hr
          rw [← e1, Nat.pow_succ, ← Nat.mul_assoc, ← hcount r hr hv] at e2
          exact Nat.eq_of_mul_eq_mul_right hS e2
        apply c3
        rw [alike_list, hlen]
        have hall : ∀ y ∈ ((xss.filter fun r => nth r i == (lv : Int)).map fun r => cut r i), ((xss.filter fun r => nth r i == (lv : Int)).map fun r => cut r i).countP (fun x => decide (keyOf8 C x = keyOf8 C y)) * S ^ onesOf C = (xss.filter fun r => nth r i == (lv : Int)).length := fun y hy => by
          obtain ⟨r, hr, rfl⟩ := List.mem_map.1 hy
          obtain ⟨hr1, hr2⟩ := List.mem_filter.1 hr
          exact hmain r hr1 (beq_iff_eq.1 hr2)
        refine ⟨?_, hall⟩
        obtain ⟨r, hr⟩ := List.exists_mem_of_ne_nil _ hne
        have h1 := hall (cut r i) (List.mem_map.2 ⟨r, hr, rfl⟩)
        obtain ⟨c, hc⟩ : ∃ c, ((xss.filter fun r => nth r i == (lv : Int)).map fun r => cut r i).countP (fun x => decide (keyOf8 C x = keyOf8 C (cut r i))) = c := ⟨_, rfl⟩
        rw [hc] at h1
        have hc1 : 1 ≤ c := by
          rcases Nat.eq_zero_or_pos c with h0 | h0
          · rw [h0, Nat.zero_mul] at h1; omega
          · exact h0
        have h3 := Nat.mul_le_mul_right (S ^ onesOf C) hc1
        rw [h1, Nat.one_mul] at h3
        exact h3

end Go.Proofs.Ytfggmgfobcgadaa
