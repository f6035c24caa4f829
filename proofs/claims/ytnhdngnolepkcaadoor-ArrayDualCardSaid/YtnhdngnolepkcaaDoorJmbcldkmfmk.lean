/- Runs that agree in a set of columns; plain. -/
import Derived.Test.YtnhdngnolepkcaaDoorJpofacligji
import Derived.Test.YtnhdngnolepkcaaDoorJmnckmbkdli
import Derived.Test.YtnhdngnolepkcaaDoorJkmpjmibfnp
namespace Go.Proofs.YtnhdngnolepkcaaDoor
set_option maxRecDepth 100000
open Go.RowKit Go.Maps

theorem cntUp_list (xss : List (List Int)) (C : Nat) (key : List Int) : ∀ j, j ≤ xss.length → cntUp xss C key j = (xss.take j).countP (fun r => decide (keyOf8 C r = key))
  | 0, _ => by simp [cntUp]
  | j + 1, h => by
    rw [cntUp, cntUp_list xss C key j (by omega), List.take_add_one, List.getElem?_eq_getElem (show j < xss.length by omega), List.countP_append, row_eq _ _ (show j < xss.length by omega)]
    congr 1
    simp [List.countP_cons]
theorem alike_list {S : Nat} {xss : List (List Int)} {C : Nat} : AlikeP S xss C ↔ S ^ onesOf C ≤ xss.length ∧ ∀ r ∈ xss, xss.countP (fun x => decide (keyOf8 C x = keyOf8 C r)) * S ^ onesOf C = xss.length := by
  unfold AlikeP
  constructor
  · rintro ⟨h1, h2⟩
    refine ⟨h1, fun r hr => ?_⟩
    obtain ⟨i, hi, rfl⟩ := List.getElem_of_mem hr
    have h := h2 i hi
    rw [cntUp_list xss C _ _ (Nat.le_refl _), List.take_length, row_eq _ _ hi] at h
    exact h
  · rintro ⟨h1, h2⟩
    refine ⟨h1, fun i hi => ?_⟩
    rw [cntUp_list xss C _ _ (Nat.le_refl _), List.take_length, row_eq _ _ hi]
    exact h2 _ (List.getElem_mem hi)
/-- Two runs agree in a set of columns. -/
def Agree (C k : Nat) (r r' : List Int) : Prop := ∀ q, q < k → inSet C q = true → nth r q = nth r' q
theorem key_agree {C k : Nat} {r r' : List Int} (hk : k ≤ 8) (h : r.length = k) (h' : r'.length = k) : keyOf8 C r = keyOf8 C r' ↔ Agree C k r r' := by
  unfold keyOf8
  rw [h, h']
  constructor
  · intro he q hq hs
    have e1 := nth_keyUp C r k q (by omega)
    have e2 := nth_keyUp C r' k q (by omega)
    rw [if_pos ⟨hq, hs⟩] at e1 e2
    rw [← e1, ← e2, he]
  · intro ha
    refine nth_ext _ _ (by rw [keyUp_length, keyUp_length]) fun q hq => ?_
    rw [keyUp_length] at hq
    rw [nth_keyUp C r k q hq, nth_keyUp C r' k q hq]
    by_cases hc : q < k ∧ inSet C q = true
    · rw [if_pos hc, if_pos hc]; exact ha q hc.1 hc.2
    · rw [if_neg hc, if_neg hc]
theorem IsRuns.row {s : Int} {xss : List (List Int)} (h : IsRuns s xss) {r : List Int} (hr : r ∈ xss) : r.length = (Go.Proofs.YtnhdngnolepkcaaDoor.row xss 0).length ∧ ∀ x ∈ r, 0 ≤ x ∧ x < s := by
  obtain ⟨i, hi, rfl⟩ := List.getElem_of_mem hr
  rw [← row_eq _ _ hi]
  exact ⟨h.len i hi, h.lev i hi⟩
theorem runFault_ok {s : Int} {k : Nat} {r : List Int} (h : r.length = k) (h1 : 1 ≤ k) (h8 : k ≤ 8) (hx : ∀ x ∈ r, 0 ≤ x ∧ x < s) : runFault s k r = 0 := by
  unfold runFault
  rw [h, if_neg (by omega), if_neg]
  simp only [List.any_eq_true, not_exists, not_and, Bool.not_eq_true]
  intro x hm
  have := hx x hm
  unfold badAt
  rw [decide_eq_false (by omega), decide_eq_false (by omega)]
  rfl
theorem runs_zero {s : Int} {k : Nat} {yss : List (List Int)} (h2 : 2 ≤ s) (h64 : s ≤ 64) (n1 : 1 ≤ yss.length) (n128 : yss.length ≤ 128) (h1 : 1 ≤ k) (h8 : k ≤ 8) (hr : ∀ r ∈ yss, r.length = k ∧ ∀ x ∈ r, 0 ≤ x ∧ x < s) : RunsAre s yss 0 ∧ (row yss 0).length = k := by
  have hk : (row yss 0).length = k := by rw [row_eq _ _ (by omega)]; exact (hr _ (List.getElem_mem _)).1
  refine ⟨.inr (.inr (.inr ⟨h2, h64, n1, n128, .inr ⟨fun i hi => ?_, rfl⟩⟩)), hk⟩
  rw [hk, row_eq _ _ hi]
  obtain ⟨e1, e2⟩ := hr _ (List.getElem_mem hi)
  exact runFault_ok e1 h1 h8 e2

end Go.Proofs.YtnhdngnolepkcaaDoor

/- The runs of a space: how often they are alike in the columns of a set; their strength. Plain but for the words of the walk. -/
namespace Go.Proofs.YtnhdngnolepkcaaDoor
open Go.RowKit
set_option linter.unusedSectionVars false

theorem cntC_ones : ∀ n, n < 7 → ∀ C, C < 2 ^ n → cntC (inSet C) n = onesOf C := by decide +kernel

section
variable {p k : Nat} {low : List Int} [hI : FldP p k low]

theorem countP_map' {α β : Type} (f : α → β) (P : β → Bool) : ∀ l : List α, (l.map f).countP P = (l.filter fun x => P (f x)).length
  | [] => rfl
  | x :: l => by
    rw [List.map_cons, List.countP_cons, countP_map' f P l, List.filter_cons]
    split <;> simp_all

/-- The runs that stand as a row does in the columns of a set. -/
theorem card_key {n : Nat} {V : List (Nat → El p k low)} (hn : n ≤ 6) (hz : Zero n V) (C : Nat) {u : Nat → El p k low} (hu : Span V u) :
    Card (fun v => Span V v ∧ res (inSet C) v = res (inSet C) u) ((codeRows (p ^ k) n (linT n V) ((p ^ k) ^ n)).countP fun r => decide (keyOf8 C r = keyOf8 C (nrow (toN u) n))) := by
  have hsup := (span_sub hz).sup
  have hkey : ∀ v : Nat → El p k low, (∀ j, n ≤ j → v j = 0) → (keyOf8 C (nrow (toN v) n) = keyOf8 C (nrow (toN u) n) ↔ res (inSet C) v = res (inSet C) u) := fun v hv => by
    rw [key_agree (k := n) (by omega) (nrow_length _ _) (nrow_length _ _)]
    constructor
    · intro h
      funext j
      show (if inSet C j = true then v j else 0) = (if inSet C j = true then u j else 0)
      by_cases hj : j < n
      · by_cases hc : inSet C j = true
        · rw [if_pos hc, if_pos hc]
          have e := h j hj hc
          rw [nth_row_toN v hj, nth_row_toN u hj] at e
          exact El.ext' (by omega)
        · rw [if_neg hc, if_neg hc]
      · rw [hv j (by omega), hsup u hu j (by omega)]
    · intro h j hj hc
      have e := congrFun h j
      have e' : (if inSet C j = true then v j else 0) = (if inSet C j = true then u j else 0) := e
      rw [if_pos hc, if_pos hc] at e'
      rw [nth_row_toN v hj, nth_row_toN u hj, e']
  have hrow : ∀ c, nrow (opn (p ^ k) n c) n = nrow (toN (vOf (p := p) (k := k) (low := low) n c)) n := fun c => by
    unfold nrow
    exact tab_congr _ _ n fun j hj => by
      show ((opn (p ^ k) n c j : Nat) : Int) = (((vOf (p := p) (k := k) (low := low) n c j).n : Nat) : Int)
      rw [vOf_n hj]
  unfold codeRows
  rw [countP_map']
  refine ⟨((codesR (linT n V) 0 ((p ^ k) ^ n)).filter fun c => decide (keyOf8 C (nrow (opn (p ^ k) n c) n) = keyOf8 C (nrow (toN u) n))).map (vOf n), ?_, fun x => ?_, by rw [List.length_map]⟩
  · refine nodup_map _ _ (nodup_filter _ _ (codesR_nodup _ _)) fun a b ha hb e => ?_
    exact vOf_inj (mem_codesR.1 (List.mem_filter.1 ha).1).1 (mem_codesR.1 (List.mem_filter.1 hb).1).1 e
  · rw [List.mem_map]
    constructor
    · rintro ⟨c, hc, rfl⟩
      obtain ⟨h1, h2⟩ := List.mem_filter.1 hc
      have hs := linT_iff.1 (mem_codesR.1 h1).2
      refine ⟨hs, (hkey _ (hsup _ hs)).1 ?_⟩
      rw [← hrow]
      exact of_decide_eq_true h2
    · rintro ⟨h1, h2⟩
      have hx := hsup x h1
      refine ⟨cOf n x, List.mem_filter.2 ⟨mem_codesR.2 ⟨cOf_lt n x, by rw [linT_iff, vOf_cOf hx]; exact h1⟩, decide_eq_true ?_⟩, vOf_cOf hx⟩
      rw [hrow, vOf_cOf hx]
      exact (hkey x hx).2 h2

/-- The runs are alike often in the columns of a set if, and only if, no row of the normal but 0 stands there alone. -/
theorem alike_iff {n : Nat} {V : List (Nat → El p k low)} (hn : n ≤ 6) (hz : Zero n V) (C : Nat) (hC : C < 2 ^ n) :
    AlikeP (p ^ k) (codeRows (p ^ k) n (linT n V) ((p ^ k) ^ n)) C ↔ ∀ y, Nul n (Span V) y → InC n (inSet C) y → y = vz := by
  obtain ⟨R, hR⟩ : ∃ R, codeRows (p ^ k) n (linT n V) ((p ^ k) ^ n) = R := ⟨_, rfl⟩
  have hM := card_codes hz
  rw [← codeRows_len (p ^ k) n, hR] at hM
  rw [hR]
  obtain ⟨K, hK⟩ := hM.part (T := Ker (inSet C) V) fun x h => h.1
  obtain ⟨I, hI'⟩ : ∃ I, Card (Span (V.map (res (inSet C)))) I := by
    obtain ⟨P, h1, h2⟩ := basV_ok (zero_res (C := inSet C) hz)
    exact ⟨_, (card_span (card_el low) h1).congr h2⟩
  have hMI : R.length = I * K := hM.unique (card_seen hI' hK)
  rw [← seen_iff hz hI' hK, cntC_ones n (by omega) C hC, ← hMI]
  have hcnt : ∀ i, i < R.length → cntUp R C (keyOf8 C (row R i)) R.length = K := fun i hi => by
    have hmem : row R i ∈ codeRows (p ^ k) n (linT n V) ((p ^ k) ^ n) := by rw [hR, row_eq _ _ hi]; exact List.getElem_mem hi
    rw [cntUp_list R C _ _ (Nat.le_refl _), List.take_length]
    obtain ⟨c, hc, e⟩ := List.mem_map.1 hmem
    have hs := linT_iff.1 (mem_codesR.1 hc).2
    have e2 : row R i = nrow (toN (vOf (p := p) (k := k) (low := low) n c)) n := by
      rw [← e]
      unfold nrow
      exact tab_congr _ _ n fun j hj => by
        show ((opn (p ^ k) n c j : Nat) : Int) = (((vOf (p := p) (k := k) (low := low) n c j).n : Nat) : Int)
        rw [vOf_n hj]
    have h1 := (card_key hn hz C hs).unique (card_fiber hK hs)
    rw [hR] at h1
    rw [e2]
    exact h1
  have hpos : 0 < R.length := by
    obtain ⟨l, _, h2, h3⟩ := hM
    have : vz ∈ l := (h2 vz).2 (span_zero V)
    rw [← h3]; exact List.length_pos_of_mem this
  constructor
  · rintro ⟨_, h⟩
    have := h 0 hpos
    rwa [hcnt 0 hpos] at this
  · intro h
    refine ⟨?_, fun i hi => by rw [hcnt i hi]; exact h⟩
    have hK0 : 0 < K := by
      rcases Nat.eq_zero_or_pos K with h0 | h0
      · rw [h0, Nat.zero_mul] at h; omega
      · exact h0
    rw [← h]
    exact Nat.le_mul_of_pos_left _ hK0
end

end Go.Proofs.YtnhdngnolepkcaaDoor

/- The least weight in a normal, and the strength of the runs. Plain but for the words of the walk. -/
namespace Go.Proofs.YtnhdngnolepkcaaDoor
open Go.RowKit
set_option linter.unusedSectionVars false

/-- How many of the first n are not 0. -/
def wtN (f : Nat → Nat) : Nat → Nat
  | 0 => 0
  | n + 1 => wtN f n + (if f n ≠ 0 then 1 else 0)
theorem wtN_le (f : Nat → Nat) : ∀ n, wtN f n ≤ n
  | 0 => Nat.le_refl _
  | n + 1 => by rw [wtN]; have := wtN_le f n; split <;> omega
/-- The least weight of those that are marked, from 1 on. -/
def minW (q n : Nat) (T : Nat → Bool) : Nat → Nat
  | 0 => n + 1
  | c + 1 => if c ≠ 0 ∧ T c = true ∧ wtN (opn q n c) n < minW q n T c then wtN (opn q n c) n else minW q n T c
theorem minW_le (q n : Nat) (T : Nat → Bool) : ∀ N c, c < N → c ≠ 0 → T c = true → minW q n T N ≤ wtN (opn q n c) n
  | 0, c, h, _, _ => by omega
  | N + 1, c, h, h0, hT => by
    rw [minW]
    by_cases e : c = N
    · subst e
      split
      · exact Nat.le_refl _
      · rename_i hn
        exact Nat.not_lt.1 fun g => hn ⟨h0, hT, g⟩
    · have ih := minW_le q n T N c (by omega) h0 hT
      split
      · rename_i hn; have := hn.2.2; omega
      · exact ih
theorem minW_is (q n : Nat) (T : Nat → Bool) : ∀ N, minW q n T N = n + 1 ∨ ∃ c, c < N ∧ c ≠ 0 ∧ T c = true ∧ minW q n T N = wtN (opn q n c) n
  | 0 => .inl rfl
  | N + 1 => by
    rw [minW]
    split
    · rename_i h
      exact .inr ⟨N, by omega, h.1, h.2.1, rfl⟩
    · rcases minW_is q n T N with h | ⟨c, h1, h2, h3, h4⟩
      · exact .inl h
      · exact .inr ⟨c, by omega, h2, h3, h4⟩

/-- The set of some columns. -/
def setOf (f : Nat → Bool) : Nat → Nat
  | 0 => 0
  | n + 1 => setOf f n + (if f n = true then 2 ^ n else 0)
theorem setOf_lt (f : Nat → Bool) : ∀ n, setOf f n < 2 ^ n
  | 0 => by simp [setOf]
  | n + 1 => by rw [setOf, Nat.pow_succ]; have := setOf_lt f n; split <;> omega
theorem inSet_setOf (f : Nat → Bool) : ∀ n j, j < n → inSet (setOf f n) j = f j
  | n + 1, j, hj => by
    have hlt := setOf_lt f n
    by_cases e : j = n
    · subst e
      unfold inSet
      rw [setOf]
      by_cases hf : f j = true
      · rw [if_pos hf, Nat.add_div_right _ (Nat.pow_pos (by omega)), Nat.div_eq_of_lt hlt, hf]; rfl
      · rw [if_neg hf, Nat.add_zero, Nat.div_eq_of_lt hlt]
        have : f j = false := by simpa using hf
        rw [this]; rfl
    · have ih := inSet_setOf f n j (by omega)
      rw [← ih]
      unfold inSet
      rw [setOf]
      by_cases hf : f n = true
      · rw [if_pos hf]
        obtain ⟨m, hm⟩ : ∃ m, n = j + (m + 1) := ⟨n - j - 1, by omega⟩
        rw [show 2 ^ n = 2 ^ m * 2 * 2 ^ j by rw [hm, Nat.pow_add, Nat.pow_succ, Nat.mul_comm], Nat.add_mul_div_right _ _ (Nat.pow_pos (by omega)), Nat.add_mul_mod_self_right]
      · rw [if_neg hf, Nat.add_zero]
theorem cntC_set (f : Nat → Bool) (n : Nat) : ∀ m, m ≤ n → cntC (inSet (setOf f n)) m = cntC f m
  | 0, _ => rfl
  | m + 1, h => by rw [cntC, cntC, cntC_set f n m (by omega), inSet_setOf f n m (by omega)]
theorem cntC_wt (g : Nat → Nat) : ∀ n, cntC (fun j => g j != 0) n = wtN g n
  | 0 => rfl
  | n + 1 => by
    rw [cntC, wtN, cntC_wt g n]
    congr 1
    by_cases h : g n = 0
    · simp [h]
    · simp [h]
theorem wt_le_cnt (g : Nat → Nat) (C : Nat → Bool) (h : ∀ j, C j = false → g j = 0) : ∀ n, wtN g n ≤ cntC C n
  | 0 => Nat.le_refl _
  | n + 1 => by
    have ih := wt_le_cnt g C h n
    rw [wtN, cntC]
    by_cases hc : C n = true
    · rw [if_pos hc]; split <;> omega
    · rw [if_neg hc, if_neg (fun e => e (h n (by simpa using hc)))]; omega

section
variable {p k : Nat} {low : List Int} [hI : FldP p k low]

/-- The strength is one less than the least weight in the normal. -/
theorem dual_strength {n : Nat} {V : List (Nat → El p k low)} (hn : n ≤ 6) (hz : Zero n V) {T : Nat → Bool} (hT : Marks n T (Nul n (Span V))) (hrow : (row (codeRows (p ^ k) n (linT n V) ((p ^ k) ^ n)) 0).length = n) :
    1 ≤ minW (p ^ k) n T ((p ^ k) ^ n) ∧ StrengthIs (p ^ k) (codeRows (p ^ k) n (linT n V) ((p ^ k) ^ n)) (minW (p ^ k) n T ((p ^ k) ^ n) - 1) := by
  obtain ⟨N, hN⟩ : ∃ N, (p ^ k) ^ n = N := ⟨_, rfl⟩
  have hNp : 0 < N := by rw [← hN]; exact Nat.pow_pos (qpos low)
  have hwt0 : ∀ c, c < N → c ≠ 0 → 1 ≤ wtN (opn (p ^ k) n c) n := fun c hc h0 => by
    refine Classical.byContradiction fun hw => h0 ?_
    have hw0 : wtN (opn (p ^ k) n c) n = 0 := by omega
    have hall : ∀ m, m ≤ n → wtN (opn (p ^ k) n c) m = 0 → ∀ j, j < m → opn (p ^ k) n c j = 0 := by
      intro m
      induction m with
      | zero => intro _ _ j hj; omega
      | succ m ih =>
        intro hm h j hj
        rw [wtN] at h
        by_cases e : j = m
        · subst e
          refine Classical.byContradiction fun g => ?_
          rw [if_pos g] at h; omega
        · exact ih (by omega) (by omega) j (by omega)
    have hv : vOf (p := p) (k := k) (low := low) n c = vOf n 0 := by
      rw [vOf_zero]
      funext j
      by_cases hj : j < n
      · refine El.ext' ?_
        rw [vOf_n hj, hall n (Nat.le_refl _) hw0 j hj]; rfl
      · rw [vOf_sup (by omega)]; rfl
    exact vOf_inj (by rw [hN]; exact hc) (by rw [hN]; exact hNp) hv
  have h1 : 1 ≤ minW (p ^ k) n T N := by
    rcases minW_is (p ^ k) n T N with h | ⟨c, h1, h2, _, h4⟩
    · omega
    · rw [h4]; exact hwt0 c h1 h2
  have hle : minW (p ^ k) n T N ≤ n + 1 := by
    rcases minW_is (p ^ k) n T N with h | ⟨c, _, _, _, h4⟩
    · omega
    · rw [h4]; have := wtN_le (opn (p ^ k) n c) n; omega
  have hal := fun C (hC : C < 2 ^ n) => alike_iff hn hz C hC
  unfold StrengthIs
  rw [hrow]
  rw [hN] at hal ⊢
  refine ⟨h1, by omega, fun C hC _ hones => (hal C hC).2 fun y hy hyc => ?_, ?_⟩
  · refine Classical.byContradiction fun hne => ?_
    have hcl := cOf_lt (p := p) (k := k) (low := low) n y
    rw [hN] at hcl
    have hvy := vOf_cOf (n := n) (v := y) hy.1
    have hc0 : cOf n y ≠ 0 := fun e => hne (by rw [← hvy, e, vOf_zero])
    have hTc : T (cOf n y) = true := (hT _ (by rw [hN]; exact hcl)).2 (by rw [hvy]; exact hy)
    have hmin := minW_le (p ^ k) n T N _ hcl hc0 hTc
    have hw := wt_le_cnt (fun j => if j < n then opn (p ^ k) n (cOf n y) j else 0) (inSet C) (fun j hj => by
      show (if j < n then _ else 0) = 0
      by_cases hjn : j < n
      · rw [if_pos hjn, ← vOf_n (low := low) hjn, hvy, hyc.2 j hj]; rfl
      · rw [if_neg hjn]) n
    have hweq : ∀ m, m ≤ n → wtN (fun j => if j < n then opn (p ^ k) n (cOf n y) j else 0) m = wtN (opn (p ^ k) n (cOf n y)) m := by
      intro m
      induction m with
      | zero => intro _; rfl
      | succ m ih =>
        intro hm
        rw [wtN, wtN, ih (by omega)]
        simp only [show m < n by omega, if_true]
    rw [hweq n (Nat.le_refl _), cntC_ones n (by omega) C hC] at hw
    omega
  · rcases minW_is (p ^ k) n T N with h | ⟨c, hc, hc0, hTc, h4⟩
    · left; omega
    · right
      refine ⟨setOf (fun j => opn (p ^ k) n c j != 0) n, setOf_lt _ n, ?_, fun ha => ?_⟩
      · rw [← cntC_ones n (by omega) _ (setOf_lt _ n), cntC_set _ n n (Nat.le_refl _), cntC_wt, ← h4]; omega
      · have hy := (hT c (by rw [hN]; exact hc)).1 hTc
        have hz0 := (hal _ (setOf_lt _ n)).1 ha (vOf n c) hy ⟨fun i hi => vOf_sup hi, fun i hi => by
          by_cases hin : i < n
          · rw [inSet_setOf _ n i hin] at hi
            refine El.ext' ?_
            rw [vOf_n hin]
            have : opn (p ^ k) n c i = 0 := by simpa using hi
            rw [this]; rfl
          · exact vOf_sup (by omega)⟩
        exact hc0 (vOf_inj (low := low) (by rw [hN]; exact hc) (by rw [hN]; exact hNp) (hz0.trans (vOf_zero n).symm))
end

end Go.Proofs.YtnhdngnolepkcaaDoor
