/- The runs of two Latin squares have strength 2 just if the squares are orthogonal; plain. -/
import Derived.Test.YtnhdngnolepkcaaAgree
import Derived.Test.YtnhdngnolepkcaaLatin
namespace Go.Proofs.Ytnhdngnolepkcaa
open Go.RowKit Go.Maps

/-- Two columns tell each run. -/
def Tells (n : Nat) (xs ys : List Int) (c d : Nat) : Prop := ∀ i j, i < n * n → j < n * n → nth (runAt n [xs, ys] i) c = nth (runAt n [xs, ys] j) c → nth (runAt n [xs, ys] i) d = nth (runAt n [xs, ys] j) d → i = j
theorem Tells.symm {n : Nat} {xs ys : List Int} {c d : Nat} (h : Tells n xs ys c d) : Tells n xs ys d c := fun i j hi hj h1 h2 => h i j hi hj h2 h1

theorem run_0 (n : Nat) (xs ys : List Int) (i : Nat) : nth (runAt n [xs, ys] i) 0 = (i / n : Nat) := rfl
theorem run_1 (n : Nat) (xs ys : List Int) (i : Nat) : nth (runAt n [xs, ys] i) 1 = (i % n : Nat) := rfl
theorem run_2 (n : Nat) (xs ys : List Int) (i : Nat) : nth (runAt n [xs, ys] i) 2 = nth xs i := rfl
theorem run_3 (n : Nat) (xs ys : List Int) (i : Nat) : nth (runAt n [xs, ys] i) 3 = nth ys i := rfl

theorem tells_01 (n : Nat) (xs ys : List Int) : Tells n xs ys 0 1 := by
  intro i j _ _ h1 h2
  rw [run_0, run_0] at h1
  rw [run_1, run_1] at h2
  have e1 : i / n = j / n := by omega
  have e2 : i % n = j % n := by omega
  rw [← Nat.div_add_mod i n, ← Nat.div_add_mod j n, e1, e2]
theorem latin_tells {n : Nat} {xs : List Int} (h : IsLatin n xs) {i j : Nat} (hi : i < n * n) (hj : j < n * n) (he : nth xs i = nth xs j) (hr : i / n = j / n ∨ i % n = j % n) : i = j := by
  rcases Nat.lt_trichotomy i j with hlt | hlt | hlt
  · have := h.once i j hlt hj he; rcases hr with hr | hr <;> omega
  · exact hlt
  · have := h.once j i hlt hi he.symm; rcases hr with hr | hr <;> omega
theorem tells_02 {n : Nat} {xs : List Int} (ys : List Int) (h : IsLatin n xs) : Tells n xs ys 0 2 := by
  intro i j hi hj h1 h2
  rw [run_0, run_0] at h1
  rw [run_2, run_2] at h2
  exact latin_tells h hi hj h2 (.inl (by omega))
theorem tells_12 {n : Nat} {xs : List Int} (ys : List Int) (h : IsLatin n xs) : Tells n xs ys 1 2 := by
  intro i j hi hj h1 h2
  rw [run_1, run_1] at h1
  rw [run_2, run_2] at h2
  exact latin_tells h hi hj h2 (.inr (by omega))
theorem tells_03 {n : Nat} {ys : List Int} (xs : List Int) (h : IsLatin n ys) : Tells n xs ys 0 3 := by
  intro i j hi hj h1 h2
  rw [run_0, run_0] at h1
  rw [run_3, run_3] at h2
  exact latin_tells h hi hj h2 (.inl (by omega))
theorem tells_13 {n : Nat} {ys : List Int} (xs : List Int) (h : IsLatin n ys) : Tells n xs ys 1 3 := by
  intro i j hi hj h1 h2
  rw [run_1, run_1] at h1
  rw [run_3, run_3] at h2
  exact latin_tells h hi hj h2 (.inr (by omega))

theorem run_lev {n : Nat} {xs ys : List Int} (hx : IsLatin n xs) (hy : IsLatin n ys) {i : Nat} (hi : i < n * n) : ∀ v ∈ runAt n [xs, ys] i, 0 ≤ v ∧ v < (n : Int) := by
  intro v hv
  have h0 : 0 < n := hx.one
  have h1 : i / n < n := Nat.div_lt_of_lt_mul hi
  have h2 : i % n < n := Nat.mod_lt _ h0
  have h3 := hx.at i hi
  have h4 := hy.at i hi
  simp only [runAt, List.map_cons, List.map_nil, List.mem_cons, List.not_mem_nil, or_false] at hv
  obtain ⟨a, ha⟩ : ∃ a, i / n = a := ⟨_, rfl⟩
  obtain ⟨b, hb⟩ : ∃ b, i % n = b := ⟨_, rfl⟩
  rw [ha] at h1 hv
  rw [hb] at h2 hv
  rcases hv with rfl | rfl | rfl | rfl <;> omega
theorem run_len (n : Nat) (xs ys : List Int) (i : Nat) : (runAt n [xs, ys] i).length = 4 := rfl
theorem runs_len (n : Nat) (l : List (List Int)) : (runsOf n l).length = n * n := by simp [runsOf]

/-- How many runs have a number in a column. -/
def colCnt (n : Nat) (f : Nat → Nat) (v : Nat) : Nat := ((List.range (n * n)).filter fun i => f i == v).length
theorem colCnt_le {n : Nat} {f g : Nat → Nat} (hg : ∀ i, i < n * n → g i < n) (hi : ∀ i j, i < n * n → j < n * n → f i = f j → g i = g j → i = j) (v : Nat) : colCnt n f v ≤ n := by
  have h1 : (((List.range (n * n)).filter fun i => f i == v).map g).Nodup := by
    unfold List.Nodup
    rw [List.pairwise_map]
    have h2 : ((List.range (n * n)).filter fun i => f i == v).Pairwise (fun i j => i < j) := List.Pairwise.filter _ List.pairwise_lt_range
    refine List.Pairwise.imp_of_mem ?_ h2
    intro i j hi' hj' hlt he
    have a1 := List.mem_filter.1 hi'
    have a2 := List.mem_filter.1 hj'
    have e1 : f i = v := by simpa using a1.2
    have e2 : f j = v := by simpa using a2.2
    have := hi i j (List.mem_range.1 a1.1) (List.mem_range.1 a2.1) (by rw [e1, e2]) he
    omega
  have h2 := nodup_len _ (List.range n) h1 fun x hx => by
    obtain ⟨i, hi', rfl⟩ := List.mem_map.1 hx
    exact List.mem_range.2 (hg i (List.mem_range.1 (List.mem_filter.1 hi').1))
  rw [List.length_map, List.length_range] at h2
  exact h2
def sumTo (f : Nat → Nat) : Nat → Nat
  | 0 => 0
  | k + 1 => sumTo f k + f k
theorem sumTo_le {f : Nat → Nat} {b : Nat} (h : ∀ v, f v ≤ b) : ∀ k, sumTo f k ≤ k * b
  | 0 => by simp [sumTo]
  | k + 1 => by have := sumTo_le h k; have := h k; rw [sumTo, Nat.succ_mul]; omega
theorem sumTo_lt {f : Nat → Nat} {b : Nat} (h : ∀ v, f v ≤ b) {v : Nat} (hv : f v < b) : ∀ k, v < k → sumTo f k < k * b
  | 0, hk => by omega
  | k + 1, hk => by
    rw [sumTo, Nat.succ_mul]
    by_cases e : v = k
    · subst e; have := sumTo_le h v; omega
    · have := sumTo_lt h hv k (by omega); have := h k; omega
theorem sumTo_add (f g : Nat → Nat) : ∀ k, sumTo (fun v => f v + g v) k = sumTo f k + sumTo g k
  | 0 => rfl
  | k + 1 => by rw [sumTo, sumTo, sumTo, sumTo_add f g k]; omega
theorem sumTo_zero : ∀ k, sumTo (fun _ => 0) k = 0
  | 0 => rfl
  | k + 1 => by rw [sumTo, sumTo_zero k]
theorem sumTo_hit (u : Nat) : ∀ k, u < k → sumTo (fun v => if u == v then 1 else 0) k = 1
  | 0, h => by omega
  | k + 1, h => by
    rw [sumTo]
    by_cases e : u = k
    · subst e
      have : ∀ m, m ≤ u → sumTo (fun v => if u == v then 1 else 0) m = 0 := by
        intro m
        induction m with
        | zero => intro _; rfl
        | succ m ih => intro hm; rw [sumTo, ih (by omega), if_neg (by simp; omega)]
      rw [this u (Nat.le_refl _), if_pos (by simp)]
    · rw [sumTo_hit u k (by omega), if_neg (by simpa using e)]
theorem colCnt_sum {n : Nat} {f : Nat → Nat} : ∀ (l : List Nat), (∀ i ∈ l, f i < n) → sumTo (fun v => (l.filter fun i => f i == v).length) n = l.length
  | [], _ => by simp [sumTo_zero]
  | i :: l, h => by
    have e : (fun v => ((i :: l).filter fun i => f i == v).length) = fun v => (if f i == v then 1 else 0) + (l.filter fun i => f i == v).length := by
      funext v
      rw [List.filter_cons]
      split <;> simp <;> omega
    rw [e, sumTo_add, sumTo_hit _ _ (h i (by simp)), colCnt_sum l (fun j hj => h j (by simp [hj]))]
    simp; omega
theorem colCnt_all {n : Nat} {f g : Nat → Nat} (hf : ∀ i, i < n * n → f i < n) (hg : ∀ i, i < n * n → g i < n) (hi : ∀ i j, i < n * n → j < n * n → f i = f j → g i = g j → i = j) {v : Nat} (hv : v < n) : colCnt n f v = n := by
  have h1 := colCnt_le hg hi
  have h2 := h1 v
  by_cases e : colCnt n f v = n
  · exact e
  · have h3 := sumTo_lt h1 (v := v) (by omega) n hv
    have h4 : sumTo (colCnt n f) n = n * n := by
      have := colCnt_sum (n := n) (f := f) (List.range (n * n)) (fun i hi => hf i (List.mem_range.1 hi))
      rw [List.length_range] at this
      exact this
    omega

theorem single_col : ∀ C, C < 16 → onesOf C = 1 → C = 1 ∨ C = 2 ∨ C = 4 ∨ C = 8 := by decide
theorem double_col : ∀ C, C < 16 → onesOf C = 2 → C = 3 ∨ C = 5 ∨ C = 9 ∨ C = 6 ∨ C = 10 ∨ C = 12 := by decide
theorem in_sets : (∀ q, q < 4 → inSet 1 q = (q == 0)) ∧ (∀ q, q < 4 → inSet 2 q = (q == 1)) ∧ (∀ q, q < 4 → inSet 4 q = (q == 2)) ∧ (∀ q, q < 4 → inSet 8 q = (q == 3)) ∧
  (∀ q, q < 4 → inSet 3 q = (q == 0 || q == 1)) ∧ (∀ q, q < 4 → inSet 5 q = (q == 0 || q == 2)) ∧ (∀ q, q < 4 → inSet 9 q = (q == 0 || q == 3)) ∧ (∀ q, q < 4 → inSet 6 q = (q == 1 || q == 2)) ∧ (∀ q, q < 4 → inSet 10 q = (q == 1 || q == 3)) ∧ (∀ q, q < 4 → inSet 12 q = (q == 2 || q == 3)) := by decide

theorem alike_one {n : Nat} {xs ys : List Int} (hx : IsLatin n xs) (hy : IsLatin n ys) (C c d : Nat) (hc : c < 4) (hd : d < 4) (hC : ∀ q, q < 4 → inSet C q = (q == c)) (h1 : onesOf C = 1) (ht : Tells n xs ys c d) : AlikeP n (runsOf n [xs, ys]) C := by
  rw [alike_list, runs_len, h1, Nat.pow_one]
  have hn : 1 ≤ n := hx.one
  refine ⟨Nat.le_mul_of_pos_left n hn, fun r hr => ?_⟩
  obtain ⟨j, hj, rfl⟩ := List.mem_map.1 hr
  have hj' := List.mem_range.1 hj
  have lev : ∀ e, e < 4 → ∀ i, i < n * n → 0 ≤ nth (runAt n [xs, ys] i) e ∧ nth (runAt n [xs, ys] i) e < (n : Int) := fun e he i hi => run_lev hx hy hi _ (nth_mem _ _ (by rw [run_len]; exact he))
  have hcnt := colCnt_all (n := n) (f := fun i => (nth (runAt n [xs, ys] i) c).toNat) (g := fun i => (nth (runAt n [xs, ys] i) d).toNat)
    (fun i hi => by have := lev c hc i hi; omega) (fun i hi => by have := lev d hd i hi; omega)
    (fun i k hi hk e1 e2 => by
      have a1 := lev c hc i hi; have a2 := lev c hc k hk; have a3 := lev d hd i hi; have a4 := lev d hd k hk
      exact ht i k hi hk (by omega) (by omega))
    (v := (nth (runAt n [xs, ys] j) c).toNat) (by have := lev c hc j hj'; omega)
  have e1 : (runsOf n [xs, ys]).countP (fun x => decide (keyOf8 C x = keyOf8 C (runAt n [xs, ys] j))) = n := by
    refine Eq.trans ?_ hcnt
    unfold runsOf colCnt
    rw [List.countP_map, ← List.countP_eq_length_filter]
    refine List.countP_congr fun i hi => ?_
    have hi' := List.mem_range.1 hi
    simp only [Function.comp, decide_eq_true_iff, beq_iff_eq]
    rw [key_agree (k := 4) (by omega) (run_len _ _ _ _) (run_len _ _ _ _)]
    have a1 := lev c hc i hi'
    have a2 := lev c hc j hj'
    constructor
    · intro h; rw [h c hc (by rw [hC c hc]; simp)]
    · intro h q hq hs
      rw [hC q hq, beq_iff_eq] at hs
      subst hs
      omega
  rw [e1]

theorem alike_two {n : Nat} {xs ys : List Int} (hx : IsLatin n xs) (C c d : Nat) (hc : c < 4) (hd : d < 4) (hC : ∀ q, q < 4 → inSet C q = (q == c || q == d)) (h2 : onesOf C = 2) : AlikeP n (runsOf n [xs, ys]) C ↔ Tells n xs ys c d := by
  rw [alike_list, runs_len, h2, Nat.pow_two]
  have hn : 1 ≤ n := hx.one
  have hpos : 0 < n * n := Nat.mul_pos hn hn
  have hkey : ∀ i j, keyOf8 C (runAt n [xs, ys] i) = keyOf8 C (runAt n [xs, ys] j) ↔ nth (runAt n [xs, ys] i) c = nth (runAt n [xs, ys] j) c ∧ nth (runAt n [xs, ys] i) d = nth (runAt n [xs, ys] j) d := fun i j => by
    rw [key_agree (k := 4) (by omega) (run_len _ _ _ _) (run_len _ _ _ _)]
    constructor
    · intro h; exact ⟨h c hc (by rw [hC c hc]; simp), h d hd (by rw [hC d hd]; simp)⟩
    · rintro ⟨e1, e2⟩ q hq hs
      rw [hC q hq, Bool.or_eq_true, beq_iff_eq, beq_iff_eq] at hs
      rcases hs with rfl | rfl
      · exact e1
      · exact e2
  have hcnt : ∀ j, (runsOf n [xs, ys]).countP (fun x => decide (keyOf8 C x = keyOf8 C (runAt n [xs, ys] j))) = ((List.range (n * n)).filter fun i => decide (keyOf8 C (runAt n [xs, ys] i) = keyOf8 C (runAt n [xs, ys] j))).length := fun j => by
    unfold runsOf
    rw [List.countP_map, ← List.countP_eq_length_filter]
    rfl
  constructor
  · rintro ⟨_, h⟩ i j hi hj e1 e2
    have hm : runAt n [xs, ys] j ∈ runsOf n [xs, ys] := List.mem_map.2 ⟨j, List.mem_range.2 hj, rfl⟩
    have h3 := h _ hm
    rw [hcnt] at h3
    have h4 : ((List.range (n * n)).filter fun i => decide (keyOf8 C (runAt n [xs, ys] i) = keyOf8 C (runAt n [xs, ys] j))).length = 1 := by
      refine Nat.eq_of_mul_eq_mul_right hpos ?_
      rw [h3, Nat.one_mul]
    obtain ⟨a, ha⟩ := List.length_eq_one_iff.1 h4
    have m1 : i ∈ (List.range (n * n)).filter fun i => decide (keyOf8 C (runAt n [xs, ys] i) = keyOf8 C (runAt n [xs, ys] j)) := List.mem_filter.2 ⟨List.mem_range.2 hi, by rw [decide_eq_true_iff, hkey]; exact ⟨e1, e2⟩⟩
    have m2 : j ∈ (List.range (n * n)).filter fun i => decide (keyOf8 C (runAt n [xs, ys] i) = keyOf8 C (runAt n [xs, ys] j)) := List.mem_filter.2 ⟨List.mem_range.2 hj, by rw [decide_eq_true_iff]⟩
    rw [ha] at m1 m2
    rw [List.mem_singleton.1 m1, List.mem_singleton.1 m2]
  · intro ht
    refine ⟨Nat.le_refl _, fun r hr => ?_⟩
    obtain ⟨j, hj, rfl⟩ := List.mem_map.1 hr
    have hj' := List.mem_range.1 hj
    rw [hcnt]
    have h5 : ((List.range (n * n)).filter fun i => decide (keyOf8 C (runAt n [xs, ys] i) = keyOf8 C (runAt n [xs, ys] j))).length = ((List.range (n * n)).filter fun i => i == j).length := by
      congr 1
      refine List.filter_congr fun i hi => ?_
      rw [Bool.eq_iff_iff, decide_eq_true_iff, beq_iff_eq, hkey]
      constructor
      · rintro ⟨e1, e2⟩; exact ht i j (List.mem_range.1 hi) hj' e1 e2
      · rintro rfl; exact ⟨rfl, rfl⟩
    have h6 : ((List.range (n * n)).filter fun i => i == j).length = [j].length := nodup_len_eq (List.Pairwise.filter _ List.nodup_range) (by simp) fun x => by
      rw [List.mem_filter, List.mem_singleton, beq_iff_eq]
      exact ⟨fun h => h.2, fun h => ⟨h ▸ hj, h⟩⟩
    rw [h5, h6, List.length_singleton, Nat.one_mul]

/-- Orthogonal. -/
def Ortho (xs ys : List Int) (m : Nat) : Prop := ∀ i j, i < j → j < m → ¬ (nth xs i = nth xs j ∧ nth ys i = nth ys j)
theorem ortho_tells {n : Nat} {xs ys : List Int} : Ortho xs ys (n * n) ↔ Tells n xs ys 2 3 := by
  constructor
  · intro h i j hi hj e1 e2
    rw [run_2, run_2] at e1
    rw [run_3, run_3] at e2
    rcases Nat.lt_trichotomy i j with hlt | hlt | hlt
    · exact absurd ⟨e1, e2⟩ (h i j hlt hj)
    · exact hlt
    · exact absurd ⟨e1.symm, e2.symm⟩ (h j i hlt hi)
  · rintro h i j hij hj ⟨e1, e2⟩
    have := h i j (by omega) hj (by rw [run_2, run_2]; exact e1) (by rw [run_3, run_3]; exact e2)
    omega

theorem runs_good {n : Nat} {xs ys : List Int} (hx : IsLatin n xs) (hy : IsLatin n ys) (h2 : 2 ≤ n) : RunsAre n (runsOf n [xs, ys]) 0 ∧ (row (runsOf n [xs, ys]) 0).length = 4 :=
  runs_zero (s := n) (k := 4) (by omega) (by have := hx.big; omega) (by rw [runs_len]; exact Nat.mul_pos (by omega) (by omega)) (by rw [runs_len]; have : n * n ≤ 8 * 8 := Nat.mul_le_mul hx.big hx.big; omega) (by omega) (by omega)
    fun r hr => by
      obtain ⟨i, hi, rfl⟩ := List.mem_map.1 hr
      exact ⟨rfl, run_lev hx hy (List.mem_range.1 hi)⟩

theorem squares_law {n t : Nat} {xs ys : List Int} (hx : IsLatin n xs) (hy : IsLatin n ys) (h2 : 2 ≤ n) (hs : StrengthIs n (runsOf n [xs, ys]) t) : 2 ≤ t ↔ Ortho xs ys (n * n) := by
  rw [ortho_tells]
  obtain ⟨t1, t2, t3⟩ := hs
  rw [(runs_good hx hy h2).2] at t1 t2 t3
  obtain ⟨s1, s2, s4, s8, s3, s5, s9, s6, s10, s12⟩ := in_sets
  constructor
  · intro ht
    exact (alike_two hx 12 2 3 (by omega) (by omega) s12 (by decide)).1 (t2 12 (by decide) (by decide) (by rw [show onesOf 12 = 2 by decide]; exact ht))
  · intro ho
    rcases t3 with t3 | ⟨C, c1, c2, c3⟩
    · omega
    · by_cases hlt : 2 ≤ t
      · exact hlt
      · exfalso
        apply c3
        have h16 : C < 16 := c1
        have hcase : onesOf C = 1 ∨ onesOf C = 2 := by omega
        rcases hcase with h | h
        · rcases single_col C h16 h with rfl | rfl | rfl | rfl
          · exact alike_one hx hy 1 0 1 (by omega) (by omega) s1 h (tells_01 n xs ys)
          · exact alike_one hx hy 2 1 0 (by omega) (by omega) s2 h (tells_01 n xs ys).symm
          · exact alike_one hx hy 4 2 0 (by omega) (by omega) s4 h (tells_02 ys hx).symm
          · exact alike_one hx hy 8 3 0 (by omega) (by omega) s8 h (tells_03 xs hy).symm
        · rcases double_col C h16 h with rfl | rfl | rfl | rfl | rfl | rfl
          · exact (alike_two hx 3 0 1 (by omega) (by omega) s3 h).2 (tells_01 n xs ys)
          · exact (alike_two hx 5 0 2 (by omega) (by omega) s5 h).2 (tells_02 ys hx)
          · exact (alike_two hx 9 0 3 (by omega) (by omega) s9 h).2 (tells_03 xs hy)
          · exact (alike_two hx 6 1 2 (by omega) (by omega) s6 h).2 (tells_12 ys hx)
          · exact (alike_two hx 10 1 3 (by omega) (by omega) s10 h).2 (tells_13 xs hy)
          · exact (alike_two hx 12 2 3 (by omega) (by omega) s12 h).2 ho

end Go.Proofs.Ytnhdngnolepkcaa
