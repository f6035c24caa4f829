/- The numbers of the graphs of Latin squares of side 3 and 4. Plain, no program. -/
import Derived.Test.YtdmplinncaffpaaDoorKnownTab
import Derived.Test.YtdmplinncaffpaaDoorLatinGraph
namespace Go.Proofs.YtdmplinncaffpaaDoor
open Go.RowKit

def ind (b : Bool) : Int := if b then 1 else 0
theorem ind_bd (b : Bool) : 0 ≤ ind b ∧ ind b ≤ 1 := by cases b <;> decide
/-- At most one. -/
theorem sm_ind_le {f : Nat → Bool} : ∀ n, (∀ i j, i < n → j < n → f i = true → f j = true → i = j) → sm (fun i => ind (f i)) n ≤ 1
  | 0, _ => by simp [sm]
  | n + 1, h => by
    rw [sm_succ]
    cases hn : f n with
    | false => have := sm_ind_le n fun i j hi hj => h i j (by omega) (by omega); unfold ind at this ⊢; simpa using this
    | true =>
      have : sm (fun i => ind (f i)) n = 0 := sm_nil n fun i hi => by
        cases he : f i with
        | false => rfl
        | true => have := h i n (by omega) (by omega) he hn; omega
      rw [this]; unfold ind; simp
/-- One to one is onto. -/
theorem sm_hit {f : Nat → Int} {n : Nat} (hf : ∀ i, i < n → 0 ≤ f i ∧ f i < n) (hi : ∀ i j, i < n → j < n → f i = f j → i = j) {v : Int} (hv : 0 ≤ v) (hvn : v < n) : sm (fun i => ind (v == f i)) n = 1 := by
  have h1 : ∀ u : Nat, sm (fun i => ind ((u : Int) == f i)) n ≤ 1 := fun u => sm_ind_le n fun i j hi' hj' e1 e2 => hi i j hi' hj' (by
    rw [beq_iff_eq] at e1 e2; omega)
  have h2 : sm (fun u : Nat => sm (fun i => ind ((u : Int) == f i)) n) n = n := by
    rw [sm_swap]
    have h3 : ∀ i, i < n → sm (fun u : Nat => ind ((u : Int) == f i)) n = 1 := fun i hi' => by
      have hb := hf i hi'
      rw [sm_one (k := (f i).toNat) n (by omega) (fun u _ hne => by
        have : ((u : Int) == f i) = false := by rw [beq_eq_false_iff_ne]; omega
        rw [this]; rfl)]
      have : ((((f i).toNat : Nat) : Int) == f i) = true := by rw [beq_iff_eq]; omega
      rw [this]; rfl
    rw [sm_congr n h3]
    have h4 : ∀ m : Nat, sm (fun _ => (1 : Int)) m = m := fun m => by
      induction m with
      | zero => rfl
      | succ m ih => rw [sm_succ, ih]; omega
    exact h4 n
  have h5 : ∀ m : Nat, sm (fun u : Nat => sm (fun i => ind ((u : Int) == f i)) n) m ≤ m := fun m => by
    induction m with
    | zero => simp [sm]
    | succ m ih => rw [sm_succ]; have := h1 m; omega
  have h6 : ∀ m : Nat, ∀ u, u < m → sm (fun i => ind ((u : Int) == f i)) n < 1 → sm (fun u : Nat => sm (fun i => ind ((u : Int) == f i)) n) m < m := fun m => by
    induction m with
    | zero => intro u hu; omega
    | succ m ih =>
      intro u hu hl
      rw [sm_succ]
      by_cases e : u = m
      · rw [← e]; have := h5 u; omega
      · have := ih u (by omega) hl; have := h1 m; omega
  obtain ⟨u, rfl⟩ : ∃ u : Nat, v = u := ⟨v.toNat, by omega⟩
  by_cases e : sm (fun i => ind ((u : Int) == f i)) n < 1
  · have := h6 n u (by omega) e; omega
  · have := h1 u; omega

theorem sm_split (g : Nat → Int) (n : Nat) : ∀ m, sm g (m * n) = sm (fun r => sm (fun c => g (r * n + c)) n) m
  | 0 => by rw [Nat.zero_mul]; rfl
  | m + 1 => by
    rw [sm_succ, ← sm_split g n m, Nat.succ_mul]
    have h : ∀ k, sm g (m * n + k) = sm g (m * n) + sm (fun c => g (m * n + c)) k := fun k => by
      induction k with
      | zero => simp [sm]
      | succ k ih => rw [← Nat.add_assoc, sm_succ, ih, sm_succ, Int.add_assoc]
    exact h n

section
variable {n : Nat} {xs : List Int} (hL : IsLatin n xs)
include hL
theorem lat_at {r c : Nat} (hr : r < n) (hc : c < n) : 0 ≤ nth xs (r * n + c) ∧ nth xs (r * n + c) < n := hL.at _ (place_lt hr hc)
theorem lat_same {i j : Nat} (hi : i < n * n) (hj : j < n * n) (he : nth xs i = nth xs j) (h : i / n = j / n ∨ i % n = j % n) : i = j := by
  rcases Nat.lt_trichotomy i j with h1 | h1 | h1
  · have := hL.once i j h1 hj he; omega
  · exact h1
  · have := hL.once j i h1 hi he.symm; omega
/-- Each number once in a row, and once in a column. -/
theorem lat_row {r : Nat} (hr : r < n) {v : Int} (hv : 0 ≤ v) (hvn : v < n) : sm (fun c => ind (v == nth xs (r * n + c))) n = 1 :=
  sm_hit (fun c hc => lat_at hL hr hc) (fun c d hc hd e => by
    have := lat_same hL (place_lt hr hc) (place_lt hr hd) e (.inl (by rw [Nat.mul_comm, Nat.mul_add_div (by omega), Nat.mul_add_div (by omega), Nat.div_eq_of_lt hc, Nat.div_eq_of_lt hd])); omega) hv hvn
theorem lat_col {c : Nat} (hc : c < n) {v : Int} (hv : 0 ≤ v) (hvn : v < n) : sm (fun r => ind (v == nth xs (r * n + c))) n = 1 :=
  sm_hit (fun r hr => lat_at hL hr hc) (fun r t hr ht e => by
    have := lat_same hL (place_lt hr hc) (place_lt ht hc) e (.inr (by rw [Nat.mul_comm r, Nat.mul_comm t, Nat.mul_add_mod, Nat.mul_add_mod]))
    have h : r * n = t * n := by omega
    exact Nat.eq_of_mul_eq_mul_right (by omega) h) hv hvn
end

theorem sm_const (c : Int) : ∀ n : Nat, sm (fun _ => c) n = n * c
  | 0 => by simp [sm]
  | n + 1 => by rw [sm_succ, sm_const c n, show ((n + 1 : Nat) : Int) = n + 1 by omega, Int.add_mul, Int.one_mul]
/-- One place is picked. -/
theorem sm_pick (g : Nat → Int) {n a : Nat} (ha : a < n) : sm (fun r => ind (a == r) * g r) n = g a := by
  rw [sm_one (k := a) n ha (fun r _ hne => by
    have : (a == r) = false := by rw [beq_eq_false_iff_ne]; exact Ne.symm hne
    rw [this]; simp [ind])]
  simp [ind]
theorem ind_same (s t x : Int) : ind (s == x) * ind (t == x) = ind (s == t) * ind (s == x) := by
  by_cases h : s = t
  · subst h; cases h2 : (s == x) <;> simp [ind]
  · have e : (s == t) = false := by rw [beq_eq_false_iff_ne]; exact h
    rw [e]
    by_cases h1 : s = x
    · have : (t == x) = false := by rw [beq_eq_false_iff_ne]; omega
      rw [this]; simp [ind]
    · have : (s == x) = false := by rw [beq_eq_false_iff_ne]; exact h1
      rw [this]; simp [ind]
theorem indn_same (s t x : Nat) : ind (s == x) * ind (t == x) = ind (s == t) * ind (s == x) := by
  have := ind_same (s : Int) t x
  have e : ∀ a b : Nat, ((a : Int) == (b : Int)) = (a == b) := fun a b => by
    rw [Bool.eq_iff_iff, beq_iff_eq, beq_iff_eq]; omega
  rwa [e, e, e] at this

/-- Row, column and number in common. -/
def latE (n : Nat) (xs : List Int) (i r c : Nat) : Int := ind (i / n == r) + ind (i % n == c) + ind (nth xs i == nth xs (r * n + c))
theorem nine (a b c d e f : Int) : (a + b + c) * (d + e + f) = a * d + a * e + a * f + (b * d + b * e + b * f) + (c * d + c * e + c * f) := by
  simp only [Int.add_mul, Int.mul_add]
  omega
theorem latE_sum {n : Nat} {xs : List Int} (hL : IsLatin n xs) {i j : Nat} (hi : i < n * n) (hj : j < n * n) :
    sm (fun r => sm (fun c => latE n xs i r c * latE n xs j r c) n) n = n * (ind (i / n == j / n) + ind (i % n == j % n) + ind (nth xs i == nth xs j)) + 6 := by
  have h1 := hL.one
  have ha : i / n < n := Nat.div_lt_of_lt_mul hi
  have ha' : j / n < n := Nat.div_lt_of_lt_mul hj
  have hb : i % n < n := Nat.mod_lt _ h1
  have hb' : j % n < n := Nat.mod_lt _ h1
  obtain ⟨hs, hsn⟩ := hL.at i hi
  obtain ⟨ht, htn⟩ := hL.at j hj
  unfold latE
  have hin : ∀ r, r < n → sm (fun c => (ind (i / n == r) + ind (i % n == c) + ind (nth xs i == nth xs (r * n + c))) * (ind (j / n == r) + ind (j % n == c) + ind (nth xs j == nth xs (r * n + c)))) n =
      n * (ind (i / n == j / n) * ind (i / n == r)) + ind (i / n == r) + ind (i / n == r) + (ind (j / n == r) + ind (i % n == j % n) + ind (nth xs j == nth xs (r * n + i % n))) + (ind (j / n == r) + ind (nth xs i == nth xs (r * n + j % n)) + ind (nth xs i == nth xs j)) := fun r hr => by
    rw [sm_congr n fun c _ => nine _ _ _ _ _ _]
    simp only [sm_add]
    have p1 : sm (fun c => ind (i / n == r) * ind (j / n == r)) n = n * (ind (i / n == j / n) * ind (i / n == r)) := by rw [sm_const, indn_same]
    have p2 : sm (fun c => ind (i / n == r) * ind (j % n == c)) n = ind (i / n == r) := by
      rw [sm_congr n fun c _ => Int.mul_comm _ _]; exact sm_pick (fun _ => ind (i / n == r)) hb'
    have p3 : sm (fun c => ind (i / n == r) * ind (nth xs j == nth xs (r * n + c))) n = ind (i / n == r) := by rw [sm_mul, lat_row hL hr ht htn, Int.mul_one]
    have p4 : sm (fun c => ind (i % n == c) * ind (j / n == r)) n = ind (j / n == r) := sm_pick (fun _ => ind (j / n == r)) hb
    have p5 : sm (fun c => ind (i % n == c) * ind (j % n == c)) n = ind (i % n == j % n) := by
      rw [sm_pick (fun c => ind (j % n == c)) hb]; congr 1; rw [Bool.eq_iff_iff, beq_iff_eq, beq_iff_eq]; exact eq_comm
    have p6 : sm (fun c => ind (i % n == c) * ind (nth xs j == nth xs (r * n + c))) n = ind (nth xs j == nth xs (r * n + i % n)) := sm_pick (fun c => ind (nth xs j == nth xs (r * n + c))) hb
    have p7 : sm (fun c => ind (nth xs i == nth xs (r * n + c)) * ind (j / n == r)) n = ind (j / n == r) := by rw [sm_mulr, lat_row hL hr hs hsn, Int.one_mul]
    have p8 : sm (fun c => ind (nth xs i == nth xs (r * n + c)) * ind (j % n == c)) n = ind (nth xs i == nth xs (r * n + j % n)) := by
      rw [sm_congr n fun c _ => Int.mul_comm _ _]; exact sm_pick (fun c => ind (nth xs i == nth xs (r * n + c))) hb'
    have p9 : sm (fun c => ind (nth xs i == nth xs (r * n + c)) * ind (nth xs j == nth xs (r * n + c))) n = ind (nth xs i == nth xs j) := by
      rw [sm_congr n fun c _ => ind_same _ _ _, sm_mul, lat_row hL hr hs hsn, Int.mul_one]
    rw [p1, p2, p3, p4, p5, p6, p7, p8, p9]
  rw [sm_congr n hin]
  simp only [sm_add, sm_mul, sm_const]
  have q : ∀ a, a < n → sm (fun r => ind (a == r)) n = 1 := fun a h => by
    have := sm_pick (fun _ => 1) h
    simpa using this
  rw [q _ ha, q _ ha', lat_col hL hb ht htn, lat_col hL hb' hs hsn]
  simp only [Int.mul_add, Int.mul_one]
  omega

theorem div_mod_at (k n : Nat) : k / n * n + k % n = k := by rw [Nat.mul_comm]; exact Nat.div_add_mod k n
theorem join_latE {n : Nat} {xs : List Int} (hL : IsLatin n xs) {i k : Nat} (hi : i < n * n) (hk : k < n * n) : joinCell (latJoin n xs) i k = latE n xs i (k / n) (k % n) - 3 * ind (i == k) := by
  unfold joinCell latJoin latE
  rw [div_mod_at]
  by_cases e : i = k
  · subst e
    simp [ind]
  · have e0 : (i == k) = false := by rw [beq_eq_false_iff_ne]; exact e
    have e1 : (((i / n : Nat) : Int) == ((k / n : Nat) : Int)) = (i / n == k / n) := by rw [Bool.eq_iff_iff, beq_iff_eq, beq_iff_eq]; omega
    have e2 : (((i % n : Nat) : Int) == ((k % n : Nat) : Int)) = (i % n == k % n) := by rw [Bool.eq_iff_iff, beq_iff_eq, beq_iff_eq]; omega
    have h12 : (i / n == k / n) = true → (i % n == k % n) = true → False := fun a b => by
      rw [beq_iff_eq] at a b
      have h1 := div_mod_at i n
      have h2 := div_mod_at k n
      rw [a, b] at h1
      omega
    have h13 : (i / n == k / n) = true → (nth xs i == nth xs k) = true → False := fun a b => e (lat_same hL hi hk (by simpa using b) (.inl (by simpa using a)))
    have h23 : (i % n == k % n) = true → (nth xs i == nth xs k) = true → False := fun a b => e (lat_same hL hi hk (by simpa using b) (.inr (by simpa using a)))
    rw [e0, e1, e2]
    revert h12 h13 h23
    cases (i / n == k / n) <;> cases (i % n == k % n) <;> cases (nth xs i == nth xs k) <;> simp [ind, e]

theorem four_parts (a b c d : Int) : (a - 3 * b) * (c - 3 * d) = a * c - 3 * (d * a) - 3 * (b * c) + 9 * (b * d) := by
  have h1 : a * (3 * d) = 3 * (d * a) := by rw [Int.mul_left_comm, Int.mul_comm a d]
  have h2 : 3 * b * c = 3 * (b * c) := Int.mul_assoc _ _ _
  have h3 : 3 * b * (3 * d) = 9 * (b * d) := by rw [Int.mul_assoc, Int.mul_left_comm b, ← Int.mul_assoc]; rfl
  rw [Int.sub_mul, Int.mul_sub, Int.mul_sub, h1, h2, h3]
  omega
theorem comF_latin {n : Nat} {xs : List Int} (hL : IsLatin n xs) {i j : Nat} (hi : i < n * n) (hj : j < n * n) :
    comF (joinCell (latJoin n xs)) (n * n) i j = n * latE n xs i (j / n) (j % n) + 6 - 3 * latE n xs i (j / n) (j % n) - 3 * latE n xs j (i / n) (i % n) + 9 * ind (i == j) := by
  have h1 := hL.one
  unfold comF
  rw [sm_congr (g := fun k => latE n xs i (k / n) (k % n) * latE n xs j (k / n) (k % n) - 3 * (ind (j == k) * latE n xs i (k / n) (k % n)) - 3 * (ind (i == k) * latE n xs j (k / n) (k % n)) + 9 * (ind (i == k) * ind (j == k))) (n * n) fun k hk => by
    rw [join_latE hL hi hk, join_latE hL hj hk, four_parts]]
  simp only [sm_add, sm_sub, sm_mul]
  rw [sm_pick (fun k => latE n xs i (k / n) (k % n)) hj, sm_pick (fun k => latE n xs j (k / n) (k % n)) hi, sm_pick (fun k => ind (j == k)) hi]
  rw [sm_split (fun k => latE n xs i (k / n) (k % n) * latE n xs j (k / n) (k % n)) n n]
  rw [sm_congr n fun r hr => sm_congr n fun c hc => by
    show _ = latE n xs i r c * latE n xs j r c
    have e1 : (r * n + c) / n = r := by rw [Nat.mul_comm, Nat.mul_add_div (by omega), Nat.div_eq_of_lt hc, Nat.add_zero]
    have e2 : (r * n + c) % n = c := by rw [Nat.mul_comm, Nat.mul_add_mod, Nat.mod_eq_of_lt hc]
    rw [e1, e2]]
  rw [latE_sum hL hi hj]
  have e3 : (j == i) = (i == j) := by rw [Bool.eq_iff_iff, beq_iff_eq, beq_iff_eq]; exact eq_comm
  rw [e3]
  show _ = (n : Int) * (ind (i / n == j / n) + ind (i % n == j % n) + ind (nth xs i == nth xs (j / n * n + j % n))) + 6 - _ - _ + _
  rw [div_mod_at]

theorem latE_self (n : Nat) (xs : List Int) (i : Nat) : latE n xs i (i / n) (i % n) = 3 := by
  unfold latE; rw [div_mod_at]; simp [ind]
theorem latE_symm (n : Nat) (xs : List Int) (i j : Nat) : latE n xs i (j / n) (j % n) = latE n xs j (i / n) (i % n) := by
  have h : ∀ a b : Nat, (a == b) = (b == a) := fun a b => by rw [Bool.eq_iff_iff, beq_iff_eq, beq_iff_eq]; exact eq_comm
  have h' : ∀ a b : Int, (a == b) = (b == a) := fun a b => by rw [Bool.eq_iff_iff, beq_iff_eq, beq_iff_eq]; exact eq_comm
  unfold latE
  rw [div_mod_at, div_mod_at, h (i / n), h (i % n), h' (nth xs i)]
theorem latJoin_symm (n : Nat) (xs : List Int) (i j : Nat) : latJoin n xs i j = latJoin n xs j i := by
  have h' : ∀ a b : Int, (a == b) = (b == a) := fun a b => by rw [Bool.eq_iff_iff, beq_iff_eq, beq_iff_eq]; exact eq_comm
  unfold latJoin
  rw [h' ((i / n : Nat) : Int), h' ((i % n : Nat) : Int), h' (nth xs i)]

theorem latin_known {n : Nat} {xs : List Int} (hL : IsLatin n xs) (h3 : 3 ≤ n) (h4 : n ≤ 4) :
    KnownTab (n * n) (tab (flat (n * n) (joinCell (latJoin n xs))) (n * n * (n * n))) (3 * ((n : Int) - 1)) n 6 (4 ≤ n) := by
  have h16 : n * n ≤ 16 := Nat.mul_le_mul h4 h4
  have h9 : 3 * 3 ≤ n * n := Nat.mul_le_mul h3 h3
  refine known_join (by omega) (by omega) (fun i j _ _ => latJoin_symm n xs i j) (fun i hi => ?_) (fun i hi j hj => ?_) ⟨1, 0, by omega, by omega, ?_⟩ (fun hn => ?_)
  · rw [comF_latin hL hi hi, latE_self]; simp [ind]; omega
  · have hj' : j < n * n := by omega
    have e0 : (i == j) = false := by rw [beq_eq_false_iff_ne]; omega
    have h1 := join_latE hL hi hj'
    rw [comF_latin hL hi hj', ← latE_symm n xs i j]
    rw [e0] at h1 ⊢
    rcases joinCell_bit (latJoin n xs) i j with h2 | h2
    · rw [h2] at h1 ⊢
      have h5 : latE n xs i (j / n) (j % n) = 0 := by simp [ind] at h1; omega
      rw [h5]; simp [ind]
    · rw [h2] at h1 ⊢
      have h5 : latE n xs i (j / n) (j % n) = 1 := by simp [ind] at h1; omega
      rw [h5]; simp [ind]; omega
  · unfold latJoin
    rw [Nat.div_eq_of_lt (show 1 < n by omega), Nat.div_eq_of_lt (show 0 < n by omega)]
    simp
  · obtain rfl : n = 4 := by omega
    by_cases h : nth xs 5 = nth xs 0
    · refine ⟨6, 0, by omega, by omega, ?_⟩
      have h6 : nth xs 6 ≠ nth xs 0 := fun e => by have := lat_same hL (i := 6) (j := 5) (by omega) (by omega) (e.trans h.symm) (.inl rfl); omega
      have : (nth xs 6 == nth xs 0) = false := by rw [beq_eq_false_iff_ne]; exact h6
      unfold latJoin; rw [this]; decide
    · refine ⟨5, 0, by omega, by omega, ?_⟩
      have : (nth xs 5 == nth xs 0) = false := by rw [beq_eq_false_iff_ne]; exact h
      unfold latJoin; rw [this]; decide

end Go.Proofs.YtdmplinncaffpaaDoor
