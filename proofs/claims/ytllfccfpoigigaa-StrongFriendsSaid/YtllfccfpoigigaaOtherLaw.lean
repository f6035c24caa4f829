/- The other of a graph: its numbers, by counting; plain. -/
import Derived.Test.YtllfccfpoigigaaStrongFact
import Derived.Test.YtllfccfpoigigaaOtherOf
namespace Go.Proofs.Ytllfccfpoigigaa
open Go.RowKit

/-- The other's cells. -/
def otherTab (xs : List Int) (n : Nat) : List Int := tab (flat n (joinCell (notJoined xs n))) (n * n)
theorem otherTab_at {xs : List Int} {n : Nat} (h : IsTab n xs) {i j : Nat} (hi : i < n) (hj : j < n) : nth (otherTab xs n) (i * n + j) = if i = j then 0 else 1 - nth xs (i * n + j) := by
  have hp := place_lt hi hj
  unfold otherTab
  rw [nth_tab _ _ _ hp, flat_at _ hj]
  unfold joinCell notJoined
  rcases nth_bit h _ hp with hb | hb <;> by_cases he : i = j <;> simp [hb, he]
theorem otherTab_tab {xs : List Int} {n : Nat} (h : IsTab n xs) : IsTab n (otherTab xs n) :=
  ⟨h.one, h.big, tab_length _ _, fun x hx => by
    obtain ⟨k, hk, rfl⟩ := List.getElem_of_mem hx
    have hk2 : k < n * n := by rw [← show (otherTab xs n).length = n * n from tab_length _ _]; exact hk
    rw [← nth_eq _ _ hk]
    unfold otherTab
    rw [nth_tab _ _ _ hk2]
    unfold flat joinCell
    split <;> simp⟩
theorem otherTab_sym {xs : List Int} {n : Nat} (h : IsTab n xs) (hs : IsSym n xs) : IsSym n (otherTab xs n) := fun i j hi hj => by
  have hj' : j < n := by omega
  rw [otherTab_at h hi hj', otherTab_at h hj' hi, (hs i j hi hj).1]
  refine ⟨?_, fun e => by rw [if_pos e]⟩
  by_cases e : i = j
  · rw [if_pos e, if_pos e.symm]
  · rw [if_neg e, if_neg (fun h => e h.symm)]
theorem sym_at {xs : List Int} {n : Nat} (hs : IsSym n xs) {i j : Nat} (hi : i < n) (hj : j < n) : nth xs (i * n + j) = nth xs (j * n + i) := by
  rcases Nat.le_total j i with h | h
  · exact (hs i j hi h).1
  · exact (hs j i hj h).1.symm
theorem otherTab_twice {xs : List Int} {n : Nat} (h : IsTab n xs) (hs : IsSym n xs) : otherTab (otherTab xs n) n = xs := by
  refine nth_ext _ _ (by rw [h.len]; exact tab_length _ _) fun p hp => ?_
  have hp2 : p < n * n := by rwa [show (otherTab (otherTab xs n) n).length = n * n from tab_length _ _] at hp
  have h1 := h.one
  have hi : p / n < n := Nat.div_lt_of_lt_mul hp2
  have hj : p % n < n := Nat.mod_lt _ h1
  have hpe : p = p / n * n + p % n := by rw [Nat.mul_comm]; exact (Nat.div_add_mod p n).symm
  rw [hpe, otherTab_at (otherTab_tab h) hi hj, otherTab_at h hi hj]
  split
  · rename_i e
    rw [← e]
    exact ((hs _ _ hi (Nat.le_refl _)).2 rfl).symm
  · omega

/-- How many are joined to both of two, in the other graph. -/
theorem com_other {xs : List Int} {n : Nat} (h : IsTab n xs) (hs : IsSym n xs) {i j : Nat} (hi : i < n) (hj : j < n) (hij : i ≠ j) : ∀ k, k ≤ n →
    comTo (otherTab xs n) n i j k = k - comTo xs n i i k - comTo xs n j j k + comTo xs n i j k - (if i < k then 1 - nth xs (j * n + i) else 0) - (if j < k then 1 - nth xs (i * n + j) else 0)
  | 0, _ => by simp [comTo]
  | k + 1, hk => by
    have ih := com_other h hs hi hj hij k (by omega)
    have hkn : k < n := by omega
    rw [comTo, comTo, comTo, comTo, otherTab_at h hi hkn, otherTab_at h hj hkn, ih]
    have b1 := nth_bit h _ (place_lt hi hkn)
    have b2 := nth_bit h _ (place_lt hj hkn)
    by_cases e1 : i = k
    · subst e1
      have z := (hs i i hi (Nat.le_refl _)).2 rfl
      have f1 : (if i = i then (0 : Int) else 1 - nth xs (i * n + i)) = 0 := if_pos rfl
      have f2 : (if i < i + 1 then 1 - nth xs (j * n + i) else 0) = 1 - nth xs (j * n + i) := if_pos (by omega)
      have f3 : (if i < i then 1 - nth xs (j * n + i) else 0) = 0 := if_neg (by omega)
      rw [f1, f2, f3, z]
      have e3 : (if j < i + 1 then 1 - nth xs (i * n + j) else 0) = (if j < i then 1 - nth xs (i * n + j) else 0) := by
        by_cases h3 : j < i
        · rw [if_pos h3, if_pos (by omega)]
        · rw [if_neg h3, if_neg (by omega)]
      rw [e3]
      rcases b2 with b2 | b2 <;> rw [b2] <;> simp <;> omega
    · by_cases e2 : j = k
      · subst e2
        have z := (hs j j hj (Nat.le_refl _)).2 rfl
        have e3 : (if i < j + 1 then 1 - nth xs (j * n + i) else 0) = (if i < j then 1 - nth xs (j * n + i) else 0) := by
          by_cases h3 : i < j
          · rw [if_pos h3, if_pos (by omega)]
          · rw [if_neg h3, if_neg (by omega)]
        have f1 : (if j = j then (0 : Int) else 1 - nth xs (j * n + j)) = 0 := if_pos rfl
        have f2 : (if j < j + 1 then 1 - nth xs (i * n + j) else 0) = 1 - nth xs (i * n + j) := if_pos (by omega)
        have f3 : (if j < j then 1 - nth xs (i * n + j) else 0) = 0 := if_neg (by omega)
        rw [if_neg e1, f1, f2, f3, e3, z]
        rcases b1 with b1 | b1 <;> rw [b1] <;> simp <;> omega
      · have e3 : (if i < k + 1 then 1 - nth xs (j * n + i) else 0) = (if i < k then 1 - nth xs (j * n + i) else 0) := by
          by_cases h3 : i < k
          · rw [if_pos h3, if_pos (by omega)]
          · rw [if_neg h3, if_neg (by omega)]
        have e4 : (if j < k + 1 then 1 - nth xs (i * n + j) else 0) = (if j < k then 1 - nth xs (i * n + j) else 0) := by
          by_cases h3 : j < k
          · rw [if_pos h3, if_pos (by omega)]
          · rw [if_neg h3, if_neg (by omega)]
        rw [e3, e4, if_neg e1, if_neg e2]
        obtain ⟨u, hu⟩ : ∃ u, (if i < k then 1 - nth xs (j * n + i) else 0) = u := ⟨_, rfl⟩
        obtain ⟨v, hv⟩ : ∃ v, (if j < k then 1 - nth xs (i * n + j) else 0) = v := ⟨_, rfl⟩
        rw [hu, hv]
        rcases b1 with b1 | b1 <;> rcases b2 with b2 | b2 <;> rw [b1, b2] <;> simp <;> omega
theorem com_other_self {xs : List Int} {n : Nat} (h : IsTab n xs) (hs : IsSym n xs) {i : Nat} (hi : i < n) : ∀ k, k ≤ n →
    comTo (otherTab xs n) n i i k = k - comTo xs n i i k - (if i < k then 1 else 0)
  | 0, _ => by simp [comTo]
  | k + 1, hk => by
    have ih := com_other_self h hs hi k (by omega)
    have hkn : k < n := by omega
    rw [comTo, comTo, otherTab_at h hi hkn, ih]
    have b1 := nth_bit h _ (place_lt hi hkn)
    by_cases e1 : i = k
    · subst e1
      have z := (hs i i hi (Nat.le_refl _)).2 rfl
      have f1 : (if i = i then (0 : Int) else 1 - nth xs (i * n + i)) = 0 := if_pos rfl
      have f2 : (if i < i + 1 then (1 : Int) else 0) = 1 := if_pos (by omega)
      have f3 : (if i < i then (1 : Int) else 0) = 0 := if_neg (by omega)
      rw [f1, f2, f3, z]
      simp <;> omega
    · have e3 : (if i < k + 1 then (1 : Int) else 0) = (if i < k then 1 else 0) := by
        by_cases h3 : i < k
        · rw [if_pos h3, if_pos (by omega)]
        · rw [if_neg h3, if_neg (by omega)]
      rw [e3, if_neg e1]
      obtain ⟨u, hu⟩ : ∃ u, (if i < k then (1 : Int) else 0) = u := ⟨_, rfl⟩
      rw [hu]
      rcases b1 with b1 | b1 <;> rw [b1] <;> simp <;> omega

/-- What no clash says. -/
theorem numbers_of {xs : List Int} {n : Nat} (h : IsTab n xs) (hc : ¬ Clash xs n) :
    (∀ p, p < n → comTo xs n p p n = outOf xs n 2) ∧ ∀ p, p < n → ∀ q, q < p → comTo xs n p q n = if nth xs (p * n + q) = 1 then outOf xs n 1 else outOf xs n 0 := by
  have hu : ∀ c x, SeenO xs n n c x → x = outOf xs n c := fun c x hx => by
    unfold outOf
    rw [dif_pos ⟨x, hx⟩]
    have hs := Classical.choose_spec (p := fun m => SeenO xs n n c m) ⟨x, hx⟩
    by_cases e : x = Classical.choose (p := fun m => SeenO xs n n c m) ⟨x, hx⟩
    · exact e
    · exact absurd ⟨c, _, _, hx, hs, e⟩ hc
  refine ⟨fun p hp => hu 2 _ (.inl ⟨p, hp, rfl, rfl⟩), fun p hp q hq => ?_⟩
  have hb := nth_bit h (p * n + q) (place_lt hp (by omega))
  rcases hb with hb | hb
  · rw [if_neg (by omega)]
    exact hu 0 _ (.inr ⟨p, q, hp, hq, hb.symm, rfl⟩)
  · rw [if_pos hb]
    exact hu 1 _ (.inr ⟨p, q, hp, hq, hb.symm, rfl⟩)
theorem some_joined {xs : List Int} {n : Nat} (h : IsTab n xs) (hs : IsSym n xs) (hc : ¬ Clash xs n) (h0 : outOf xs n 2 ≠ 0) : ∃ p q, p < n ∧ q < p ∧ nth xs (p * n + q) = 1 := by
  have h1 := h.one
  have hd := (numbers_of h hc).1 0 h1
  by_cases hall : ∀ k, k < n → nth xs (0 * n + k) = 0
  · exfalso
    have hz : ∀ k, k ≤ n → comTo xs n 0 0 k = 0 := fun k => by
      induction k with
      | zero => intro _; rfl
      | succ k ih => intro hk; rw [comTo, ih (by omega), hall k (by omega)]; rfl
    rw [hz n (Nat.le_refl _)] at hd
    exact h0 hd.symm
  · obtain ⟨k, hk⟩ := Classical.not_forall.1 hall
    obtain ⟨hk1, hk2⟩ := Classical.not_imp.1 hk
    have hb := nth_bit h (0 * n + k) (place_lt h1 hk1)
    have hk0 : 0 < k := by
      rcases Nat.eq_zero_or_pos k with rfl | hp
      · exact absurd ((hs 0 0 h1 (Nat.le_refl _)).2 rfl) hk2
      · exact hp
    refine ⟨k, 0, hk1, hk0, ?_⟩
    rw [sym_at hs hk1 h1]
    omega

/-- The other's numbers. -/
theorem other_numbers {xs : List Int} {n : Nat} (h : IsTab n xs) (hs : IsSym n xs) (hc : ¬ Clash xs n) :
    ¬ Clash (otherTab xs n) n ∧ outOf (otherTab xs n) n 2 = (n : Int) - 1 - outOf xs n 2 ∧
      (outOf (otherTab xs n) n 2 ≠ 0 → outOf (otherTab xs n) n 1 = (n : Int) - 2 - 2 * outOf xs n 2 + outOf xs n 0) ∧
      (outOf xs n 2 ≠ 0 → outOf (otherTab xs n) n 0 = (n : Int) - 2 * outOf xs n 2 + outOf xs n 1) := by
  obtain ⟨hd, hl⟩ := numbers_of h hc
  have hd2 : ∀ p, p < n → comTo (otherTab xs n) n p p n = (n : Int) - 1 - outOf xs n 2 := fun p hp => by
    rw [com_other_self h hs hp n (Nat.le_refl _), if_pos hp, hd p hp]; omega
  have hl2 : ∀ p, p < n → ∀ q, q < p → comTo (otherTab xs n) n p q n = if nth (otherTab xs n) (p * n + q) = 1 then (n : Int) - 2 - 2 * outOf xs n 2 + outOf xs n 0 else (n : Int) - 2 * outOf xs n 2 + outOf xs n 1 := fun p hp q hq => by
    have hqn : q < n := by omega
    rw [com_other h hs hp hqn (by omega) n (Nat.le_refl _), if_pos hp, if_pos hqn, hd p hp, hd q hqn, hl p hp q hq, ← sym_at hs hp hqn, otherTab_at h hp hqn, if_neg (show ¬ p = q by omega)]
    have hb := nth_bit h (p * n + q) (place_lt hp hqn)
    rcases hb with hb | hb <;> rw [hb] <;> simp <;> omega
  have hk := strong_known (otherTab_tab h) hd2 hl2
  refine ⟨hk.1, hk.2.1, fun h0 => hk.2.2.1 (some_joined (otherTab_tab h) (otherTab_sym h hs) hk.1 h0), fun h0 => hk.2.2.2 ?_⟩
  obtain ⟨p, q, hp, hq, hb⟩ := some_joined h hs hc h0
  exact ⟨p, q, hp, hq, by rw [otherTab_at h hp (by omega), if_neg (by omega), hb]; rfl⟩
theorem other_clash {xs : List Int} {n : Nat} (h : IsTab n xs) (hs : IsSym n xs) (hc : Clash xs n) : Clash (otherTab xs n) n := by
  by_cases h2 : Clash (otherTab xs n) n
  · exact h2
  · have := (other_numbers (otherTab_tab h) (otherTab_sym h hs) h2).1
    rw [otherTab_twice h hs] at this
    exact absurd hc this
theorem outOf_bounds {xs : List Int} {n : Nat} (h : IsTab n xs) (c : Int) : 0 ≤ outOf xs n c ∧ outOf xs n c ≤ 24 := by
  unfold outOf
  split
  · rename_i hx
    have hs := Classical.choose_spec hx
    exact (seenO_c h hs).2
  · omega

end Go.Proofs.Ytllfccfpoigigaa
