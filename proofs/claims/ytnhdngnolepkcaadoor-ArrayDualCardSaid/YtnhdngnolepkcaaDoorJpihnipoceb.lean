/- How many things are of a kind; spaces over a finite field. Plain, no program. -/
import Derived.Test.YtnhdngnolepkcaaDoorJapejapnola
import Derived.Test.YtnhdngnolepkcaaDoorJinfbcjoonl
import Derived.Test.YtnhdngnolepkcaaDoorJpoobehflpg
namespace Go.Proofs.YtnhdngnolepkcaaDoor
set_option linter.unusedSectionVars false
open Fld

/-- There are m things of a kind. -/
def Card {α : Type} (S : α → Prop) (m : Nat) : Prop := ∃ l : List α, l.Nodup ∧ (∀ x, x ∈ l ↔ S x) ∧ l.length = m

theorem nodup_le {α β : Type} (f : α → β) : ∀ (l : List α) (k : List β), l.Nodup → (∀ x, x ∈ l → f x ∈ k) → (∀ x y, x ∈ l → y ∈ l → f x = f y → x = y) → l.length ≤ k.length
  | [], _, _, _, _ => Nat.zero_le _
  | x :: l, k, hn, hf, hi => by
    have hx := hf x List.mem_cons_self
    obtain ⟨a, b, rfl⟩ := List.append_of_mem hx
    have hn' := List.nodup_cons.1 hn
    have := nodup_le f l (a ++ b) hn'.2 (fun y hy => by
      have h1 := hf y (List.mem_cons_of_mem _ hy)
      rw [List.mem_append, List.mem_cons] at h1
      rcases h1 with h1 | h1 | h1
      · exact List.mem_append_left _ h1
      · exact absurd (hi y x (List.mem_cons_of_mem _ hy) List.mem_cons_self h1) (fun e => hn'.1 (e ▸ hy))
      · exact List.mem_append_right _ h1) (fun y z hy hz => hi y z (List.mem_cons_of_mem _ hy) (List.mem_cons_of_mem _ hz))
    simp only [List.length_cons, List.length_append] at this ⊢
    omega

section
variable {α β : Type}
theorem Card.le {S : α → Prop} {T : β → Prop} {m k : Nat} (h : Card S m) (h' : Card T k) (f : α → β) (hf : ∀ x, S x → T (f x)) (hi : ∀ x y, S x → S y → f x = f y → x = y) : m ≤ k := by
  obtain ⟨l, hn, hm, rfl⟩ := h
  obtain ⟨r, _, hr, rfl⟩ := h'
  exact nodup_le f l r hn (fun x hx => (hr _).2 (hf x ((hm x).1 hx))) (fun x y hx hy => hi x y ((hm x).1 hx) ((hm y).1 hy))
theorem Card.unique {S : α → Prop} {m k : Nat} (h : Card S m) (h' : Card S k) : m = k :=
  Nat.le_antisymm (h.le h' id (fun _ hx => hx) (fun _ _ _ _ e => e)) (h'.le h id (fun _ hx => hx) (fun _ _ _ _ e => e))
theorem Card.congr {S T : α → Prop} {m : Nat} (h : Card S m) (e : ∀ x, S x ↔ T x) : Card T m := by
  obtain ⟨l, hn, hm, hl⟩ := h
  exact ⟨l, hn, fun x => (hm x).trans (e x), hl⟩
theorem nodup_map (f : α → β) : ∀ l : List α, l.Nodup → (∀ x y, x ∈ l → y ∈ l → f x = f y → x = y) → (l.map f).Nodup
  | [], _, _ => List.nodup_nil
  | x :: l, hn, hi => by
    have hn' := List.nodup_cons.1 hn
    refine List.nodup_cons.2 ⟨fun hx => ?_, nodup_map f l hn'.2 fun y z hy hz => hi y z (List.mem_cons_of_mem _ hy) (List.mem_cons_of_mem _ hz)⟩
    obtain ⟨y, hy, e⟩ := List.mem_map.1 hx
    exact hn'.1 (hi y x (List.mem_cons_of_mem _ hy) List.mem_cons_self e ▸ hy)
/-- A kind that is reached one to one. -/
theorem Card.bij {S : α → Prop} {T : β → Prop} {m : Nat} (h : Card S m) (f : α → β) (hf : ∀ x, S x → T (f x)) (hi : ∀ x y, S x → S y → f x = f y → x = y) (hs : ∀ y, T y → ∃ x, S x ∧ f x = y) : Card T m := by
  obtain ⟨l, hn, hm, rfl⟩ := h
  refine ⟨l.map f, nodup_map f l hn (fun x y hx hy => hi x y ((hm x).1 hx) ((hm y).1 hy)), fun y => ?_, by simp⟩
  rw [List.mem_map]
  exact ⟨fun ⟨x, hx, e⟩ => e ▸ hf x ((hm x).1 hx), fun hy => let ⟨x, hx, e⟩ := hs y hy; ⟨x, (hm x).2 hx, e⟩⟩
theorem nodup_inj {l : List α} (h : l.Nodup) {i j : Nat} (hi : i < l.length) (hj : j < l.length) (e : l[i] = l[j]) : i = j := by
  have hp := List.pairwise_iff_getElem.1 h
  rcases Nat.lt_trichotomy i j with hl | hl | hl
  · exact absurd e (hp i j hi hj hl)
  · exact hl
  · exact absurd e.symm (hp j i hj hi hl)
theorem nodup_pairs : ∀ (l : List α) (k : List β), l.Nodup → k.Nodup → (l.flatMap fun x => k.map fun y => (x, y)).Nodup
  | [], _, _, _ => List.nodup_nil
  | x :: l, k, hn, hk => by
    have hn' := List.nodup_cons.1 hn
    rw [List.flatMap_cons]
    refine List.nodup_append.2 ⟨nodup_map _ k hk (fun y z _ _ e => congrArg Prod.snd e), nodup_pairs l k hn'.2 hk, fun a ha b hb e => ?_⟩
    obtain ⟨y, _, rfl⟩ := List.mem_map.1 ha
    obtain ⟨x', hx', hb'⟩ := List.mem_flatMap.1 hb
    obtain ⟨y', _, rfl⟩ := List.mem_map.1 hb'
    exact hn'.1 ((show x = x' from congrArg Prod.fst e) ▸ hx')
theorem length_pairs (k : List β) : ∀ l : List α, (l.flatMap fun x => k.map fun y => (x, y)).length = l.length * k.length
  | [] => by simp
  | x :: l => by rw [List.flatMap_cons, List.length_append, length_pairs k l, List.length_map, List.length_cons, Nat.add_mul]; omega
theorem Card.pairs {S : α → Prop} {T : β → Prop} {m k : Nat} (h : Card S m) (h' : Card T k) : Card (fun x : α × β => S x.1 ∧ T x.2) (m * k) := by
  obtain ⟨l, hn, hm, rfl⟩ := h
  obtain ⟨r, hr, hk, rfl⟩ := h'
  refine ⟨l.flatMap fun x => r.map fun y => (x, y), nodup_pairs l r hn hr, fun x => ?_, length_pairs r l⟩
  simp only [List.mem_flatMap, List.mem_map]
  exact ⟨fun ⟨a, ha, b, hb, e⟩ => e ▸ ⟨(hm a).1 ha, (hk b).1 hb⟩, fun ⟨h1, h2⟩ => ⟨x.1, (hm _).2 h1, x.2, (hk _).2 h2, rfl⟩⟩
theorem Card.one {S : α → Prop} (x : α) (h : ∀ y, S y ↔ y = x) : Card S 1 := ⟨[x], by simp, fun y => by simp [h], rfl⟩
theorem nodup_filter (p : α → Bool) (l : List α) (h : l.Nodup) : (l.filter p).Nodup := List.Nodup.sublist List.filter_sublist h
/-- A part of a counted kind is counted. -/
theorem Card.part {S T : α → Prop} {m : Nat} (h : Card S m) (ht : ∀ x, T x → S x) : ∃ k, Card T k := by
  obtain ⟨l, hn, hm, rfl⟩ := h
  exact ⟨_, l.filter (fun x => open Classical in decide (T x)), nodup_filter _ l hn, fun x => by
    rw [List.mem_filter, hm]
    simp only [decide_eq_true_eq]
    exact ⟨fun h => h.2, fun h => ⟨ht x h, h⟩⟩, rfl⟩
end

section
variable {K : Type} [Fld K] [DecidableEq K]
/-- The field has q elements. -/
def Fin' (K : Type) (q : Nat) : Prop := Card (fun _ : K => True) q
/-- Rows of m elements are q to the power of m. -/
theorem card_rows {q : Nat} (hq : Fin' K q) : ∀ m, Card (fun v : Nat → K => ∀ i, m ≤ i → v i = 0) (q ^ m)
  | 0 => Card.one vz fun v => ⟨fun h => funext fun i => h i (Nat.zero_le i), fun h i _ => by rw [h]; rfl⟩
  | m + 1 => by
    rw [Nat.pow_succ]
    refine ((card_rows hq m).pairs hq).bij (fun x => fun i => if i = m then x.2 else x.1 i) (fun x hx i hi => ?_) (fun x y hx hy e => ?_) (fun v hv => ?_)
    · show (if i = m then x.2 else x.1 i) = 0
      rw [if_neg (by omega)]; exact hx.1 i (by omega)
    · have h1 := congrFun e m
      simp only [if_true] at h1
      refine Prod.ext (funext fun i => ?_) h1
      have h2 := congrFun e i
      by_cases hi : i = m
      · subst hi; rw [hx.1 i (Nat.le_refl _), hy.1 i (Nat.le_refl _)]
      · simpa only [if_neg hi] using h2
    · refine ⟨(fun i => if i = m then 0 else v i, v m), ⟨fun i hi => ?_, trivial⟩, funext fun i => ?_⟩
      · show (if i = m then 0 else v i) = 0
        by_cases e : i = m
        · rw [if_pos e]
        · rw [if_neg e]; exact hv i (by omega)
      · show (if i = m then v m else if i = m then 0 else v i) = v i
        by_cases e : i = m
        · rw [if_pos e, e]
        · rw [if_neg e, if_neg e]
/-- A space with a reduced basis of m rows has q to the power of m rows. -/
theorem card_span {q n : Nat} (hq : Fin' K q) {L : List (Nat → K)} {P : Nat → Nat} (h : IsRref n L P) : Card (Span L) (q ^ L.length) := by
  refine (card_rows hq L.length).bij (fun a => fun c => ks (fun i => a i * rowAt L i c) L.length) (fun a _ => h.span.2 ⟨a, fun _ => rfl⟩) (fun a b ha hb e => funext fun i => ?_) (fun v hv => ?_)
  · by_cases hi : i < L.length
    · have h1 := congrFun e (P i)
      simp only [Rref.pick h _ hi] at h1
      exact h1
    · rw [ha i (by omega), hb i (by omega)]
  · obtain ⟨a, ha⟩ := h.span.1 hv
    refine ⟨fun i => if i < L.length then a i else 0, fun i hi => if_neg (by omega), funext fun c => ?_⟩
    rw [ha c]
    exact ks_congr _ fun i hi => by
      show (if i < L.length then a i else 0) * _ = a i * _
      rw [if_pos hi]
theorem card_pow {q : Nat} (hq : Fin' K q) : 2 ≤ q := by
  obtain ⟨l, hn, hm, rfl⟩ := hq
  have h0 : (0 : K) ∈ l := (hm 0).2 trivial
  have h1 : (1 : K) ∈ l := (hm 1).2 trivial
  match l, h0, h1 with
  | [x], h0, h1 => exact absurd ((List.mem_singleton.1 h1).trans (List.mem_singleton.1 h0).symm) one_ne
  | _ :: _ :: _, _, _ => simp
theorem rank_unique {n : Nat} {L M : List (Nat → K)} {P Q : Nat → Nat} (hL : IsRref n L P) (hM : IsRref n M Q) (hs : ∀ v, Span L v ↔ Span M v) : L.length = M.length := by rw [(rref_unique hL hM hs).1]
/-- What is normal to a space of m rows has n - m. -/
theorem card_nul {q n : Nat} (hq : Fin' K q) {L : List (Nat → K)} {P : Nat → Nat} (h : IsRref n L P) : ∃ k, k + L.length = n ∧ Card (Nul n (Span L)) (q ^ k) := by
  obtain ⟨l, hl, hlm⟩ : ∃ l : List Nat, l.Nodup ∧ ∀ c, c ∈ l ↔ c < n ∧ Rref.Free L.length P c := ⟨freeL n L.length P, nodup_filter _ _ List.nodup_range, fun _ => mem_freeL⟩
  have hcount : l.length + L.length = n := by
    have h1 : Card (fun c : Nat => c < n) n := ⟨List.range n, List.nodup_range, fun x => List.mem_range, by simp⟩
    have h2 : Card (fun c : Nat => c < n) (l ++ (List.range L.length).map P).length := by
      refine ⟨l ++ (List.range L.length).map P, List.nodup_append.2 ⟨hl, nodup_map P _ List.nodup_range (fun x y hx hy e => Rref.inj h (List.mem_range.1 hx) (List.mem_range.1 hy) e), fun a ha b hb e => ?_⟩, fun c => ?_, rfl⟩
      · obtain ⟨i, hi, rfl⟩ := List.mem_map.1 hb
        exact ((hlm a).1 ha).2 i (List.mem_range.1 hi) e.symm
      · rw [List.mem_append, hlm, List.mem_map]
        constructor
        · rintro (⟨h1, _⟩ | ⟨i, hi, rfl⟩)
          · exact h1
          · exact Rref.pn h i (List.mem_range.1 hi)
        · intro hc
          by_cases hf : Rref.Free L.length P c
          · exact .inl ⟨hc, hf⟩
          · obtain ⟨i, hi, e⟩ : ∃ i, i < L.length ∧ P i = c := Classical.byContradiction fun hn => hf fun i hi e => hn ⟨i, hi, e⟩
            exact .inr ⟨i, List.mem_range.2 hi, e⟩
    have := h1.unique h2
    simp at this
    omega
  refine ⟨l.length, hcount, ?_⟩
  have hlt : ∀ j, j < l.length → l.getD j 0 < n ∧ Rref.Free L.length P (l.getD j 0) := fun j hj => (hlm _).1 (by rw [List.getD_eq_getElem?_getD, List.getElem?_eq_getElem hj]; exact List.getElem_mem hj)
  have hinj : ∀ i j, i < l.length → j < l.length → l.getD i 0 = l.getD j 0 → i = j := fun i j hi hj e => by
    rw [List.getD_eq_getElem?_getD, List.getD_eq_getElem?_getD, List.getElem?_eq_getElem hi, List.getElem?_eq_getElem hj] at e
    exact nodup_inj hl hi hj e
  refine (card_rows hq l.length).bij (fun a => fun c => ks (fun j => a j * Rref.nv L.length (rowAt L) P (l.getD j 0) c) l.length) (fun a _ => (normV_nul h _).1 ?_) (fun a b ha hb e => funext fun j => ?_) (fun v hv => ?_)
  · exact span_ks a l.length fun j hj => span_mem ((mem_normV _).2 ⟨_, (hlt j hj).1, (hlt j hj).2, rfl⟩)
  · have key : ∀ a : Nat → K, ∀ j, j < l.length → ks (fun i => a i * Rref.nv L.length (rowAt L) P (l.getD i 0) (l.getD j 0)) l.length = a j := fun a j hj => by
      rw [ks_congr (g := fun i => a i * (if i = j then 1 else 0)) _ (fun i hi => ?_), ks_pick a hj]
      rw [Rref.nv_free _ _ (hlt j hj).2]
      by_cases e : i = j
      · rw [if_pos (by rw [e]), if_pos e]
      · rw [if_neg (fun g => e (hinj j i hj hi g).symm), if_neg e]
    by_cases hj : j < l.length
    · have h1 := congrFun e (l.getD j 0)
      simp only [key _ j hj] at h1
      exact h1
    · rw [ha j (by omega), hb j (by omega)]
  · have h1 := (normV_nul h v).2 hv
    obtain ⟨b, hb⟩ : ∃ b : Nat → K, ∀ c, v c = ks (fun j => b j * Rref.nv L.length (rowAt L) P (l.getD j 0) c) l.length := by
      refine span_le_of (S := fun v => ∃ b : Nat → K, ∀ c, v c = ks (fun j => b j * Rref.nv L.length (rowAt L) P (l.getD j 0) c) l.length) ⟨fun _ => 0, fun c => (ks_nil _ fun _ _ => zero_mul _).symm⟩ ?_ ?_ h1
      · rintro u a r ⟨b, hb⟩ ⟨d, hd⟩
        refine ⟨fun j => b j + a * d j, fun c => ?_⟩
        unfold lin
        rw [hb c, hd c, ← ks_mul, ← ks_add]
        refine ks_congr _ fun j _ => ?_
        rw [add_mul, mul_assoc]
      · intro r hr
        obtain ⟨c, hc, hf, rfl⟩ := (mem_normV r).1 hr
        obtain ⟨j, hj, e⟩ := List.mem_iff_getElem.1 ((hlm c).2 ⟨hc, hf⟩)
        refine ⟨fun i => if i = j then 1 else 0, fun x => ?_⟩
        rw [ks_congr (g := fun i => Rref.nv L.length (rowAt L) P (l.getD i 0) x * (if i = j then 1 else 0)) _ (fun i _ => mul_comm _ _), ks_pick (fun i => Rref.nv L.length (rowAt L) P (l.getD i 0) x) hj]
        rw [List.getD_eq_getElem?_getD, List.getElem?_eq_getElem hj, Option.getD_some, e]
    refine ⟨fun j => if j < l.length then b j else 0, fun j hj => if_neg (by omega), funext fun c => ?_⟩
    rw [hb c]
    exact ks_congr _ fun j hj => by
      show (if j < l.length then b j else 0) * _ = b j * _
      rw [if_pos hj]

theorem pow_inj {q a b : Nat} (hq : 2 ≤ q) (h : q ^ a = q ^ b) : a = b := by
  rcases Nat.lt_trichotomy a b with hl | hl | hl
  · have := Nat.pow_lt_pow_right (show 1 < q by omega) hl; omega
  · exact hl
  · have := Nat.pow_lt_pow_right (show 1 < q by omega) hl; omega
theorem rank_nul {q n : Nat} (hq : Fin' K q) {L M : List (Nat → K)} {P Q : Nat → Nat} (hL : IsRref n L P) (hM : IsRref n M Q) (hs : ∀ v, Span M v ↔ Nul n (Span L) v) : M.length + L.length = n := by
  obtain ⟨k, hk, hc⟩ := card_nul hq hL
  have := ((card_span hq hM).congr hs).unique hc
  rw [pow_inj (card_pow hq) this]; exact hk
/-- Join and meet have, together, as many rows as both (Grassmann). -/
theorem grassmann {q n : Nat} (hq : Fin' K q) {A B J M : List (Nat → K)} {PA PB PJ PM : Nat → Nat} (hA : IsRref n A PA) (hB : IsRref n B PB) (hJ : IsRref n J PJ) (hM : IsRref n M PM)
    (hj : ∀ v, Span J v ↔ ∃ x y, Span A x ∧ Span B y ∧ v = lin x 1 y) (hm : ∀ v, Span M v ↔ Span A v ∧ Span B v) : J.length + M.length = A.length + B.length := by
  have h1 := (card_span hq hA).pairs (card_span hq hB)
  have h2 := (card_span hq hJ).pairs (card_span hq hM)
  have hch : ∀ v, ∃ x : (Nat → K) × (Nat → K), Span J v → Span A x.1 ∧ Span B x.2 ∧ v = lin x.1 1 x.2 := fun v => by
    by_cases hv : Span J v
    · obtain ⟨x, y, h⟩ := (hj v).1 hv; exact ⟨(x, y), fun _ => h⟩
    · exact ⟨(vz, vz), fun h => absurd h hv⟩
  obtain ⟨s, hs⟩ := Classical.axiomOfChoice hch
  have h3 : Card (fun x : (Nat → K) × (Nat → K) => Span A x.1 ∧ Span B x.2) (q ^ J.length * q ^ M.length) := by
    refine h2.bij (fun x => (lin (s x.1).1 1 x.2, lin (s x.1).2 (-1) x.2)) (fun x hx => ?_) (fun x y hx hy e => ?_) (fun z hz => ?_)
    · obtain ⟨g1, g2, _⟩ := hs x.1 hx.1
      obtain ⟨m1, m2⟩ := (hm x.2).1 hx.2
      exact ⟨span_lin _ _ _ _ g1 m1, span_lin _ _ _ _ g2 m2⟩
    · obtain ⟨_, _, g3⟩ := hs x.1 hx.1
      obtain ⟨_, _, k3⟩ := hs y.1 hy.1
      have e1 : lin (s x.1).1 1 x.2 = lin (s y.1).1 1 y.2 := congrArg Prod.fst e
      have e2 : lin (s x.1).2 (-1) x.2 = lin (s y.1).2 (-1) y.2 := congrArg Prod.snd e
      have hsum : x.1 = y.1 := by
        rw [g3, k3]
        funext i
        have a1 := congrFun e1 i
        have a2 := congrFun e2 i
        unfold lin at a1 a2 ⊢
        simp only [neg_mul, one_mul] at a1 a2 ⊢
        have : ∀ p r m : K, p + r = (p + m) + (r + -m) := fun p r m => by
          have : (p + m) + (r + -m) = p + r + (m + -m) := by ac_rfl
          rw [this, add_neg, add_zero]
        rw [this _ _ (x.2 i), a1, a2, ← this]
      refine Prod.ext hsum (funext fun i => ?_)
      have a1 := congrFun e1 i
      unfold lin at a1
      rw [hsum, one_mul, one_mul] at a1
      exact add_cancel a1
    · have hv : Span J (lin z.1 1 z.2) := (hj _).2 ⟨z.1, z.2, hz.1, hz.2, rfl⟩
      obtain ⟨g1, g2, g3⟩ := hs _ hv
      have g4 : ∀ i, z.1 i + z.2 i = (s (lin z.1 1 z.2)).1 i + (s (lin z.1 1 z.2)).2 i := fun i => by
        have := congrFun g3 i
        rw [show lin z.1 1 z.2 i = z.1 i + z.2 i by unfold lin; rw [one_mul], show lin (s (lin z.1 1 z.2)).1 1 (s (lin z.1 1 z.2)).2 i = (s (lin z.1 1 z.2)).1 i + (s (lin z.1 1 z.2)).2 i by unfold lin; rw [one_mul]] at this
        exact this
      obtain ⟨t, ht⟩ : ∃ t, s (lin z.1 1 z.2) = t := ⟨_, rfl⟩
      rw [ht] at g1 g2 g4
      have hmid : lin z.1 (-1) t.1 = lin t.2 (-1) z.2 := by
        funext i
        have h := g4 i
        unfold lin
        rw [neg_mul, neg_mul, one_mul, one_mul]
        have e1 : z.1 i + -(t.1 i) = (z.1 i + z.2 i) + (-(t.1 i) + -(z.2 i)) := by
          have : (z.1 i + z.2 i) + (-(t.1 i) + -(z.2 i)) = z.1 i + -(t.1 i) + (z.2 i + -(z.2 i)) := by ac_rfl
          rw [this, add_neg, add_zero]
        rw [e1, h]
        have : t.1 i + t.2 i + (-(t.1 i) + -(z.2 i)) = t.2 i + -(z.2 i) + (t.1 i + -(t.1 i)) := by ac_rfl
        rw [this, add_neg, add_zero]
      have key : ∀ p r : K, p + 1 * (r + -1 * p) = r := fun p r => by
        rw [one_mul, neg_mul, one_mul]
        have : p + (r + -p) = r + (p + -p) := by ac_rfl
        rw [this, add_neg, add_zero]
      have key2 : ∀ p r : K, p + -1 * (p + -1 * r) = r := fun p r => by
        rw [neg_mul, neg_mul, one_mul, one_mul, neg_sum, neg_neg, ← add_assoc, add_neg, zero_add]
      have fin : (lin t.1 1 (lin z.1 (-1) t.1), lin t.2 (-1) (lin z.1 (-1) t.1)) = z := by
        refine Prod.ext (funext fun i => key _ _) ?_
        show lin t.2 (-1) (lin z.1 (-1) t.1) = z.2
        rw [hmid]
        exact funext fun i => key2 _ _
      refine ⟨(lin z.1 1 z.2, lin z.1 (-1) t.1), ⟨hv, (hm _).2 ⟨span_lin _ _ _ _ hz.1 g1, hmid.symm ▸ span_lin _ _ _ _ g2 hz.2⟩⟩, ?_⟩
      show (lin (s (lin z.1 1 z.2)).1 1 (lin z.1 (-1) t.1), lin (s (lin z.1 1 z.2)).2 (-1) (lin z.1 (-1) t.1)) = z
      rw [ht]
      exact fin
  have h4 := h3.unique h1
  rw [← Nat.pow_add, ← Nat.pow_add] at h4
  exact pow_inj (card_pow hq) h4
end
end Go.Proofs.YtnhdngnolepkcaaDoor

/- The elements of a field as a type of their own. Plain but for the words of the walk. -/
namespace Go.Proofs.YtnhdngnolepkcaaDoor
open Go.RowKit

/-- An element of the field of p, k, low. -/
structure El (p k : Nat) (low : List Int) where
  n : Nat
  h : n < p ^ k
deriving DecidableEq

theorem El.ext' {p k : Nat} {low : List Int} : ∀ {a b : El p k low}, a.n = b.n → a = b
  | ⟨_, _⟩, ⟨_, _⟩, rfl => rfl

/-- The field. -/
@[reducible] noncomputable def fldOf {p k : Nat} {low : List Int} (hF : IsField p k low) : Fld (El p k low) where
  add a b := ⟨addF p k a.n b.n, addF_lt (by have := hF.p2; omega) _ _⟩
  mul a b := ⟨mulF p k (nth low) a.n b.n, mulF_lt (by have := hF.p2; omega) _ _⟩
  neg a := ⟨negF p k a.n, negF_lt (by have := hF.p2; omega) _⟩
  zero := ⟨0, Nat.pow_pos (by have := hF.p2; omega)⟩
  one := ⟨1, one_lt_pow' hF.p2 hF.k1⟩
  inv a := if h : a.n ≠ 0 then ⟨(field_inv hF h a.h).choose, (field_inv hF h a.h).choose_spec.1⟩ else a
  add_comm a b := El.ext' (addF_comm _ _)
  add_assoc a b c := El.ext' (addF_assoc (by have := hF.p2; omega) _ _ _)
  add_zero a := El.ext' (addF_zero (by have := hF.p2; omega) _ a.h)
  add_neg a := El.ext' (addF_neg (by have := hF.p2; omega) _)
  mul_comm a b := El.ext' (mulF_comm _ _)
  mul_assoc a b c := El.ext' (mulF_assoc (by have := hF.p2; omega) hF.k1 _ _ _)
  mul_one a := El.ext' (mulF_one (by have := hF.p2; omega) hF.k1 _ a.h hF.p2)
  add_mul a b c := El.ext' (mulF_add (by have := hF.p2; omega) _ _ _)
  mul_inv a h := by
    have h0 : a.n ≠ 0 := fun e => h (El.ext' e)
    refine El.ext' ?_
    show mulF p k (nth low) a.n (if h : a.n ≠ 0 then (⟨(field_inv hF h a.h).choose, (field_inv hF h a.h).choose_spec.1⟩ : El p k low) else a).n = 1
    rw [dif_pos h0]
    exact (field_inv hF h0 a.h).choose_spec.2
  one_ne h := absurd (show (1 : Nat) = 0 from congrArg El.n h) (by decide)

/-- There are p ^ k elements. -/
theorem card_el {p k : Nat} (low : List Int) : Card (fun _ : El p k low => True) (p ^ k) := by
  have h1 : Card (fun c : Nat => c < p ^ k) (p ^ k) := ⟨List.range (p ^ k), List.nodup_range, fun x => List.mem_range, by simp⟩
  by_cases hz : 0 < p ^ k
  · refine h1.bij (fun c => if h : c < p ^ k then ⟨c, h⟩ else ⟨0, hz⟩) (fun _ _ => trivial) (fun a b ha hb e => ?_) (fun y _ => ⟨y.n, y.h, by rw [dif_pos y.h]⟩)
    rw [dif_pos ha, dif_pos hb] at e
    exact congrArg El.n e
  · exact ⟨[], List.nodup_nil, fun x => ⟨fun h => (by cases h), fun _ => absurd x.h (by omega)⟩, by simp; omega⟩

/-- An element as the program's number. -/
def El.i {p k : Nat} {low : List Int} (a : El p k low) : Int := (a.n : Int)
theorem El.i_bd {p k : Nat} {low : List Int} (a : El p k low) : 0 ≤ a.i ∧ a.i < (p ^ k : Nat) := by have := a.h; unfold El.i; omega
theorem El.i_inj {p k : Nat} {low : List Int} {a b : El p k low} (h : a.i = b.i) : a = b := El.ext' (by unfold El.i at h; omega)
/-- .. and back. -/
def elOf {p k : Nat} (low : List Int) (hz : 0 < p ^ k) (x : Int) : El p k low := ⟨x.toNat % p ^ k, Nat.mod_lt _ hz⟩
theorem elOf_i {p k : Nat} (low : List Int) (hz : 0 < p ^ k) {x : Int} (h0 : 0 ≤ x) (h1 : x < (p ^ k : Nat)) : (elOf low hz x).i = x := by
  unfold elOf El.i
  simp only
  rw [Nat.mod_eq_of_lt (by omega)]; omega

end Go.Proofs.YtnhdngnolepkcaaDoor

/- What slices.IndexFunc and slices.ContainsFunc answer at a list of ints that can be read, where the function handed in only reads. -/
namespace Go.Proofs.YtnhdngnolepkcaaDoor
open Go.RowKit

/-- What is asked of a function value on ints: it answers p, at the numbers of the list, and only reads. -/
def PredOn (f : FuncId) (caps : Array Value) (xs : List Int) (p : Int → Bool) (w : World) : Prop :=
  ∀ x ∈ xs, ∀ w', Drawn w w' → Calls Tryd.prog f (#[.int .i64 x] ++ caps) w' fun e w'' => e = .returned (.bool (p x)) ∧ Drawn w' w''

/-- The first place where p holds, from k on. -/
def idxFrom (p : Int → Bool) : List Int → Nat → Int
  | [], _ => -1
  | x :: xs, k => if p x then k else idxFrom p xs (k + 1)

theorem idxFrom_hit (p : Int → Bool) : ∀ (xs : List Int) (k j : Nat), j < xs.length → p (nth xs j) = true → (∀ i, i < j → p (nth xs i) = false) → idxFrom p xs k = k + j
  | [], _, _, h, _, _ => by simp at h
  | x :: xs, k, 0, _, h, _ => by have : p x = true := h; simp [idxFrom, this]
  | x :: xs, k, j + 1, h, hp, hn => by
    have h0 : p x = false := hn 0 (by omega)
    rw [idxFrom, h0, if_neg (by simp), idxFrom_hit p xs (k + 1) j (by simpa using h) hp (fun i hi => hn (i + 1) (by omega))]
    omega

theorem idxFrom_miss (p : Int → Bool) : ∀ (xs : List Int) (k : Nat), (∀ i, i < xs.length → p (nth xs i) = false) → idxFrom p xs k = -1
  | [], _, _ => rfl
  | x :: xs, k, hn => by
    have h0 : p x = false := hn 0 (by simp)
    rw [idxFrom, h0, if_neg (by simp), idxFrom_miss p xs (k + 1) (fun i hi => hn (i + 1) (by simpa using hi))]

theorem idxFrom_any (p : Int → Bool) : ∀ (xs : List Int) (k : Nat), decide (0 ≤ idxFrom p xs k) = xs.any p
  | [], _ => rfl
  | x :: xs, k => by
    rw [idxFrom, List.any_cons]
    by_cases h : p x = true
    · simp [h]
    · simp only [h, Bool.false_eq_true, if_false]
      rw [idxFrom_any p xs (k + 1)]
      simp

set_option maxHeartbeats 400000 in
theorem indexFunc_any (f : FuncId) (caps : Array Value) (ao : Option Addr) (n cap : Nat) (xs : List Int) (p : Int → Bool) (w : World) (hn : xs.length = n) (hbig : n ≤ maxLen) (hr : Reads w ao (ints xs))
    (hp : PredOn f caps xs p w) (henter : ∀ args w, (callFunc f args).run Tryd.prog w = .ok (.enter f args) w) :
    Calls Tryd.prog 66 #[.slice ao n cap, .func (.func f) #[] caps] w fun e w' => e = .returned (.int .i64 (idxFrom p xs 0)) ∧ Drawn w w' := by
  unfold maxLen at hbig
  have HN := Lib.hid hn
  have HP := Lib.hid hp
  have HR := Lib.hid hr
  clear hn hp hr
  go_enter Tryd.func66, Tryd.ntmps66
  go_wp2
  go_loopw [8] (fun i wr => ∃ k : Nat, k ≤ n ∧ i = .int .i64 k ∧ Drawn w wr ∧ ∀ i, i < k → p (nth xs i) = false) (fun i _ => n - (intOf i).toNat)
  case atStart => exact ⟨0, by omega, rfl, Drawn.refl _, fun i hi => by omega⟩
  case round =>
    obtain ⟨k, hk, rfl, hd, hall⟩ := hrel
    by_cases hlt : k < n
    · obtain ⟨b, off, rfl, hb, hc⟩ := Reads.int HR.out (by rw [HN.out]; omega)
      have hck : wr.cell? ⟨b, off + k, none⟩ = some (.int .i64 (nth xs k)) := by rw [hd.cell]; exact hc k (by rw [HN.out]; omega)
      have hcall := Lib.hid (HP.out (nth xs k) (nth_mem xs k (by rw [HN.out]; omega)) wr hd)
      have HA := Lib.hid hall
      have HD := Lib.hid hd
      clear hall hc hd
      cases hpx : p (nth xs k) with
      | true =>
        have HX := Lib.hid hpx
        rw [hpx] at hcall
        clear hpx
        go_wp2_with ((with_reducible refine Calls.mono hcall.out ?_); rintro e w' ⟨rfl, hdd⟩)
        go_ret
        exact ⟨by rw [idxFrom_hit p xs 0 k (by rw [HN.out]; omega) HX.out HA.out]; simp, HD.out.trans hdd⟩
      | false =>
        have HX := Lib.hid hpx
        rw [hpx] at hcall
        clear hpx
        go_wp2_with ((with_reducible refine Calls.mono hcall.out ?_); rintro e w' ⟨rfl, hdd⟩)
        go_roundw
        case rel => exact ⟨k + 1, by omega, by go_num, HD.out.trans hdd, fun i hi => by
          rcases Nat.lt_succ_iff_lt_or_eq.1 hi with h | rfl
          · exact HA.out i h
          · exact HX.out⟩
        case measure => simp [intOf]; omega
    · have HA := Lib.hid hall
      clear hall
      go_wp2
      go_ret
      exact ⟨by rw [idxFrom_miss p xs 0 (fun i hi => HA.out i (by rw [HN.out] at hi; omega))]; simp, hd⟩

set_option maxHeartbeats 400000 in
theorem containsFunc_any (f : FuncId) (caps : Array Value) (ao : Option Addr) (n cap : Nat) (xs : List Int) (p : Int → Bool) (w : World) (hn : xs.length = n) (hbig : n ≤ maxLen) (hr : Reads w ao (ints xs))
    (hp : PredOn f caps xs p w) (henter : ∀ args w, (callFunc f args).run Tryd.prog w = .ok (.enter f args) w) :
    Calls Tryd.prog 48 #[.slice ao n cap, .func (.func f) #[] caps] w fun e w' => e = .returned (.bool (xs.any p)) ∧ Drawn w w' := by
  have H := Lib.hid (indexFunc_any f caps ao n cap xs p w hn hbig hr hp henter)
  have HA := Lib.hid (idxFrom_any p xs 0)
  clear hn hbig hr hp henter
  generalize idxFrom p xs 0 = r at *
  go_enter Tryd.func48, Tryd.ntmps48
  go_wp2_with (go_at_call 66; refine H.out.mono ?_; rintro e w' ⟨rfl, hdd⟩)
  go_ret
  exact ⟨by rw [← HA.out]; rfl, hdd⟩

end Go.Proofs.YtnhdngnolepkcaaDoor
