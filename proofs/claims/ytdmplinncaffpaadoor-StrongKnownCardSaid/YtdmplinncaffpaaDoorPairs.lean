/- How often a first number comes among pairs without repeats, and what comes with it last. No program. -/
import Derived.Test.YtdmplinncaffpaaDoorBase
namespace Go.Proofs.YtdmplinncaffpaaDoor
open Go.RowKit

/-- How often a first number has come; what came with it last. -/
def cntOf (done : List (List Int)) (c : Int) : Int := ((done.filter fun xs => decide (nth xs 0 = c)).length : Int)
def lastOf (done : List (List Int)) (c : Int) : Int := done.foldl (fun v xs => if nth xs 0 = c then nth xs 1 else v) 0
theorem cntOf_snoc (done : List (List Int)) (x m c : Int) : cntOf (done ++ [[x, m]]) c = cntOf done c + if x = c then 1 else 0 := by
  unfold cntOf
  rw [List.filter_append, List.length_append]
  by_cases h : x = c
  · rw [if_pos h]; simp [nth, h]
  · rw [if_neg h]; simp [nth, h]
theorem lastOf_snoc (done : List (List Int)) (x m c : Int) : lastOf (done ++ [[x, m]]) c = if x = c then m else lastOf done c := by
  unfold lastOf
  rw [List.foldl_append]
  rfl
theorem cntOf_le (done : List (List Int)) (c : Int) : 0 ≤ cntOf done c ∧ cntOf done c ≤ done.length := by
  unfold cntOf
  have := List.length_filter_le (fun xs => decide (nth xs 0 = c)) done
  omega

/-- The pairs are these. -/
def PairsAre (done : List (List Int)) (S : Int → Int → Prop) : Prop := done.Nodup ∧ ∀ ps, ps ∈ done ↔ ∃ c m, ps = [c, m] ∧ S c m

theorem two_of {α : Type} {L : List α} (hn : L.Nodup) (h : 2 ≤ L.length) : ∃ a b, a ∈ L ∧ b ∈ L ∧ a ≠ b := by
  match L, h with
  | a :: b :: L', _ =>
    refine ⟨a, b, by simp, by simp, fun e => ?_⟩
    subst e
    simp at hn
theorem two_from {α : Type} {L : List α} {a b : α} (ha : a ∈ L) (hb : b ∈ L) (hne : a ≠ b) : 2 ≤ L.length := by
  match L, ha, hb with
  | [x], ha, hb =>
    rw [List.mem_singleton] at ha hb
    exact absurd (ha.trans hb.symm) hne
  | _ :: _ :: _, _, _ => simp

theorem clash_of {done : List (List Int)} {S : Int → Int → Prop} (h : PairsAre done S) {c : Int} (hc : 1 < cntOf done c) : ∃ m m', S c m ∧ S c m' ∧ m ≠ m' := by
  unfold cntOf at hc
  obtain ⟨a, b, ha, hb, hne⟩ := two_of (h.1.filter _) (show 2 ≤ (done.filter fun xs => decide (nth xs 0 = c)).length by omega)
  rw [List.mem_filter] at ha hb
  obtain ⟨c1, m1, rfl, h1⟩ := (h.2 a).1 ha.1
  obtain ⟨c2, m2, rfl, h2⟩ := (h.2 b).1 hb.1
  have e1 : c1 = c := of_decide_eq_true ha.2
  have e2 : c2 = c := of_decide_eq_true hb.2
  subst e1; subst e2
  exact ⟨m1, m2, h1, h2, fun e => hne (by rw [e])⟩
theorem one_of {done : List (List Int)} {S : Int → Int → Prop} (h : PairsAre done S) {c : Int} (hc : cntOf done c ≤ 1) {m m' : Int} (h1 : S c m) (h2 : S c m') : m = m' := by
  refine Classical.byContradiction fun hne => ?_
  have m1 : [c, m] ∈ done.filter fun xs => decide (nth xs 0 = c) := List.mem_filter.2 ⟨(h.2 _).2 ⟨c, m, rfl, h1⟩, by simp [nth]⟩
  have m2 : [c, m'] ∈ done.filter fun xs => decide (nth xs 0 = c) := List.mem_filter.2 ⟨(h.2 _).2 ⟨c, m', rfl, h2⟩, by simp [nth]⟩
  have := two_from m1 m2 (fun e => hne (by simpa using e))
  unfold cntOf at hc
  omega
theorem last_or : ∀ (done : List (List Int)) (v c : Int), (∀ ps ∈ done, ∃ c m, ps = [c, m]) →
    (∃ m, [c, m] ∈ done ∧ done.foldl (fun v xs => if nth xs 0 = c then nth xs 1 else v) v = m) ∨ ((∀ m, [c, m] ∉ done) ∧ done.foldl (fun v xs => if nth xs 0 = c then nth xs 1 else v) v = v)
  | [], v, c, _ => .inr ⟨by simp, rfl⟩
  | ps :: done, v, c, h => by
    obtain ⟨c1, m1, rfl⟩ := h ps (by simp)
    rw [List.foldl_cons]
    show (∃ m, _ ∧ List.foldl _ (if c1 = c then m1 else v) done = m) ∨ _
    by_cases hc : c1 = c
    · subst hc
      rw [if_pos rfl]
      rcases last_or done m1 c1 (fun ps hps => h ps (by simp [hps])) with ⟨m, h1, h2⟩ | ⟨h1, h2⟩
      · exact .inl ⟨m, by simp [h1], h2⟩
      · exact .inl ⟨m1, by simp, h2⟩
    · rcases last_or done v c (fun ps hps => h ps (by simp [hps])) with ⟨m, h1, h2⟩ | ⟨h1, h2⟩
      · exact .inl ⟨m, by simp [h1], by rw [if_neg hc]; exact h2⟩
      · refine .inr ⟨fun m hm => ?_, ?_⟩
        · rcases List.mem_cons.1 hm with e | hm
          · simp at e; exact hc e.1.symm
          · exact h1 m hm
        · show List.foldl _ (if c1 = c then m1 else v) done = v
          rw [if_neg hc]; exact h2
theorem lastOf_is {done : List (List Int)} {S : Int → Int → Prop} (h : PairsAre done S) (c : Int) : S c (lastOf done c) ∨ ((∀ m, ¬ S c m) ∧ lastOf done c = 0) := by
  rcases last_or done 0 c (fun ps hps => by obtain ⟨c, m, e, _⟩ := (h.2 ps).1 hps; exact ⟨c, m, e⟩) with ⟨m, h1, h2⟩ | ⟨h1, h2⟩
  · obtain ⟨c', m', e, hS⟩ := (h.2 _).1 h1
    simp at e
    obtain ⟨rfl, rfl⟩ := e
    exact .inl (by show S c (lastOf done c); rw [show lastOf done c = m from h2]; exact hS)
  · exact .inr ⟨fun m hS => h1 m ((h.2 _).2 ⟨c, m, rfl, hS⟩), h2⟩
end Go.Proofs.YtdmplinncaffpaaDoor
