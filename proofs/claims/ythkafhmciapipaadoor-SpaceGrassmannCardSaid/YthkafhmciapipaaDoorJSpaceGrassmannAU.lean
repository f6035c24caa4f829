/- The elimination in numbers: bounds; the lists when it starts and when a row is taken out. Plain but for the words of the walk. -/
import Derived.Test.YthkafhmciapipaaDoorJSpaceGrassmannAT
namespace Go.Proofs.YthkafhmciapipaaDoor
open Go.RowKit

theorem AllLt.at {q n : Nat} {L : List (Nat → Nat)} (h : AllLt q n L) {i : Nat} (hi : i < L.length) : ∀ j, j < n → fAt L i j < q := h _ (fAt_mem hi)
theorem leadN_lt {p k : Nat} {low : List Int} (hp : 0 < p) (c : Nat) (r : Nat → Nat) (j : Nat) : leadN p k low c r j < p ^ k := mulF_lt hp _ _
theorem lessN_lt {p k : Nat} {low : List Int} (hp : 0 < p) (l : Nat → Nat) (c : Nat) (o : Nat → Nat) (j : Nat) : lessN p k low l c o j < p ^ k := addF_lt hp _ _
theorem stepN_lt {p k n c : Nat} {low : List Int} (hp : 0 < p) {s : List (Nat → Nat) × List (Nat → Nat)} (h1 : AllLt (p ^ k) n s.1) (h2 : AllLt (p ^ k) n s.2) : AllLt (p ^ k) n (stepN p k low c s).1 ∧ AllLt (p ^ k) n (stepN p k low c s).2 := by
  unfold stepN
  cases pivN c s.1 with
  | none => exact ⟨h1, h2⟩
  | some i =>
    refine ⟨fun f hf j _ => ?_, fun f hf j _ => ?_⟩
    · obtain ⟨o, _, rfl⟩ := List.mem_map.1 hf
      exact lessN_lt hp _ _ _ _
    · rcases List.mem_append.1 hf with hf | hf
      · obtain ⟨o, _, rfl⟩ := List.mem_map.1 hf
        exact lessN_lt hp _ _ _ _
      · obtain rfl : f = _ := by simpa using hf
        exact leadN_lt hp _ _ _
theorem redN_lt {p k n : Nat} {low : List Int} (hp : 0 < p) {rows : List (Nat → Nat)} (h : AllLt (p ^ k) n rows) : ∀ c, AllLt (p ^ k) n (redN p k low rows c).1 ∧ AllLt (p ^ k) n (redN p k low rows c).2
  | 0 => ⟨h, fun f hf => by cases hf⟩
  | c + 1 => stepN_lt hp (redN_lt hp h c).1 (redN_lt hp h c).2
theorem pivN_some {c i : Nat} {L : List (Nat → Nat)} (h : pivN c L = some i) : i < L.length ∧ fAt L i c ≠ 0 ∧ ∀ j, j < i → fAt L j c = 0 := by
  unfold pivN at h
  obtain ⟨hi, h1, h2⟩ := List.findIdx?_eq_some_iff_getElem.1 h
  refine ⟨hi, by rw [fAt_eq hi]; simpa using h1, fun j hj => ?_⟩
  have := h2 j hj
  rw [fAt_eq (by omega)]
  simpa using this
theorem pivN_is {c i : Nat} {L : List (Nat → Nat)} (hi : i < L.length) (h1 : fAt L i c ≠ 0) (h2 : ∀ j, j < i → fAt L j c = 0) : pivN c L = some i := by
  unfold pivN
  refine List.findIdx?_eq_some_iff_getElem.2 ⟨hi, by rw [← fAt_eq hi]; simpa using h1, fun j hj => ?_⟩
  have := h2 j hj
  rw [fAt_eq (by omega)] at this
  simpa using this
theorem pivN_none {c : Nat} {L : List (Nat → Nat)} (h : ∀ j, j < L.length → fAt L j c = 0) : pivN c L = none := by
  unfold pivN
  refine List.findIdx?_eq_none_iff.2 fun r hr => ?_
  obtain ⟨j, hj, rfl⟩ := List.mem_iff_getElem.1 hr
  have := h j hj
  rw [fAt_eq hj] at this
  simpa using this
theorem stepN_len (p k : Nat) (low : List Int) (c : Nat) (s : List (Nat → Nat) × List (Nat → Nat)) : (stepN p k low c s).1.length ≤ s.1.length ∧ (stepN p k low c s).2.length ≤ s.2.length + 1 := by
  unfold stepN
  cases pivN c s.1 with
  | none => exact ⟨Nat.le_refl _, Nat.le_succ _⟩
  | some i => simp only [List.length_map, List.length_append, List.length_cons, List.length_nil]; exact ⟨by rw [List.length_eraseIdx]; split <;> omega, by omega⟩
theorem redN_len (p k : Nat) (low : List Int) (rows : List (Nat → Nat)) : ∀ c, (redN p k low rows c).1.length ≤ rows.length ∧ (redN p k low rows c).2.length ≤ c
  | 0 => ⟨Nat.le_refl _, Nat.le_refl _⟩
  | c + 1 => by
    have h1 := stepN_len p k low c (redN p k low rows c)
    have h2 := redN_len p k low rows c
    show (stepN p k low c (redN p k low rows c)).1.length ≤ _ ∧ (stepN p k low c (redN p k low rows c)).2.length ≤ _
    omega

/-- Some rows have been made anew. -/
def part (h : (Nat → Nat) → Nat → Nat) (L : List (Nat → Nat)) (j : Nat) : List (Nat → Nat) := L.mapIdx fun i f => if i < j then h f else f
theorem part_length (h : (Nat → Nat) → Nat → Nat) (L : List (Nat → Nat)) (j : Nat) : (part h L j).length = L.length := by unfold part; simp
theorem part_zero (h : (Nat → Nat) → Nat → Nat) (L : List (Nat → Nat)) : part h L 0 = L := List.ext_getElem (part_length h L 0) fun i _ _ => by simp [part]
theorem part_all (h : (Nat → Nat) → Nat → Nat) (L : List (Nat → Nat)) : part h L L.length = L.map h := List.ext_getElem (by rw [part_length, List.length_map]) fun i h1 _ => by
  rw [part_length] at h1
  simp [part, h1]
theorem part_at (h : (Nat → Nat) → Nat → Nat) (L : List (Nat → Nat)) {j : Nat} (hj : j < L.length) : fAt (part h L j) j = fAt L j := by
  rw [fAt_eq (by rw [part_length]; exact hj), fAt_eq hj]
  simp [part]
theorem part_set (h : (Nat → Nat) → Nat → Nat) (L : List (Nat → Nat)) {j : Nat} (hj : j < L.length) : (part h L j).set j (h (fAt L j)) = part h L (j + 1) := by
  refine List.ext_getElem (by rw [List.length_set, part_length, part_length]) fun i h1 h2 => ?_
  rw [List.getElem_set]
  by_cases e : j = i
  · subst e
    rw [if_pos rfl]
    simp [part, fAt_eq hj]
  · rw [if_neg e]
    simp only [part, List.getElem_mapIdx]
    by_cases hlt : i < j
    · rw [if_pos hlt, if_pos (by omega)]
    · rw [if_neg hlt, if_neg (by omega)]

/-- The lists at the start. -/
theorem LO.start {w w1 : World} {n : Nat} {so : Option Addr} {ao : Option Addr} {m cap : Nat} {rows : List (Nat → Nat)} {vs : List Value} (_hs : Reads w so vs) (h : Rows2 w vs (rowsN n rows)) (hr : RowOf 27 w1 w.heap.size ao m cap vs) (hx : Ext w w1) :
    LO w w1 n ao m cap none 0 0 rows [] := by
  refine ⟨hx, ⟨vs, hr, h.1, fun j v hv => ?_⟩, ⟨[], RowOf.nil _ _ _, rfl, fun j v hv => by simp at hv⟩, fun b _ e => by cases e⟩
  obtain ⟨a, c, e, hrd, hl⟩ := h.2 j v hv
  refine ⟨a, c, e, hl, ?_⟩
  rcases hrd with hrd | ⟨b, off, h1, h2, h3⟩
  · left
    have := congrArg List.length hrd
    rw [ints_length] at this
    exact List.eq_nil_of_length_eq_zero this
  · refine .inr ⟨b, off, h1, Nat.lt_of_lt_of_le h2 hx.size, (fun e => by cases e), fun e => ?_, fun i u hu => (hx.cell h2).trans (h3 i u hu)⟩
    have := (hr.block b e.symm).1
    omega
/-- A row is taken out. -/
theorem LO.del {w0 w w' : World} {n g : Nat} {bo : Option Addr} {m cap l bcap i : Nat} {L M : List (Nat → Nat)} (h : LO w0 w n (some ⟨g, 0, none⟩) m cap bo l bcap L M) {vs : List Value}
    (hvs : RowOf 27 w w0.heap.size (some ⟨g, 0, none⟩) m cap vs ∧ Rows2X w (fun b => some b ≠ (Value.slice bo l bcap).ownBlock) (some g) vs (rowsN n L)) (hi : i < m)
    (hrow : RowOf 27 w' w0.heap.size (some ⟨g, 0, none⟩) (m - 1) cap (vs.take i ++ vs.drop (i + 1))) (hg : w.grownBy w' (some g)) : LO w0 w' n (some ⟨g, 0, none⟩) (m - 1) cap bo l bcap (L.eraseIdx i) M := by
  obtain ⟨us, h3, h4⟩ := h.out
  have hlt := hvs.1.block g rfl
  have hvl : vs.length = L.length := by rw [hvs.2.1, rowsN_length]
  have hml : L.length = m := h.llen
  refine ⟨Below.grown h.ext hg h.ext.size fun c hc => by cases hc; exact hlt.1, ⟨_, hrow, ?_, fun j v hv => ?_⟩, ⟨us, h3.kept fun c hc => hg.block c (h3.block c hc).2 fun e => h.ap g rfl (by cases e; exact hc), h4.1, fun j v hv => (h4.2 j v hv).next hg fun b hb _ => ⟨hb, hb⟩⟩, h.ap⟩
  · rw [rowsN_length, List.length_eraseIdx, if_pos (by omega)]
    simp
    omega
  · rw [← List.eraseIdx_eq_take_drop_succ] at hv
    have hj : j < (vs.eraseIdx i).length := (List.getElem?_eq_some_iff.1 hv).1
    rw [List.length_eraseIdx, if_pos (by omega)] at hj
    rw [row_rowsN n _ (by rw [List.length_eraseIdx, if_pos (by omega)]; omega)]
    rw [List.getElem?_eraseIdx] at hv
    by_cases e : j < i
    · rw [if_pos e] at hv
      have e2 : fAt (L.eraseIdx i) j = fAt L j := by rw [fAt_eq (by rw [List.length_eraseIdx, if_pos (by omega)]; omega), fAt_eq (by omega), List.getElem_eraseIdx, dif_pos e]
      rw [e2, ← row_rowsN n L (by omega)]
      exact (hvs.2.2 j v hv).grown hg (.inl rfl)
    · rw [if_neg e] at hv
      have e2 : fAt (L.eraseIdx i) j = fAt L (j + 1) := by rw [fAt_eq (by rw [List.length_eraseIdx, if_pos (by omega)]; omega), fAt_eq (by omega), List.getElem_eraseIdx, dif_neg e]
      rw [e2, ← row_rowsN n L (by omega)]
      exact (hvs.2.2 (j + 1) v hv).grown hg (.inl rfl)

end Go.Proofs.YthkafhmciapipaaDoor
