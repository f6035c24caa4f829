/- The two lists of rows of an elimination, in memory; the elimination in numbers. Plain but for the words of the walk. -/
import Derived.Test.YtnhdngnolepkcaaDoorJdjapdnilio
namespace Go.Proofs.YtnhdngnolepkcaaDoor
open Go.RowKit

/-- The inverse as the program finds it; a row times it; a row less another. -/
def invN (p k : Nat) (low : List Int) (a : Nat) : Nat := (invI p k low (p ^ k) a).toNat
def leadN (p k : Nat) (low : List Int) (c : Nat) (r : Nat → Nat) : Nat → Nat := fun j => mulF p k (nth low) (invN p k low (r c)) (r j)
def lessN (p k : Nat) (low : List Int) (l : Nat → Nat) (c : Nat) (o : Nat → Nat) : Nat → Nat := fun j => addF p k (o j) (mulF p k (nth low) (negF p k (o c)) (l j))
def pivN (c : Nat) (L : List (Nat → Nat)) : Option Nat := L.findIdx? fun r => r c != 0
def fAt (L : List (Nat → Nat)) (i : Nat) : Nat → Nat := L.getD i fun _ => 0
def stepN (p k : Nat) (low : List Int) (c : Nat) (s : List (Nat → Nat) × List (Nat → Nat)) : List (Nat → Nat) × List (Nat → Nat) :=
  match pivN c s.1 with
  | none => s
  | some i => ((s.1.eraseIdx i).map (lessN p k low (leadN p k low c (fAt s.1 i)) c), s.2.map (lessN p k low (leadN p k low c (fAt s.1 i)) c) ++ [leadN p k low c (fAt s.1 i)])
def redN (p k : Nat) (low : List Int) (rows : List (Nat → Nat)) : Nat → List (Nat → Nat) × List (Nat → Nat)
  | 0 => (rows, [])
  | c + 1 => stepN p k low c (redN p k low rows c)
def basN (p k : Nat) (low : List Int) (n : Nat) (rows : List (Nat → Nat)) : List (Nat → Nat) := (redN p k low rows n).2
/-- Rows of n elements. -/
def AllLt (q n : Nat) (L : List (Nat → Nat)) : Prop := ∀ f ∈ L, ∀ j, j < n → f j < q
def rowsN (n : Nat) (L : List (Nat → Nat)) : List (List Int) := L.map fun f => nrow f n
theorem rowsN_length (n : Nat) (L : List (Nat → Nat)) : (rowsN n L).length = L.length := by unfold rowsN; simp
theorem row_rowsN (n : Nat) (L : List (Nat → Nat)) {j : Nat} (h : j < L.length) : row (rowsN n L) j = nrow (fAt L j) n := by
  rw [row_eq _ _ (by rw [rowsN_length]; exact h)]
  unfold rowsN fAt
  simp [h]
theorem fAt_mem {L : List (Nat → Nat)} {j : Nat} (h : j < L.length) : fAt L j ∈ L := by unfold fAt; rw [List.getD_eq_getElem?_getD, List.getElem?_eq_getElem h]; exact List.getElem_mem h
theorem fAt_eq {L : List (Nat → Nat)} {j : Nat} (h : j < L.length) : fAt L j = L[j] := by unfold fAt; rw [List.getD_eq_getElem?_getD, List.getElem?_eq_getElem h]; rfl

theorem invI_at {p k : Nat} {low : List Int} (hF : IsField p k low) {a : Nat} (h0 : a ≠ 0) (ha : a < p ^ k) : invI p k low (p ^ k) a = (invN p k low a : Nat) ∧ invN p k low a < p ^ k ∧ mulF p k (nth low) a (invN p k low a) = 1 := by
  have hp : 0 < p := by have := hF.p2; omega
  obtain ⟨b, hb, e⟩ := field_inv hF h0 ha
  have hl : (mulR p k low (p ^ k) a).length = p ^ k := tab_length _ _
  have h := idxFrom_hit (fun x => (1 : Int) == x) (mulR p k low (p ^ k) a) 0 b (by rw [hl]; exact hb) (by
    unfold mulR
    rw [nth_tab _ _ _ hb, e]; rfl) (fun i hi => by
    unfold mulR
    rw [nth_tab _ _ _ (by omega)]
    show ((1 : Int) == _) = false
    rw [beq_eq_false_iff_ne]
    intro e2
    have e2 : mulF p k (nth low) a i = 1 := by omega
    have h1 : mulF p k (nth low) b (mulF p k (nth low) a i) = i := by
      rw [← mulF_assoc hp hF.k1, mulF_comm b a, e, mulF_comm, mulF_one hp hF.k1 i (by omega) hF.p2]
    rw [e2, mulF_one hp hF.k1 b hb hF.p2] at h1
    omega)
  have h2 : invI p k low (p ^ k) a = (b : Nat) := by unfold invI; rw [h]; omega
  have h3 : invN p k low a = b := by unfold invN; rw [h2]; rfl
  rw [h3]
  exact ⟨h2, hb, e⟩

/-- Both lists, made since w0. -/
structure LO (w0 w : World) (n : Nat) (ao : Option Addr) (m cap : Nat) (bo : Option Addr) (l bcap : Nat) (L M : List (Nat → Nat)) : Prop where
  ext : Ext w0 w
  left : ∃ vs, RowOf 22 w w0.heap.size ao m cap vs ∧ Rows2X w (fun b => some b ≠ (Value.slice bo l bcap).ownBlock) (Value.slice ao m cap).ownBlock vs (rowsN n L)
  out : ∃ us, RowOf 22 w w0.heap.size bo l bcap us ∧ Rows2X w (fun b => some b ≠ (Value.slice ao m cap).ownBlock) (Value.slice bo l bcap).ownBlock us (rowsN n M)
  ap : Apart (.slice ao m cap) (.slice bo l bcap)
namespace LO
variable {w0 w w' : World} {n : Nat} {ao bo : Option Addr} {m cap l bcap : Nat} {L M : List (Nat → Nat)}
theorem carry (h : LO w0 w n ao m cap bo l bcap L M) (hx : Ext w w') : LO w0 w' n ao m cap bo l bcap L M := by
  obtain ⟨vs, h1, h2⟩ := h.left
  obtain ⟨us, h3, h4⟩ := h.out
  exact ⟨h.ext.trans hx, ⟨vs, hx.row h1, h2.1, fun j v hv => (h2.2 j v hv).ext hx⟩, ⟨us, hx.row h3, h4.1, fun j v hv => (h4.2 j v hv).ext hx⟩, h.ap⟩
theorem swap (h : LO w0 w n ao m cap bo l bcap L M) : LO w0 w n bo l bcap ao m cap M L := ⟨h.ext, h.out, h.left, h.ap.symm⟩
theorem llen (h : LO w0 w n ao m cap bo l bcap L M) : L.length = m := by
  obtain ⟨vs, h1, h2⟩ := h.left
  have := h1.length
  rw [h2.1, rowsN_length] at this
  exact this
theorem olen (h : LO w0 w n ao m cap bo l bcap L M) : M.length = l := h.swap.llen
/-- A row that is read. -/
theorem rowAt (h : LO w0 w n ao m cap bo l bcap L M) {j : Nat} (hj : j < m) : ∃ g a c, ao = some ⟨g, 0, none⟩ ∧ w0.heap.size ≤ g ∧ g < w.heap.size ∧ w.cell? ⟨g, j, none⟩ = some (.slice a n c) ∧ w.frozen? ⟨g, j, none⟩ = false ∧ Reads w a (ints (nrow (fAt L j) n)) := by
  have hl := h.llen
  obtain ⟨vs, h1, h2⟩ := h.left
  obtain ⟨g, rfl, g1, g2, g3, g4⟩ := h1.opened (show 0 < m by omega)
  have hjv : j < vs.length := by rw [h2.1, rowsN_length]; omega
  have hv := List.getElem?_eq_getElem hjv
  obtain ⟨a, c, e, hr, _⟩ := (h2.2 j _ hv).inner
  rw [row_rowsN n L (by omega)] at e hr
  rw [nrow_length] at e
  exact ⟨g, a, c, rfl, g1, g2, by rw [g3 j _ hv, e], g4 j, hr⟩
/-- A row is put in the place of another. -/
theorem put {g : Nat} (h : LO w0 w n (some ⟨g, 0, none⟩) m cap bo l bcap L M) {j : Nat} (_hj : j < m) {v : Value} {f : Nat → Nat}
    (hv : InnerX w (fun b => some b ≠ (Value.slice bo l bcap).ownBlock) (some g) v (nrow f n)) : LO w0 (w.setCell ⟨g, j, none⟩ v) n (some ⟨g, 0, none⟩) m cap bo l bcap (L.set j f) M := by
  obtain ⟨vs, h1, h2⟩ := h.left
  obtain ⟨us, h3, h4⟩ := h.out
  have hlt := h1.block g rfl
  have beside : ∀ {P : Nat → Prop} {x : Option Nat} {u : Value} {xs : List Int}, InnerX w P x u xs → (∀ b, P b → some b ≠ x → b ≠ g) → InnerX (w.setCell ⟨g, j, none⟩ v) P x u xs := by
    intro P x u xs hi hne
    obtain ⟨a, c, e, hl, hi⟩ := hi
    refine ⟨a, c, e, hl, ?_⟩
    rcases hi with hi | ⟨b, off, k1, k2, k3, k4, k5⟩
    · exact .inl hi
    · refine .inr ⟨b, off, k1, by simpa [World.setCell] using k2, k3, k4, fun i u' hu => ?_⟩
      rw [World.cell?_of_block (w := w) (Below.heap_setCell w ⟨g, j, none⟩ v b (hne b k3 k4))]; exact k5 i u' hu
  refine ⟨h.ext.set hlt.1 v, ⟨vs.set j v, h1.stored j v, ?_, fun i u hu => ?_⟩, ⟨us, h3.kept fun c hc => Below.heap_setCell _ _ _ _ fun e => h.ap g rfl ((show c = g from e) ▸ hc), h4.1, fun i u hu => beside (h4.2 i u hu) fun b hb _ e => hb (by rw [e]; rfl)⟩, h.ap⟩
  · rw [List.length_set, h2.1, rowsN_length, rowsN_length, List.length_set]
  · have hi : i < vs.length := by have := (List.getElem?_eq_some_iff.1 hu).1; rwa [List.length_set] at this
    have hiL : i < L.length := by rw [h2.1, rowsN_length] at hi; exact hi
    rw [row_rowsN n _ (by rw [List.length_set]; exact hiL)]
    rw [List.getElem?_set] at hu
    by_cases e : j = i
    · subst e
      rw [if_pos rfl, if_pos hi] at hu
      obtain rfl := Option.some.inj hu
      have : fAt (L.set j f) j = f := by rw [fAt_eq (by rw [List.length_set]; exact hiL)]; simp
      rw [this]
      exact beside hv fun b _ hb e => hb (by rw [e]; rfl)
    · rw [if_neg e] at hu
      have : fAt (L.set j f) i = fAt L i := by rw [fAt_eq (by rw [List.length_set]; exact hiL), fAt_eq hiL]; simp [e]
      rw [this, ← row_rowsN n L hiL]
      exact beside (h2.2 i u hu) fun b _ hb e => hb (by rw [e]; rfl)
/-- A row of the call's own may be put. -/
theorem fresh (h : LO w0 w n ao m cap bo l bcap L M) {v : Value} {xs : List Int} (hv : OwnInts w w' v xs) (hn : xs.length ≤ maxLen) : InnerX w' (fun b => some b ≠ (Value.slice bo l bcap).ownBlock) (Value.slice ao m cap).ownBlock v xs := by
  obtain ⟨vs, h1, _⟩ := h.left
  obtain ⟨us, h3, _⟩ := h.out
  obtain ⟨a, k, c, rfl, hr, _⟩ := hv
  have hk : xs.length = k := by have := hr.length; rwa [ints_length] at this
  exact hr.innerOf _ _ (fun b hb _ => ⟨fun e => by have := (h3.block b e.symm).2; omega, fun e => by have := (h1.block b e.symm).2; omega⟩) (by omega)
/-- A row is put behind the second list. -/
theorem snoc (h : LO w0 w n ao m cap bo l bcap L M) {us : List Value} {bo' : Option Addr} {bcap' : Nat} {y : Value} {f : Nat → Nat}
    (hus : RowOf 22 w w0.heap.size bo l bcap us ∧ Rows2X w (fun b => some b ≠ (Value.slice ao m cap).ownBlock) (Value.slice bo l bcap).ownBlock us (rowsN n M))
    (hy : InnerX w (fun b => some b ≠ (Value.slice ao m cap).ownBlock) (Value.slice bo l bcap).ownBlock y (nrow f n))
    (hrow : RowOf 22 w' w0.heap.size bo' (l + 1) bcap' (us ++ [y])) (hg : w.grownBy w' (Value.slice bo l bcap).ownBlock)
    (hat : (Value.slice bo' (l + 1) bcap').ownBlock = (Value.slice bo l bcap).ownBlock ∨ (Value.slice bo' (l + 1) bcap').ownBlock = some w.heap.size) : LO w0 w' n ao m cap bo' (l + 1) bcap' L (M ++ [f]) := by
  obtain ⟨vs, h1, h2⟩ := h.left
  have hab := fun b hb => (h1.block b hb).2
  refine ⟨Below.grown h.ext hg h.ext.size fun c hc => (hus.1.block c hc).1, ⟨vs, h1.grown hg h.ap.symm, h2.1, fun j v hv => (h2.2 j v hv).next hg fun b hb hlt => ⟨hb, fun e => ?_⟩⟩, ⟨_, hrow, ?_⟩, (h.ap.symm.next hat hab).symm⟩
  · rcases hat with e' | e'
    · rw [e'] at e; exact hb e
    · rw [e'] at e; simp at e; omega
  · have h3 := hus.2.snoc hy
    have e : rowsN n (M ++ [f]) = rowsN n M ++ [nrow f n] := by unfold rowsN; simp
    rw [e]
    exact ⟨h3.1, fun j v hv => (h3.2 j v hv).grown hg hat⟩
end LO

end Go.Proofs.YtnhdngnolepkcaaDoor

/- The elimination in numbers: bounds; the lists when it starts and when a row is taken out. Plain but for the words of the walk. -/
namespace Go.Proofs.YtnhdngnolepkcaaDoor
open Go.RowKit

theorem AllLt.at {q n : Nat} {L : List (Nat → Nat)} (h : AllLt q n L) {i : Nat} (hi : i < L.length) : ∀ j, j < n → fAt L i j < q := h _ (fAt_mem hi)
theorem leadN_lt {p k : Nat} {low : List Int} (hp : 0 < p) (c : Nat) (r : Nat → Nat) (j : Nat) : leadN p k low c r j < p ^ k := mulF_lt hp _ _
theorem lessN_lt {p k : Nat} {low : List Int} (hp : 0 < p) (l : Nat → Nat) (c : Nat) (o : Nat → Nat) (j : Nat) : lessN p k low l c o j < p ^ k := addF_lt hp _ _
theorem stepN_lt {p k n c : Nat} {low : List Int} (hp : 0 < p) {s : List (Nat → Nat) × List (Nat → Nat)} (h1 : AllLt (p ^ k) n s.1) (h2 : AllLt (p ^ k) n s.2) : AllLt (p ^ k) n (stepN p k low c s).1 ∧ AllLt (p ^ k) n (stepN p k low c s).2 := by
  unfold stepN
  cases pivN c s.1 with
  | none => exact ⟨h1, h2⟩
  | some i =>
    refine ⟨fun f hf j _ => ?_, fun f hf j _ => ?_⟩
    · obtain ⟨o, _, rfl⟩ := List.mem_map.1 hf
      exact lessN_lt hp _ _ _ _
    · rcases List.mem_append.1 hf with hf | hf
      · obtain ⟨o, _, rfl⟩ := List.mem_map.1 hf
        exact lessN_lt hp _ _ _ _
      · obtain rfl : f = _ := by simpa using hf
        exact leadN_lt hp _ _ _
theorem redN_lt {p k n : Nat} {low : List Int} (hp : 0 < p) {rows : List (Nat → Nat)} (h : AllLt (p ^ k) n rows) : ∀ c, AllLt (p ^ k) n (redN p k low rows c).1 ∧ AllLt (p ^ k) n (redN p k low rows c).2
  | 0 => ⟨h, fun f hf => by cases hf⟩
  | c + 1 => stepN_lt hp (redN_lt hp h c).1 (redN_lt hp h c).2
theorem pivN_some {c i : Nat} {L : List (Nat → Nat)} (h : pivN c L = some i) : i < L.length ∧ fAt L i c ≠ 0 ∧ ∀ j, j < i → fAt L j c = 0 := by
  unfold pivN at h
  obtain ⟨hi, h1, h2⟩ := List.findIdx?_eq_some_iff_getElem.1 h
  refine ⟨hi, by rw [fAt_eq hi]; simpa using h1, fun j hj => ?_⟩
  have := h2 j hj
  rw [fAt_eq (by omega)]
  simpa using this
theorem pivN_is {c i : Nat} {L : List (Nat → Nat)} (hi : i < L.length) (h1 : fAt L i c ≠ 0) (h2 : ∀ j, j < i → fAt L j c = 0) : pivN c L = some i := by
  unfold pivN
  refine List.findIdx?_eq_some_iff_getElem.2 ⟨hi, by rw [← fAt_eq hi]; simpa using h1, fun j hj => ?_⟩
  have := h2 j hj
  rw [fAt_eq (by omega)] at this
  simpa using this
theorem pivN_none {c : Nat} {L : List (Nat → Nat)} (h : ∀ j, j < L.length → fAt L j c = 0) : pivN c L = none := by
  unfold pivN
  refine List.findIdx?_eq_none_iff.2 fun r hr => ?_
  obtain ⟨j, hj, rfl⟩ := List.mem_iff_getElem.1 hr
  have := h j hj
  rw [fAt_eq hj] at this
  simpa using this
theorem stepN_len (p k : Nat) (low : List Int) (c : Nat) (s : List (Nat → Nat) × List (Nat → Nat)) : (stepN p k low c s).1.length ≤ s.1.length ∧ (stepN p k low c s).2.length ≤ s.2.length + 1 := by
  unfold stepN
  cases pivN c s.1 with
  | none => exact ⟨Nat.le_refl _, Nat.le_succ _⟩
  | some i => simp only [List.length_map, List.length_append, List.length_cons, List.length_nil]; exact ⟨by rw [List.length_eraseIdx]; split <;> omega, by omega⟩
theorem redN_len (p k : Nat) (low : List Int) (rows : List (Nat → Nat)) : ∀ c, (redN p k low rows c).1.length ≤ rows.length ∧ (redN p k low rows c).2.length ≤ c
  | 0 => ⟨Nat.le_refl _, Nat.le_refl _⟩
  | c + 1 => by
    have h1 := stepN_len p k low c (redN p k low rows c)
    have h2 := redN_len p k low rows c
    show (stepN p k low c (redN p k low rows c)).1.length ≤ _ ∧ (stepN p k low c (redN p k low rows c)).2.length ≤ _
    omega

/-- Some rows have been made anew. -/
def part (h : (Nat → Nat) → Nat → Nat) (L : List (Nat → Nat)) (j : Nat) : List (Nat → Nat) := L.mapIdx fun i f => if i < j then h f else f
theorem part_length (h : (Nat → Nat) → Nat → Nat) (L : List (Nat → Nat)) (j : Nat) : (part h L j).length = L.length := by unfold part; simp
theorem part_zero (h : (Nat → Nat) → Nat → Nat) (L : List (Nat → Nat)) : part h L 0 = L := List.ext_getElem (part_length h L 0) fun i _ _ => by simp [part]
theorem part_all (h : (Nat → Nat) → Nat → Nat) (L : List (Nat → Nat)) : part h L L.length = L.map h := List.ext_getElem (by rw [part_length, List.length_map]) fun i h1 _ => by
  rw [part_length] at h1
  simp [part, h1]
theorem part_at (h : (Nat → Nat) → Nat → Nat) (L : List (Nat → Nat)) {j : Nat} (hj : j < L.length) : fAt (part h L j) j = fAt L j := by
  rw [fAt_eq (by rw [part_length]; exact hj), fAt_eq hj]
  simp [part]
theorem part_set (h : (Nat → Nat) → Nat → Nat) (L : List (Nat → Nat)) {j : Nat} (hj : j < L.length) : (part h L j).set j (h (fAt L j)) = part h L (j + 1) := by
  refine List.ext_getElem (by rw [List.length_set, part_length, part_length]) fun i h1 h2 => ?_
  rw [List.getElem_set]
  by_cases e : j = i
  · subst e
    rw [if_pos rfl]
    simp [part, fAt_eq hj]
  · rw [if_neg e]
    simp only [part, List.getElem_mapIdx]
    by_cases hlt : i < j
    · rw [if_pos hlt, if_pos (by omega)]
    · rw [if_neg hlt, if_neg (by omega)]

/-- The lists at the start. -/
theorem LO.start {w w1 : World} {n : Nat} {so : Option Addr} {ao : Option Addr} {m cap : Nat} {rows : List (Nat → Nat)} {vs : List Value} (_hs : Reads w so vs) (h : Rows2 w vs (rowsN n rows)) (hr : RowOf 22 w1 w.heap.size ao m cap vs) (hx : Ext w w1) :
    LO w w1 n ao m cap none 0 0 rows [] := by
  refine ⟨hx, ⟨vs, hr, h.1, fun j v hv => ?_⟩, ⟨[], RowOf.nil _ _ _, rfl, fun j v hv => by simp at hv⟩, fun b _ e => by cases e⟩
  obtain ⟨a, c, e, hrd, hl⟩ := h.2 j v hv
  refine ⟨a, c, e, hl, ?_⟩
  rcases hrd with hrd | ⟨b, off, h1, h2, h3⟩
  · left
    have := congrArg List.length hrd
    rw [ints_length] at this
    exact List.eq_nil_of_length_eq_zero this
  · refine .inr ⟨b, off, h1, Nat.lt_of_lt_of_le h2 hx.size, (fun e => by cases e), fun e => ?_, fun i u hu => (hx.cell h2).trans (h3 i u hu)⟩
    have := (hr.block b e.symm).1
    omega
/-- A row is taken out. -/
theorem LO.del {w0 w w' : World} {n g : Nat} {bo : Option Addr} {m cap l bcap i : Nat} {L M : List (Nat → Nat)} (h : LO w0 w n (some ⟨g, 0, none⟩) m cap bo l bcap L M) {vs : List Value}
    (hvs : RowOf 22 w w0.heap.size (some ⟨g, 0, none⟩) m cap vs ∧ Rows2X w (fun b => some b ≠ (Value.slice bo l bcap).ownBlock) (some g) vs (rowsN n L)) (hi : i < m)
    (hrow : RowOf 22 w' w0.heap.size (some ⟨g, 0, none⟩) (m - 1) cap (vs.take i ++ vs.drop (i + 1))) (hg : w.grownBy w' (some g)) : LO w0 w' n (some ⟨g, 0, none⟩) (m - 1) cap bo l bcap (L.eraseIdx i) M := by
  obtain ⟨us, h3, h4⟩ := h.out
  have hlt := hvs.1.block g rfl
  have hvl : vs.length = L.length := by rw [hvs.2.1, rowsN_length]
  have hml : L.length = m := h.llen
  refine ⟨Below.grown h.ext hg h.ext.size fun c hc => by cases hc; exact hlt.1, ⟨_, hrow, ?_, fun j v hv => ?_⟩, ⟨us, h3.kept fun c hc => hg.block c (h3.block c hc).2 fun e => h.ap g rfl (by cases e; exact hc), h4.1, fun j v hv => (h4.2 j v hv).next hg fun b hb _ => ⟨hb, hb⟩⟩, h.ap⟩
  · rw [rowsN_length, List.length_eraseIdx, if_pos (by omega)]
    simp
    omega
  · rw [← List.eraseIdx_eq_take_drop_succ] at hv
    have hj : j < (vs.eraseIdx i).length := (List.getElem?_eq_some_iff.1 hv).1
    rw [List.length_eraseIdx, if_pos (by omega)] at hj
    rw [row_rowsN n _ (by rw [List.length_eraseIdx, if_pos (by omega)]; omega)]
    rw [List.getElem?_eraseIdx] at hv
    by_cases e : j < i
    · rw [if_pos e] at hv
      have e2 : fAt (L.eraseIdx i) j = fAt L j := by rw [fAt_eq (by rw [List.length_eraseIdx, if_pos (by omega)]; omega), fAt_eq (by omega), List.getElem_eraseIdx, dif_pos e]
      rw [e2, ← row_rowsN n L (by omega)]
      exact (hvs.2.2 j v hv).grown hg (.inl rfl)
    · rw [if_neg e] at hv
      have e2 : fAt (L.eraseIdx i) j = fAt L (j + 1) := by rw [fAt_eq (by rw [List.length_eraseIdx, if_pos (by omega)]; omega), fAt_eq (by omega), List.getElem_eraseIdx, dif_neg e]
      rw [e2, ← row_rowsN n L (by omega)]
      exact (hvs.2.2 (j + 1) v hv).grown hg (.inl rfl)

end Go.Proofs.YtnhdngnolepkcaaDoor
