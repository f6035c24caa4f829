/- What the reference's span marks: the numbers of the rows of the space. Plain but for the words of the walk. -/
import Derived.Test.YthkafhmciapipaaDoorJndfgjdfomd
import Derived.Test.YthkafhmciapipaaDoorJapnhbomkic
import Derived.Test.YthkafhmciapipaaDoorJgcdkbgjmfo
namespace Go.Proofs.YthkafhmciapipaaDoor
open Go.RowKit
set_option linter.unusedSectionVars false
set_option linter.unusedVariables false

/-- A number is put behind, where it isn't there. -/
def mark (s : List Nat) (c : Nat) : List Nat := if c ∈ s then s else s ++ [c]
theorem mem_mark {s : List Nat} {c d : Nat} : d ∈ mark s c ↔ d ∈ s ∨ d = c := by
  unfold mark
  split
  · rename_i h
    exact ⟨.inl, fun h' => h'.elim id (fun e => e ▸ h)⟩
  · rw [List.mem_append, List.mem_singleton]
theorem mark_nodup {s : List Nat} {c : Nat} (h : s.Nodup) : (mark s c).Nodup := by
  unfold mark
  split
  · exact h
  · rename_i hc
    exact List.nodup_append.2 ⟨h, by simp, fun a ha b hb e => by
      have : b = c := by simpa using hb
      exact hc (this ▸ e ▸ ha)⟩
theorem mark_pre {s : List Nat} {c j : Nat} (hj : j < s.length) : j < (mark s c).length ∧ (mark s c).getD j 0 = s.getD j 0 := by
  unfold mark
  split
  · exact ⟨hj, rfl⟩
  · refine ⟨by simp; omega, ?_⟩
    rw [List.getD_eq_getElem?_getD, List.getD_eq_getElem?_getD, List.getElem?_append_left hj]

/-- The numbers of rows and another one; the steps of the reference. -/
def sumC (p k q n : Nat) (c : Nat) (f : Nat → Nat) : Nat := shutN q n (fun j => addF p k (opn q n c j) (f j))
def timR (p k : Nat) (low : List Int) (x : Nat) (f : Nat → Nat) : Nat → Nat := fun j => mulF p k (nth low) x (f j)
def addJ (p k q n : Nat) (L0 : List Nat) (f : Nat → Nat) (s : List Nat) : Nat → List Nat
  | 0 => s
  | j + 1 => mark (addJ p k q n L0 f s j) (sumC p k q n (L0.getD j 0) f)
def addX (p k q n : Nat) (low : List Int) (L0 : List Nat) (f : Nat → Nat) : Nat → List Nat
  | 0 => L0
  | t + 1 => addJ p k q n L0 (timR p k low (t + 1) f) (addX p k q n low L0 f t) L0.length
def spanC (p k n : Nat) (low : List Int) (rows : List (Nat → Nat)) : Nat → List Nat
  | 0 => [0]
  | i + 1 => addX p k (p ^ k) n low (spanC p k n low rows i) (fAt rows i) (p ^ k - 1)

theorem addJ_all {p k q n : Nat} {L0 : List Nat} {f : Nat → Nat} {s : List Nat} {P : Nat → Prop} (hs : ∀ c, c ∈ s → P c) (hP : ∀ c, P (sumC p k q n c f)) : ∀ j, ∀ c, c ∈ addJ p k q n L0 f s j → P c
  | 0, c, h => hs c h
  | j + 1, c, h => by
    rcases mem_mark.1 h with h | rfl
    · exact addJ_all hs hP j c h
    · exact hP _
theorem addJ_nodup {p k q n : Nat} {L0 : List Nat} {f : Nat → Nat} {s : List Nat} (h : s.Nodup) : ∀ j, (addJ p k q n L0 f s j).Nodup
  | 0 => h
  | j + 1 => mark_nodup (addJ_nodup h j)
theorem addJ_mem {p k q n : Nat} {L0 : List Nat} {f : Nat → Nat} {s : List Nat} : ∀ j c, c ∈ addJ p k q n L0 f s j ↔ c ∈ s ∨ ∃ i, i < j ∧ c = sumC p k q n (L0.getD i 0) f
  | 0, c => ⟨.inl, fun h => h.elim id (fun ⟨i, hi, _⟩ => by omega)⟩
  | j + 1, c => by
    show c ∈ mark _ _ ↔ _
    rw [mem_mark, addJ_mem j c]
    constructor
    · rintro ((h | ⟨i, hi, e⟩) | e)
      · exact .inl h
      · exact .inr ⟨i, by omega, e⟩
      · exact .inr ⟨j, by omega, e⟩
    · rintro (h | ⟨i, hi, e⟩)
      · exact .inl (.inl h)
      · by_cases hij : i = j
        · subst hij; exact .inr e
        · exact .inl (.inr ⟨i, by omega, e⟩)
theorem addJ_pre {p k q n : Nat} {L0 : List Nat} {f : Nat → Nat} {s : List Nat} {i : Nat} (hi : i < s.length) : ∀ j, i < (addJ p k q n L0 f s j).length ∧ (addJ p k q n L0 f s j).getD i 0 = s.getD i 0
  | 0 => ⟨hi, rfl⟩
  | j + 1 => by
    have h := addJ_pre (p := p) (k := k) (q := q) (n := n) (L0 := L0) (f := f) hi j
    have h2 := mark_pre (c := sumC p k q n (L0.getD j 0) f) h.1
    exact ⟨h2.1, h2.2.trans h.2⟩
theorem addX_pre {p k q n : Nat} {low : List Int} {L0 : List Nat} {f : Nat → Nat} {i : Nat} (hi : i < L0.length) : ∀ t, i < (addX p k q n low L0 f t).length ∧ (addX p k q n low L0 f t).getD i 0 = L0.getD i 0
  | 0 => ⟨hi, rfl⟩
  | t + 1 => by
    have h := addX_pre (p := p) (k := k) (q := q) (n := n) (low := low) (f := f) hi t
    have h2 := addJ_pre (p := p) (k := k) (q := q) (n := n) (L0 := L0) (f := timR p k low (t + 1) f) h.1 L0.length
    exact ⟨h2.1, h2.2.trans h.2⟩
theorem addX_all {p k q n : Nat} {low : List Int} {L0 : List Nat} {f : Nat → Nat} {P : Nat → Prop} (hs : ∀ c, c ∈ L0 → P c) (hP : ∀ c g, P (sumC p k q n c g)) : ∀ t, ∀ c, c ∈ addX p k q n low L0 f t → P c
  | 0, c, h => hs c h
  | t + 1, c, h => addJ_all (addX_all hs hP t) (fun c => hP c _) _ c h
theorem addX_nodup {p k q n : Nat} {low : List Int} {L0 : List Nat} {f : Nat → Nat} (h : L0.Nodup) : ∀ t, (addX p k q n low L0 f t).Nodup
  | 0 => h
  | t + 1 => addJ_nodup (addX_nodup h t) _
theorem addX_mem {p k q n : Nat} {low : List Int} {L0 : List Nat} {f : Nat → Nat} : ∀ t c, c ∈ addX p k q n low L0 f t ↔ c ∈ L0 ∨ ∃ x i, 1 ≤ x ∧ x ≤ t ∧ i < L0.length ∧ c = sumC p k q n (L0.getD i 0) (timR p k low x f)
  | 0, c => ⟨.inl, fun h => h.elim id (fun ⟨x, i, h1, h2, _⟩ => by omega)⟩
  | t + 1, c => by
    show c ∈ addJ _ _ _ _ _ _ _ _ ↔ _
    rw [addJ_mem, addX_mem t c]
    constructor
    · rintro ((h | ⟨x, i, h1, h2, h3, e⟩) | ⟨i, hi, e⟩)
      · exact .inl h
      · exact .inr ⟨x, i, h1, by omega, h3, e⟩
      · exact .inr ⟨t + 1, i, by omega, by omega, hi, e⟩
    · rintro (h | ⟨x, i, h1, h2, h3, e⟩)
      · exact .inl (.inl h)
      · by_cases hx : x = t + 1
        · subst hx; exact .inr ⟨i, h3, e⟩
        · exact .inl (.inr ⟨x, i, h1, by omega, h3, e⟩)

section
variable {p k : Nat} {low : List Int} [hI : FldP p k low]

theorem qpos {p k : Nat} (low : List Int) [hI : FldP p k low] : 0 < p ^ k := Nat.pow_pos (FldP.pos hI)
/-- The row of a number over the field; the number of a row. -/
noncomputable def vOf (n c : Nat) : Nat → El p k low := fun j => if j < n then ⟨opn (p ^ k) n c j, opn_lt (Nat.pow_pos (FldP.pos hI))⟩ else 0
def cOf (n : Nat) (v : Nat → El p k low) : Nat := shutN (p ^ k) n (toN v)

theorem vOf_n {n c j : Nat} (hj : j < n) : (vOf (p := p) (k := k) (low := low) n c j).n = opn (p ^ k) n c j := by unfold vOf; rw [if_pos hj]
theorem vOf_sup {n c j : Nat} (hj : n ≤ j) : vOf (p := p) (k := k) (low := low) n c j = 0 := by unfold vOf; rw [if_neg (by omega)]
theorem cOf_lt (n : Nat) (v : Nat → El p k low) : cOf n v < (p ^ k) ^ n := shutN_lt (qpos (k := k) low) fun j _ => (v j).h
theorem vOf_cOf {n : Nat} {v : Nat → El p k low} (hz : ∀ j, n ≤ j → v j = 0) : vOf n (cOf n v) = v := by
  funext j
  by_cases hj : j < n
  · refine El.ext' ?_
    rw [vOf_n hj]
    exact opn_shut (qpos (k := k) low) (fun j _ => (v j).h) hj
  · rw [vOf_sup (by omega), hz j (by omega)]
theorem cOf_vOf {n c : Nat} (hc : c < (p ^ k) ^ n) : cOf n (vOf (p := p) (k := k) (low := low) n c) = c := by
  unfold cOf
  exact (shutN_congr (f := toN (vOf (p := p) (k := k) (low := low) n c)) (g := opn (p ^ k) n c) fun j hj => vOf_n hj).trans (shut_opn (qpos (k := k) low) hc)
theorem vOf_zero (n : Nat) : vOf (p := p) (k := k) (low := low) n 0 = vz := by
  funext j
  by_cases hj : j < n
  · refine El.ext' ?_
    rw [vOf_n hj, opn_zero]; rfl
  · rw [vOf_sup (by omega)]; rfl
theorem vOf_inj {n c d : Nat} (hc : c < (p ^ k) ^ n) (hd : d < (p ^ k) ^ n) (h : vOf (p := p) (k := k) (low := low) n c = vOf n d) : c = d := by
  rw [← cOf_vOf (low := low) hc, ← cOf_vOf (low := low) hd, h]
/-- A sum of the reference. -/
theorem sumC_is (n c : Nat) (x : El p k low) (r : Nat → El p k low) : sumC p k (p ^ k) n c (timR p k low x.n (toN r)) = cOf n (lin (vOf n c) x r) := by
  unfold sumC cOf
  refine shutN_congr fun j hj => ?_
  show _ = (vOf n c j + x * r j).n
  rw [toN_add, toN_mul, vOf_n hj]
  rfl

/-- The numbers that are marked are those of the space. -/
structure IsCodes (n : Nat) (s : List Nat) (S : (Nat → El p k low) → Prop) : Prop where
  nodup : s.Nodup
  lt : ∀ c, c ∈ s → c < (p ^ k) ^ n
  mem : ∀ c, c < (p ^ k) ^ n → (c ∈ s ↔ S (vOf n c))
theorem IsCodes.length {n : Nat} {s : List Nat} {S : (Nat → El p k low) → Prop} (h : IsCodes n s S) : s.length ≤ (p ^ k) ^ n := by
  have := nodup_le id s (List.range ((p ^ k) ^ n)) h.nodup (fun c hc => List.mem_range.2 (h.lt c hc)) (fun _ _ _ _ e => e)
  simpa using this
theorem mem_getD {s : List Nat} {c : Nat} : c ∈ s ↔ ∃ i, i < s.length ∧ s.getD i 0 = c := by
  rw [List.mem_iff_getElem]
  constructor
  · rintro ⟨i, hi, e⟩
    exact ⟨i, hi, by rw [List.getD_eq_getElem?_getD, List.getElem?_eq_getElem hi, Option.getD_some, e]⟩
  · rintro ⟨i, hi, e⟩
    exact ⟨i, hi, by rw [List.getD_eq_getElem?_getD, List.getElem?_eq_getElem hi, Option.getD_some] at e; exact e⟩

theorem codes_step {n : Nat} {s : List Nat} {V : List (Nat → El p k low)} {r : Nat → El p k low} (hz : Zero n V) (hr : ∀ j, n ≤ j → r j = 0) (h : IsCodes n s (Span V)) : IsCodes n (addX p k (p ^ k) n low s (toN r) (p ^ k - 1)) (Span (V ++ [r])) := by
  have hsup : ∀ (x : El p k low) (u : Nat → El p k low), (∀ j, n ≤ j → u j = 0) → ∀ j, n ≤ j → lin u x r j = 0 := fun x u hu j hj => by
    unfold lin; rw [hu j hj, hr j hj, Fld.mul_zero, Fld.add_zero]
  refine ⟨addX_nodup h.nodup _, addX_all (h.lt) (fun c g => ?_) _, fun c hc => ?_⟩
  · refine shutN_lt (qpos (k := k) low) fun j _ => addF_lt (FldP.pos hI) _ _
  · rw [addX_mem]
    constructor
    · rintro (hm | ⟨x, i, h1, h2, h3, rfl⟩)
      · exact span_sublist (fun _ h => List.mem_append_left _ h) ((h.mem c hc).1 hm)
      · have hx : x < p ^ k := by have := qpos (p := p) (k := k) low; omega
        have e := sumC_is n (s.getD i 0) (⟨x, hx⟩ : El p k low) r
        have e' : sumC p k (p ^ k) n (s.getD i 0) (timR p k low x (toN r)) = cOf n (lin (vOf n (s.getD i 0)) (⟨x, hx⟩ : El p k low) r) := e
        rw [e', vOf_cOf (hsup _ _ fun j hj => vOf_sup hj)]
        have hd : s.getD i 0 ∈ s := mem_getD.2 ⟨i, h3, rfl⟩
        exact span_snoc.2 ⟨_, _, (h.mem _ (h.lt _ hd)).1 hd, rfl⟩
    · intro hv
      obtain ⟨x, u, hu, e⟩ := span_snoc.1 hv
      have hus : ∀ j, n ≤ j → u j = 0 := fun j hj => (span_sub hz).sup u hu j hj
      by_cases hx : x = 0
      · left
        refine (h.mem c hc).2 ?_
        rw [e, hx, lin_zero]; exact hu
      · right
        have hd : cOf n u ∈ s := (h.mem _ (cOf_lt n u)).2 (by rw [vOf_cOf hus]; exact hu)
        obtain ⟨i, hi, ei⟩ := mem_getD.1 hd
        have hx0 : x.n ≠ 0 := fun h0 => hx (n_zero.1 h0)
        have hxl := x.h
        refine ⟨x.n, i, by omega, by omega, hi, ?_⟩
        rw [sumC_is n (s.getD i 0) x r, ei, vOf_cOf hus, ← e, cOf_vOf hc]
theorem codes_start (n : Nat) : IsCodes n [0] (Span ([] : List (Nat → El p k low))) := by
  have h0 : 0 < (p ^ k) ^ n := Nat.pow_pos (qpos (k := k) low)
  refine ⟨by simp, fun c hc => by have : c = 0 := by simpa using hc
                                  omega, fun c hc => ?_⟩
  rw [List.mem_singleton]
  constructor
  · rintro rfl; exact vOf_zero n
  · intro h
    have h : vOf (p := p) (k := k) (low := low) n c = vz := h
    exact vOf_inj (low := low) hc h0 (h.trans (vOf_zero n).symm)
theorem spanC_codes {n : Nat} {V : List (Nat → El p k low)} (hz : Zero n V) : ∀ i, i ≤ V.length → IsCodes n (spanC p k n low (V.map toN) i) (Span (V.take i))
  | 0, _ => by rw [List.take_zero]; exact codes_start n
  | i + 1, hi => by
    have ih := spanC_codes hz i (by omega)
    have e : V.take (i + 1) = V.take i ++ [rowAt V i] := by
      rw [List.take_add_one, rowAt_eq V i (by omega), List.getElem?_eq_getElem (by omega)]
      rfl
    rw [e]
    show IsCodes n (addX p k (p ^ k) n low (spanC p k n low (V.map toN) i) (fAt (V.map toN) i) (p ^ k - 1)) _
    rw [fAt_map]
    exact codes_step (fun r hr => hz r (List.mem_of_mem_take hr)) (hz _ (rowAt_mem V i (by omega))) ih
theorem span_codes {n : Nat} {V : List (Nat → El p k low)} (hz : Zero n V) : IsCodes n (spanC p k n low (V.map toN) V.length) (Span V) := by
  have h := spanC_codes hz V.length (Nat.le_refl _)
  rwa [List.take_length] at h
end

end Go.Proofs.YthkafhmciapipaaDoor

/- Rows of truth values of a call's own. No conditions. -/
namespace Go.Proofs.YthkafhmciapipaaDoor
open Go.RowKit

/-- The truth values that a function tells. -/
def boolL (T : Nat → Bool) (n : Nat) : List Value := (List.range n).map fun i => Value.bool (T i)
theorem boolL_length (T : Nat → Bool) (n : Nat) : (boolL T n).length = n := by simp [boolL]
theorem boolL_get (T : Nat → Bool) {n i : Nat} (h : i < n) : (boolL T n)[i]? = some (.bool (T i)) := by simp [boolL, h]
theorem boolL_congr {T U : Nat → Bool} {n : Nat} (h : ∀ i, i < n → T i = U i) : boolL T n = boolL U n := by
  unfold boolL
  exact List.map_congr_left fun i hi => by rw [h i (List.mem_range.1 hi)]
theorem boolL_set (T : Nat → Bool) {n j : Nat} (b : Bool) : (boolL T n).set j (.bool b) = boolL (fun i => if i = j then b else T i) n := by
  refine List.ext_getElem (by simp [boolL]) fun i h1 h2 => ?_
  rw [List.getElem_set]
  simp [boolL] at h2 ⊢
  by_cases e : j = i
  · rw [if_pos e, if_pos e.symm]
  · rw [if_neg e, if_neg (Ne.symm e)]
theorem boolL_snoc (T : Nat → Bool) (n : Nat) : boolL T (n + 1) = boolL T n ++ [.bool (T n)] := by unfold boolL; rw [List.range_succ, List.map_append]; rfl

theorem eBool : Elt 37 4 (.bool false) 1 := ⟨Tryd.underlying37, by kernel_rfl, rfl, by decide⟩

/-- A row of truth values of the call's own. -/
structure OwnB (w0 wr : World) (g N cap : Nat) (T : Nat → Bool) : Prop where
  ext : Ext w0 wr
  row : RowOf 4 wr w0.heap.size (some ⟨g, 0, none⟩) N cap (boolL T N)
namespace OwnB
variable {w0 wr w' : World} {g N cap : Nat} {T U : Nat → Bool}
theorem cellAt (h : OwnB w0 wr g N cap T) {j : Nat} (hj : j < N) : wr.cell? ⟨g, j, none⟩ = some (.bool (T j)) := h.row.known.2.2.1 j _ (boolL_get T hj)
theorem f (h : OwnB w0 wr g N cap T) (j : Nat) : wr.frozen? ⟨g, j, none⟩ = false := h.row.known.2.2.2 j
theorem lt (h : OwnB w0 wr g N cap T) : w0.heap.size ≤ g ∧ g < wr.heap.size := ⟨h.row.known.1, h.row.known.2.1⟩
theorem carry (h : OwnB w0 wr g N cap T) (hx : Ext wr w') : OwnB w0 w' g N cap T := ⟨h.ext.trans hx, hx.row h.row⟩
theorem congr (h : OwnB w0 wr g N cap T) (e : ∀ i, i < N → T i = U i) : OwnB w0 wr g N cap U := ⟨h.ext, by rw [← boolL_congr e]; exact h.row⟩
theorem set (h : OwnB w0 wr g N cap T) (j : Nat) (b : Bool) : OwnB w0 (wr.setCell ⟨g, j, none⟩ (.bool b)) g N cap (fun i => if i = j then b else T i) :=
  ⟨h.ext.set h.lt.1 _, by rw [← boolL_set T b]; exact h.row.stored j _⟩
theorem reads (h : OwnB w0 wr g N cap T) : Reads wr (some ⟨g, 0, none⟩) (boolL T N) := h.row.reads
end OwnB

/-- make([]bool, n). -/
theorem mk_bools (n : Nat) (hn : n ≤ 1099511627776) (w : World) : (Instr.makeSlice 37 (.int .i64 (n : Int)) (.int .i64 (n : Int))).run Tryd.prog w = .ok (.slice (some ⟨w.heap.size, 0, none⟩) n n) (w.alloc (.cells (madeCells #[.bool false] n) 4)) :=
  run_make_row' 37 4 (.bool false) 1 eBool.und eBool.inf rfl .i64 .i64 n (by omega) (by omega) w
theorem madeCells_bools (n : Nat) : (madeCells #[Value.bool false] n).toList = boolL (fun _ => false) n := by
  simp [madeCells, boolL]
  intro a _; simp [Nat.mod_one]
theorem OwnB.made (w : World) (n : Nat) (hn : n ≤ 1099511627776) : OwnB w (w.alloc (.cells (madeCells #[.bool false] n) 4)) w.heap.size n n (fun _ => false) := by
  refine ⟨(Ext.refl w).alloc _, ?_⟩
  have h := RowOf.lit' 4 w (madeCells #[.bool false] n) (by rw [size_madeCells]; unfold maxLen; omega) rfl
  rwa [madeCells_bools, size_madeCells] at h

end Go.Proofs.YthkafhmciapipaaDoor
