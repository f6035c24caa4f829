/- Rows of ints and rows told by functions. No conditions but those of the theorems. -/
import Derived.Test.YtnhdngnolepkcaaDoorJgipkdfejpf
import Derived.Test.YtnhdngnolepkcaaDoorJlejabpnjdh
import Derived.Test.YtnhdngnolepkcaaDoorJpihnipoceb
namespace Go.Proofs.YtnhdngnolepkcaaDoor

def fnsOf (xss : List (List Int)) : List (Nat → Nat) := xss.map fun r j => (nth r j).toNat
theorem rowsFault1_zero {q n : Nat} : ∀ {xss : List (List Int)}, rowsFault1 q n xss = 0 → ∀ r, r ∈ xss → r.length = n ∧ ∀ x, x ∈ r → 0 ≤ x ∧ x < q
  | [], _, r, hr => by cases hr
  | xs :: xss, h, r, hr => by
    unfold rowsFault1 at h
    by_cases h0 : rowFault q n xs = 0
    · rw [if_neg (fun h' => h' h0)] at h
      rcases List.mem_cons.1 hr with rfl | hr
      · unfold rowFault at h0
        by_cases h1 : r.length = n
        · refine ⟨h1, fun x hx => ?_⟩
          rw [if_neg (fun h' => h' h1)] at h0
          by_cases h2 : r.any (badDg q) = true
          · rw [if_pos h2] at h0; omega
          · have h3 : badDg q x = false := by
              cases h4 : badDg q x with
              | false => rfl
              | true => exact absurd (List.any_eq_true.2 ⟨x, hx, h4⟩) h2
            unfold badDg at h3
            simp at h3
            omega
        · rw [if_pos h1] at h0; omega
      · exact rowsFault1_zero h r hr
    · rw [if_pos h0] at h; exact absurd h h0
theorem rowsFault_zero {q n : Nat} {xss : List (List Int)} (h : rowsFault q n xss = 0) : xss.length ≤ 12 ∧ ∀ r, r ∈ xss → r.length = n ∧ ∀ x, x ∈ r → 0 ≤ x ∧ x < q := by
  unfold rowsFault at h
  by_cases h1 : 12 < xss.length
  · rw [if_pos h1] at h; omega
  · rw [if_neg h1] at h
    exact ⟨by omega, rowsFault1_zero h⟩
theorem fnsOf_length (xss : List (List Int)) : (fnsOf xss).length = xss.length := by unfold fnsOf; simp
theorem nth_mem' {r : List Int} {j : Nat} (h : j < r.length) : nth r j ∈ r := by
  unfold nth; rw [List.getD_eq_getElem?_getD, List.getElem?_eq_getElem h]; exact List.getElem_mem h
theorem fnsOf_lt {q n : Nat} {xss : List (List Int)} (h : rowsFault q n xss = 0) : AllLt q n (fnsOf xss) := by
  intro f hf j hj
  obtain ⟨r, hr, rfl⟩ := List.mem_map.1 hf
  obtain ⟨h1, h2⟩ := (rowsFault_zero h).2 r hr
  have := h2 _ (nth_mem' (r := r) (j := j) (by omega))
  show (nth r j).toNat < q
  omega
theorem fnsOf_rows {q n : Nat} {xss : List (List Int)} (h : rowsFault q n xss = 0) : rowsN n (fnsOf xss) = xss := by
  unfold rowsN fnsOf
  rw [List.map_map]
  conv => rhs; rw [← List.map_id xss]
  refine List.map_congr_left fun r hr => ?_
  obtain ⟨h1, h2⟩ := (rowsFault_zero h).2 r hr
  show nrow (fun j => (nth r j).toNat) n = r
  have hl := nrow_length (fun j => (nth r j).toNat) n
  refine List.ext_getElem (by omega) fun j g1 g2 => ?_
  have e1 := nth_nrow (fun j => (nth r j).toNat) (by omega : j < n)
  have := h2 _ (nth_mem' (r := r) (j := j) g2)
  have e2 := nth_eq _ j g1
  have e3 := nth_eq _ j g2
  rw [← e2, ← e3, e1]
  omega

end Go.Proofs.YtnhdngnolepkcaaDoor

/- The elimination in numbers is the elimination over the field. Plain but for the words of the walk. -/
namespace Go.Proofs.YtnhdngnolepkcaaDoor
open Go.RowKit

/-- The field, found by its letters. -/
class FldP (p k : Nat) (low : List Int) : Prop where
  out : IsField p k low
noncomputable instance instFldP {p k : Nat} {low : List Int} [h : FldP p k low] : Fld (El p k low) := fldOf h.out

theorem FldP.pos {p k : Nat} {low : List Int} (h : FldP p k low) : 0 < p := by have := h.out.p2; omega

section
variable {p k : Nat} {low : List Int} [hI : FldP p k low]

def toN (v : Nat → El p k low) : Nat → Nat := fun j => (v j).n
theorem toN_add (a b : El p k low) : (a + b).n = addF p k a.n b.n := rfl
theorem toN_mul (a b : El p k low) : (a * b).n = mulF p k (nth low) a.n b.n := rfl
theorem toN_neg (a : El p k low) : (-a).n = negF p k a.n := rfl
theorem toN_zero : (0 : El p k low).n = 0 := rfl
theorem toN_one : (1 : El p k low).n = 1 := rfl
theorem n_zero {a : El p k low} : a.n = 0 ↔ a = 0 := ⟨fun h => El.ext' h, fun h => by rw [h]; rfl⟩

theorem invN_el {a : El p k low} (h : a ≠ 0) : invN p k low a.n = (Fld.inv a).n := by
  have h0 : a.n ≠ 0 := fun e => h (n_zero.1 e)
  obtain ⟨_, h2, h3⟩ := invI_at hI.out h0 a.h
  have h4 : a * (⟨invN p k low a.n, h2⟩ : El p k low) = 1 := El.ext' h3
  have h5 := Fld.mul_inv a h
  have h6 : (⟨invN p k low a.n, h2⟩ : El p k low) = Fld.inv a := by
    rw [← Fld.mul_one (⟨invN p k low a.n, h2⟩ : El p k low), ← h5, ← Fld.mul_assoc, Fld.mul_comm _ a, h4, Fld.one_mul]
  exact congrArg El.n h6
theorem leadN_el {c : Nat} {r : Nat → El p k low} (h : r c ≠ 0) : leadN p k low c (toN r) = toN (leadV c r) := by
  funext j
  show mulF p k (nth low) (invN p k low (r c).n) (r j).n = mulF p k (nth low) (Fld.inv (r c)).n (r j).n
  rw [invN_el h]
theorem lessN_el (l : Nat → El p k low) (c : Nat) (o : Nat → El p k low) : lessN p k low (toN l) c (toN o) = toN (lessV l c o) := rfl
theorem fAt_map (L : List (Nat → El p k low)) (i : Nat) : fAt (L.map toN) i = toN (rowAt L i) := by
  unfold fAt rowAt
  rw [List.getD_eq_getElem?_getD, List.getD_eq_getElem?_getD, List.getElem?_map]
  cases L[i]? with
  | none => rfl
  | some r => rfl
theorem pivN_map (c : Nat) (L : List (Nat → El p k low)) : pivN c (L.map toN) = pivAt c L := by
  unfold pivN pivAt
  rw [List.findIdx?_map]
  congr 1
  funext r
  show ((r c).n != 0) = !(decide (r c = 0))
  by_cases h : r c = 0
  · rw [h]; rfl
  · rw [decide_eq_false h]
    show ((r c).n != 0) = true
    rw [bne_iff_ne]
    exact fun e => h (n_zero.1 e)
theorem map_erase {α β : Type} (f : α → β) : ∀ (L : List α) (i : Nat), (L.map f).eraseIdx i = (L.eraseIdx i).map f
  | [], _ => rfl
  | _ :: _, 0 => rfl
  | x :: L, i + 1 => by show f x :: (L.map f).eraseIdx i = f x :: (L.eraseIdx i).map f; rw [map_erase f L i]
theorem stepN_map (c : Nat) (s : List (Nat → El p k low) × List (Nat → El p k low)) : stepN p k low c (s.1.map toN, s.2.map toN) = ((stepB c s).1.map toN, (stepB c s).2.map toN) := by
  unfold stepN stepB
  rw [pivN_map]
  cases hp : pivAt c s.1 with
  | none => rfl
  | some i =>
    obtain ⟨h1, h2, _⟩ := pivAt_some hp
    simp only [fAt_map, leadN_el h2]
    refine Prod.ext ?_ ?_
    · show ((s.1.map toN).eraseIdx i).map _ = List.map toN _
      rw [map_erase, List.map_map, List.map_map]
      rfl
    · show (s.2.map toN).map _ ++ _ = List.map toN _
      rw [List.map_append, List.map_map, List.map_map]
      rfl
theorem redN_map (L : List (Nat → El p k low)) : ∀ c, redN p k low (L.map toN) c = ((redTo L c).1.map toN, (redTo L c).2.map toN)
  | 0 => rfl
  | c + 1 => by
    show stepN p k low c (redN p k low (L.map toN) c) = _
    rw [redN_map L c, stepN_map]
    rfl
theorem basN_map (n : Nat) (L : List (Nat → El p k low)) : basN p k low n (L.map toN) = (basV n L).map toN := by
  unfold basN basV
  rw [redN_map]

/-- Where the rows of a basis begin. -/
theorem lead_el {n : Nat} {L : List (Nat → El p k low)} {P : Nat → Nat} (h : IsRref n L P) : ∀ i, i < (L.map toN).length → leadOf n (fAt (L.map toN) i) = (P i : Nat) ∧ P i < n := by
  intro i hi
  rw [List.length_map] at hi
  refine ⟨?_, h.pn i hi⟩
  rw [fAt_map]
  refine leadOf_is (h.pn i hi) ?_ (fun j hj => ?_)
  · show (rowAt L i (P i)).n ≠ 0
    rw [h.one i hi i hi, if_pos rfl]
    exact Nat.one_ne_zero
  · show (rowAt L i j).n = 0
    rw [h.low i hi j hj]; rfl

/-- A normal row. -/
theorem nvTo_free (c : Nat) (B : List (Nat → Nat)) (P : Nat → Nat) (j : Nat) : ∀ m, (∀ i, i < m → P i ≠ j) → nvTo p k c B P m j = if j = c then 1 else 0
  | 0, _ => rfl
  | m + 1, h => by
    unfold nvTo
    rw [if_neg (fun e => h m (by omega) e.symm)]
    exact nvTo_free c B P j m fun i hi => h i (by omega)
theorem nvTo_piv (c : Nat) (B : List (Nat → Nat)) (P : Nat → Nat) (i : Nat) : ∀ m, i < m → (∀ a, a < m → P a = P i → a = i) → nvTo p k c B P m (P i) = negF p k (fAt B i c)
  | 0, h, _ => by omega
  | m + 1, h, hj => by
    unfold nvTo
    by_cases e : P i = P m
    · rw [if_pos e, hj m (by omega) e.symm]
    · rw [if_neg e]
      have : i ≠ m := fun h2 => e (by rw [h2])
      exact nvTo_piv c B P i m (by omega) fun a ha => hj a (by omega)
theorem nvTo_el {n : Nat} {L : List (Nat → El p k low)} {P : Nat → Nat} (h : IsRref n L P) {c : Nat} (hf : Rref.Free L.length P c) : nvTo p k c (L.map toN) P L.length = toN (Rref.nv L.length (rowAt L) P c) := by
  funext j
  show _ = (Rref.nv L.length (rowAt L) P c j).n
  by_cases hj : ∃ i, i < L.length ∧ P i = j
  · obtain ⟨i, hi, rfl⟩ := hj
    rw [nvTo_piv c _ P i _ hi (fun a ha e => Rref.inj h ha hi e), Rref.nv_piv h hf hi, fAt_map]
    rfl
  · have hj' : Rref.Free L.length P j := fun i hi e => hj ⟨i, hi, e⟩
    rw [nvTo_free c _ P j _ hj', Rref.nv_free _ _ hj']
    split <;> rfl
theorem isFree_iff (m : Nat) (P : Nat → Nat) (c : Nat) : isFree m P c = (List.range m).all fun i => !(P i == c) := by
  rw [Bool.eq_iff_iff]
  unfold isFree
  rw [List.all_eq_true, Bool.not_eq_true', Bool.eq_false_iff, Ne, List.contains_iff_mem]
  constructor
  · intro h i hi
    rw [Bool.not_eq_true', beq_eq_false_iff_ne]
    intro e
    refine h ?_
    have h1 : i < (tab (fun i => ((P i : Nat) : Int)) m).length := by rw [tab_length]; exact List.mem_range.1 hi
    have h2 := nth_tab (fun i => ((P i : Nat) : Int)) m i (List.mem_range.1 hi)
    rw [← e, ← h2]
    exact nth_mem' h1
  · intro h hm
    obtain ⟨i, hi, e⟩ := List.mem_iff_getElem.1 hm
    rw [tab_length] at hi
    have h2 := nth_tab (fun i => ((P i : Nat) : Int)) m i hi
    rw [nth_eq _ _ (by rw [tab_length]; exact hi), e] at h2
    have h3 := h i (List.mem_range.2 hi)
    rw [Bool.not_eq_true', beq_eq_false_iff_ne] at h3
    exact h3 (by omega)
theorem nvsTo_el {n : Nat} {L : List (Nat → El p k low)} {P : Nat → Nat} (h : IsRref n L P) : ∀ c, nvsTo p k (L.map toN) P c = ((freeL c L.length P).map (Rref.nv L.length (rowAt L) P)).map toN
  | 0 => rfl
  | c + 1 => by
    unfold nvsTo
    rw [nvsTo_el h c, List.length_map, isFree_iff]
    unfold freeL
    rw [List.range_succ, List.filter_append, List.map_append, List.map_append]
    by_cases hf : ((List.range L.length).all fun i => !(P i == c)) = true
    · rw [if_pos hf]
      have hfr : Rref.Free L.length P c := by
        intro i hi e
        have := List.all_eq_true.1 hf i (List.mem_range.2 hi)
        rw [e] at this
        simp at this
      rw [nvTo_el h hfr]
      simp only [List.filter_cons, hf, if_true, List.filter_nil, List.map_cons, List.map_nil]
    · rw [if_neg hf]
      simp [hf]
theorem nvs_el {n : Nat} {L : List (Nat → El p k low)} {P : Nat → Nat} (h : IsRref n L P) : nvsTo p k (L.map toN) P n = (normV n L P).map toN := nvsTo_el h n

/-- Rows of the program as rows over the field. -/
def vecOf (f : Nat → Nat) : Nat → El p k low := fun j => ⟨f j % p ^ k, Nat.mod_lt _ (Nat.pow_pos (FldP.pos hI))⟩
theorem toN_vecOf {f : Nat → Nat} (h : ∀ j, f j < p ^ k) : toN (vecOf (p := p) (k := k) (low := low) f) = f := funext fun j => Nat.mod_eq_of_lt (h j)
end

end Go.Proofs.YtnhdngnolepkcaaDoor

/- What a list of rows is as the basis of a space over the field. Plain but for the words of the walk. -/
namespace Go.Proofs.YtnhdngnolepkcaaDoor
open Go.RowKit
set_option linter.unusedSectionVars false

theorem nth_beyond (xs : List Int) (i : Nat) (h : xs.length ≤ i) : nth xs i = 0 := by
  unfold nth; rw [List.getD_eq_getElem?_getD, List.getElem?_eq_none h]; rfl

theorem fnsOf_bd {q n : Nat} (hq : 0 < q) {xss : List (List Int)} (h : rowsFault q n xss = 0) : ∀ f, f ∈ fnsOf xss → ∀ j, f j < q ∧ (n ≤ j → f j = 0) := by
  intro f hf j
  obtain ⟨r, hr, rfl⟩ := List.mem_map.1 hf
  have h1 := ((rowsFault_zero h).2 r hr).1
  by_cases hj : j < n
  · exact ⟨fnsOf_lt h _ hf j hj, fun g => by omega⟩
  · have : nth r j = 0 := nth_beyond _ _ (by omega)
    show (nth r j).toNat < _ ∧ (_ → (nth r j).toNat = 0)
    rw [this]
    exact ⟨hq, fun _ => rfl⟩

section
variable {p k : Nat} {low : List Int} [hI : FldP p k low]

/-- Nothing stands behind n. -/
def Zero (n : Nat) (V : List (Nat → El p k low)) : Prop := ∀ r ∈ V, ∀ j, n ≤ j → r j = 0
theorem Zero.nil (n : Nat) : Zero n ([] : List (Nat → El p k low)) := fun r hr => by cases hr
theorem Zero.append {n : Nat} {V U : List (Nat → El p k low)} (h : Zero n V) (g : Zero n U) : Zero n (V ++ U) := fun r hr => by
  rcases List.mem_append.1 hr with hr | hr
  · exact h r hr
  · exact g r hr
theorem IsRref.zero {n : Nat} {V : List (Nat → El p k low)} {P : Nat → Nat} (h : IsRref n V P) : Zero n V := fun _ hr j hj => h.sup hr j hj

/-- Rows of ints as rows over the field. -/
def vecs (xss : List (List Int)) : List (Nat → El p k low) := (fnsOf xss).map vecOf
theorem vecs_length (xss : List (List Int)) : (vecs (p := p) (k := k) (low := low) xss).length = xss.length := by unfold vecs; rw [List.length_map, fnsOf_length]
theorem vecs_toN {n : Nat} {xss : List (List Int)} (h : rowsFault (p ^ k) n xss = 0) : (vecs (p := p) (k := k) (low := low) xss).map toN = fnsOf xss := by
  unfold vecs
  rw [List.map_map]
  conv => rhs; rw [← List.map_id (fnsOf xss)]
  exact List.map_congr_left fun f hf => toN_vecOf fun j => (fnsOf_bd (Nat.pow_pos (FldP.pos hI)) h f hf j).1
theorem vecs_zero {n : Nat} {xss : List (List Int)} (h : rowsFault (p ^ k) n xss = 0) : Zero n (vecs (p := p) (k := k) (low := low) xss) := by
  intro r hr j hj
  obtain ⟨f, hf, rfl⟩ := List.mem_map.1 hr
  refine El.ext' ?_
  show f j % p ^ k = 0
  rw [(fnsOf_bd (Nat.pow_pos (FldP.pos hI)) h f hf j).2 hj, Nat.zero_mod]
theorem vecs_rows {n : Nat} {xss : List (List Int)} (h : rowsFault (p ^ k) n xss = 0) : rowsN n ((vecs (p := p) (k := k) (low := low) xss).map toN) = xss := by rw [vecs_toN h, fnsOf_rows h]

theorem allLt_toN (n : Nat) (V : List (Nat → El p k low)) : AllLt (p ^ k) n (V.map toN) := fun f hf j _ => by
  obtain ⟨v, _, rfl⟩ := List.mem_map.1 hf
  exact (v j).h
theorem nth_row_toN {n : Nat} (v : Nat → El p k low) {j : Nat} (hj : j < n) : nth (nrow (toN v) n) j = ((v j).n : Nat) := nth_nrow (toN v) hj

/-- The rows of a list over the field have no fault. -/
theorem rowsFault_toN {n : Nat} (V : List (Nat → El p k low)) (hl : V.length ≤ 12) : rowsFault (p ^ k) n (rowsN n (V.map toN)) = 0 := by
  unfold rowsFault
  rw [rowsN_length, List.length_map, if_neg (by omega)]
  refine rowsFault1_all _ fun i hi => ?_
  rw [rowsN_length, List.length_map] at hi
  rw [row_rowsN n _ (by rw [List.length_map]; exact hi), fAt_map]
  unfold rowFault
  rw [if_neg (by rw [nrow_length]; omega), if_neg]
  intro h
  obtain ⟨x, hx, hb⟩ := List.any_eq_true.1 h
  obtain ⟨j, hj, rfl⟩ := List.mem_iff_getElem.1 hx
  rw [nrow_length] at hj
  have e := nth_row_toN (rowAt V i) hj
  rw [nth_eq _ _ (by rw [nrow_length]; exact hj)] at e
  rw [e] at hb
  have := (rowAt V i j).h
  obtain ⟨x, hx⟩ : ∃ x, (rowAt V i j).n = x := ⟨_, rfl⟩
  obtain ⟨q, hq⟩ : ∃ q, p ^ k = q := ⟨_, rfl⟩
  rw [hx] at hb this
  rw [hq] at hb this
  unfold badDg at hb
  simp at hb
  omega
theorem vecs_back {n : Nat} {V : List (Nat → El p k low)} (hz : Zero n V) : vecs (rowsN n (V.map toN)) = V := by
  refine List.ext_getElem (by rw [vecs_length, rowsN_length, List.length_map]) fun i h1 h2 => ?_
  have hz1 := hz V[i] (List.getElem_mem h2)
  have e : (vecs (p := p) (k := k) (low := low) (rowsN n (V.map toN)))[i] = vecOf (fun j => (nth (nrow (toN V[i]) n) j).toNat) := by
    simp only [vecs, fnsOf, rowsN, List.getElem_map]
  rw [e]
  funext j
  refine El.ext' ?_
  show (nth (nrow (toN V[i]) n) j).toNat % p ^ k = (V[i] j).n
  by_cases hj : j < n
  · rw [nth_row_toN _ hj]
    exact Nat.mod_eq_of_lt (V[i] j).h
  · rw [nth_beyond _ _ (by rw [nrow_length]; omega), hz1 j (by omega)]
    exact Nat.zero_mod _

/-- These rows are the reduced basis of a space. -/
def BasisI (n : Nat) (xss : List (List Int)) (S : (Nat → El p k low) → Prop) : Prop := ∃ L P, xss = rowsN n (L.map toN) ∧ IsRref n L P ∧ ∀ v, Span L v ↔ S v
theorem BasisI.unique {n : Nat} {xss yss : List (List Int)} {S T : (Nat → El p k low) → Prop} (h : BasisI n xss S) (g : BasisI n yss T) (hs : ∀ v, S v ↔ T v) : xss = yss := by
  obtain ⟨L, P, rfl, h1, h2⟩ := h
  obtain ⟨M, Q, rfl, g1, g2⟩ := g
  rw [(rref_unique h1 g1 fun v => (h2 v).trans ((hs v).trans (g2 v).symm)).1]
theorem BasisI.congr {n : Nat} {xss : List (List Int)} {S T : (Nat → El p k low) → Prop} (h : BasisI n xss S) (hs : ∀ v, S v ↔ T v) : BasisI n xss T := by
  obtain ⟨L, P, h0, h1, h2⟩ := h
  exact ⟨L, P, h0, h1, fun v => (h2 v).trans (hs v)⟩
theorem rref_len {n m : Nat} {B : Nat → Nat → El p k low} {P : Nat → Nat} (h : Rref n m B P) : m ≤ n := by
  have key : ∀ i, i < m → i ≤ P i := by
    intro i
    induction i with
    | zero => intro _; omega
    | succ i ih => intro hi; have := ih (by omega); have := h.inc i (i + 1) (by omega) hi; omega
  by_cases h0 : m = 0
  · omega
  · have := key (m - 1) (by omega)
    have := h.pn (m - 1) (by omega)
    omega
theorem BasisI.len {n : Nat} {xss : List (List Int)} {S : (Nat → El p k low) → Prop} (h : BasisI n xss S) : xss.length ≤ n := by
  obtain ⟨L, P, rfl, h1, _⟩ := h
  rw [rowsN_length, List.length_map]
  exact rref_len h1
theorem BasisI.fault {n : Nat} {xss : List (List Int)} {S : (Nat → El p k low) → Prop} (h : BasisI n xss S) (hn : n ≤ 6) : rowsFault (p ^ k) n xss = 0 := by
  have hl := h.len
  obtain ⟨L, P, rfl, h1, _⟩ := h
  rw [rowsN_length, List.length_map] at hl
  exact rowsFault_toN L (by omega)
theorem BasisI.span {n : Nat} {xss : List (List Int)} {S : (Nat → El p k low) → Prop} (h : BasisI n xss S) (v : Nat → El p k low) : Span (vecs xss) v ↔ S v := by
  obtain ⟨L, P, rfl, h1, h2⟩ := h
  rw [vecs_back h1.zero]
  exact h2 v

/-- What the elimination finds. -/
theorem basN_basis {n : Nat} {V : List (Nat → El p k low)} (hz : Zero n V) : BasisI n (rowsN n (basN p k low n (V.map toN))) (Span V) := by
  obtain ⟨P, h1, h2⟩ := basV_ok hz
  exact ⟨basV n V, P, by rw [basN_map], h1, h2⟩

/-- Where the rows of a basis begin, as the program finds it. -/
def leadP (n : Nat) (B : List (Nat → Nat)) (i : Nat) : Nat := (leadOf n (fAt B i)).toNat
def normN (p k : Nat) (low : List Int) (n : Nat) (rows : List (Nat → Nat)) : List (Nat → Nat) := basN p k low n (nvsTo p k (basN p k low n rows) (leadP n (basN p k low n rows)) n)
theorem leadP_ok {n : Nat} {V : List (Nat → El p k low)} (hz : Zero n V) : IsRref n (basV n V) (leadP n (basN p k low n (V.map toN))) := by
  obtain ⟨P, h1, _⟩ := basV_ok hz
  have h3 := lead_el (n := n) (L := basV n V) (P := P) h1
  have h4 : ∀ i, i < (basV n V).length → leadP n (basN p k low n (V.map toN)) i = P i := fun i hi => by
    unfold leadP
    rw [basN_map, (h3 i (by rw [List.length_map]; exact hi)).1]
    rfl
  refine ⟨h1.sup, fun i hi => by rw [h4 i hi]; exact h1.pn i hi, fun i j hij hj => by rw [h4 i (by omega), h4 j hj]; exact h1.inc i j hij hj, fun i hi c hc => ?_, fun i hi j hj => ?_⟩
  · rw [h4 i hi] at hc; exact h1.low i hi c hc
  · rw [h4 j hj]; exact h1.one i hi j hj
theorem normN_basis {n : Nat} {V : List (Nat → El p k low)} (hz : Zero n V) : BasisI n (rowsN n (normN p k low n (V.map toN))) (Nul n (Span V)) := by
  have h := leadP_ok hz
  obtain ⟨_, _, h2⟩ := basV_ok hz
  unfold normN
  rw [show nvsTo p k (basN p k low n (V.map toN)) (leadP n (basN p k low n (V.map toN))) n = (normV n (basV n V) (leadP n (basN p k low n (V.map toN)))).map toN by
    have := nvs_el h
    rw [← basN_map] at this
    exact this]
  refine (basN_basis ?_).congr fun v => ?_
  · intro r hr j hj
    obtain ⟨c, hc, _, rfl⟩ := (mem_normV r).1 hr
    exact Rref.nv_sup h hc hj
  · rw [normV_nul h v]
    exact nul_congr h2 v
end

end Go.Proofs.YtnhdngnolepkcaaDoor
