/- What the reference's basis of a marked space is. Plain but for the words of the walk. -/
import Derived.Test.YtnhdngnolepkcaaDoorJiclkdngkcn
import Derived.Test.YtnhdngnolepkcaaDoorJlmibflkdfk
import Derived.Test.YtnhdngnolepkcaaDoorJkibegpofdo
namespace Go.Proofs.YtnhdngnolepkcaaDoor
open Go.RowKit
set_option linter.unusedSectionVars false
set_option linter.unusedVariables false

/-- Does a row ahead of C begin at k? -/
def ldT (q n : Nat) (T : Nat → Bool) (C k : Nat) : Bool := (List.range C).any fun c => decide (c ≠ 0) && (T c && leadOf n (opn q n c) == (k : Int))
/-- Is a row one of the basis? -/
def okC (q n : Nat) (LD : Nat → Bool) (k c : Nat) : Bool := (leadOf n (opn q n c) == (k : Int) && opn q n c k == 1) && (List.range n).all fun j => !(LD j && (j != k && opn q n c j != 0))
def rowsK (q n : Nat) (T LD : Nat → Bool) (k : Nat) : Nat → List (Nat → Nat)
  | 0 => []
  | C + 1 => if C ≠ 0 ∧ T C = true ∧ okC q n LD k C = true then rowsK q n T LD k C ++ [opn q n C] else rowsK q n T LD k C
def outK (q n N : Nat) (T LD : Nat → Bool) : Nat → List (Nat → Nat)
  | 0 => []
  | k + 1 => if LD k = true then outK q n N T LD k ++ rowsK q n T LD k N else outK q n N T LD k

theorem rowsK_none {q n : Nat} {T LD : Nat → Bool} {k : Nat} : ∀ C, (∀ c, c < C → ¬ (c ≠ 0 ∧ T c = true ∧ okC q n LD k c = true)) → rowsK q n T LD k C = []
  | 0, _ => rfl
  | C + 1, h => by
    rw [rowsK, if_neg (h C (by omega)), rowsK_none C fun c hc => h c (by omega)]
theorem rowsK_one {q n : Nat} {T LD : Nat → Bool} {k c0 : Nat} (h0 : c0 ≠ 0 ∧ T c0 = true ∧ okC q n LD k c0 = true) : ∀ C, c0 < C → (∀ c, c < C → (c ≠ 0 ∧ T c = true ∧ okC q n LD k c = true) → c = c0) → rowsK q n T LD k C = [opn q n c0]
  | 0, h, _ => by omega
  | C + 1, hc, hu => by
    by_cases e : C = c0
    · subst e
      rw [rowsK, if_pos h0, rowsK_none C fun c hc' h => by have := hu c (by omega) h; omega]
      rfl
    · rw [rowsK, if_neg (fun h => e (hu C (by omega) h)), rowsK_one h0 C (by omega) fun c hc' h => hu c (by omega) h]

section
variable {p k : Nat} {low : List Int} [hI : FldP p k low]

theorem lead_row {n i : Nat} (hi : i < n) {v : Nat → El p k low} (h : v i ≠ 0) (hz : ∀ j, j < i → v j = 0) : leadOf n (toN v) = i := leadOf_is hi (fun e => h (n_zero.1 e)) fun j hj => by show (v j).n = 0; rw [hz j hj]; rfl
/-- A row that isn't all 0 begins somewhere. -/
theorem lead_some {n : Nat} {v : Nat → El p k low} (hz : ∀ j, n ≤ j → v j = 0) (h : v ≠ vz) : ∃ i, i < n ∧ v i ≠ 0 ∧ (∀ j, j < i → v j = 0) ∧ leadOf n (toN v) = i := by
  have hex : ∃ i, v i ≠ 0 := Classical.byContradiction fun hn => h (funext fun i => Classical.byContradiction fun g => hn ⟨i, g⟩)
  obtain ⟨i, hi, hm⟩ : ∃ i, v i ≠ 0 ∧ ∀ j, j < i → v j = 0 := by
    obtain ⟨i0, hi0⟩ := hex
    induction i0 using Nat.strongRecOn with
    | _ i0 ih =>
      by_cases hs : ∃ j, j < i0 ∧ v j ≠ 0
      · obtain ⟨j, hj, hv⟩ := hs
        exact ih j hj hv
      · exact ⟨i0, hi0, fun j hj => Classical.byContradiction fun g => hs ⟨j, hj, g⟩⟩
  have hin : i < n := by
    rcases Nat.lt_or_ge i n with hl | hl
    · exact hl
    · exact absurd (hz i hl) hi
  exact ⟨i, hin, hi, hm, lead_row hin hi hm⟩
theorem opn_toN {n c : Nat} : ∀ j, j < n → opn (p ^ k) n c j = toN (vOf (p := p) (k := k) (low := low) n c) j := fun j hj => (vOf_n hj).symm
theorem nrow_congr {f g : Nat → Nat} {n : Nat} (h : ∀ j, j < n → f j = g j) : nrow f n = nrow g n := tab_congr _ _ _ fun j hj => by rw [h j hj]
theorem leadOf_congr {f g : Nat → Nat} {n : Nat} (h : ∀ j, j < n → f j = g j) : leadOf n f = leadOf n g := by unfold leadOf; rw [nrow_congr h]
theorem leadOf_opn (n c : Nat) : leadOf n (opn (p ^ k) n c) = leadOf n (toN (vOf (p := p) (k := k) (low := low) n c)) := leadOf_congr opn_toN

/-- The marks of a space. -/
def Marks (n : Nat) (T : Nat → Bool) (S : (Nat → El p k low) → Prop) : Prop := ∀ c, c < (p ^ k) ^ n → (T c = true ↔ S (vOf n c))

theorem ld_iff {n : Nat} {T : Nat → Bool} {L : List (Nat → El p k low)} {P : Nat → Nat} (hL : IsRref n L P) (hT : Marks n T (Span L)) (j : Nat) (hj : j < n) : ldT (p ^ k) n T ((p ^ k) ^ n) j = true ↔ ∃ i, i < L.length ∧ P i = j := by
  unfold ldT
  rw [List.any_eq_true]
  constructor
  · rintro ⟨c, hc, h⟩
    rw [List.mem_range] at hc
    simp only [Bool.and_eq_true, decide_eq_true_eq, beq_iff_eq] at h
    obtain ⟨h0, h1, h2⟩ := h
    have hS := (hT c hc).1 h1
    have hne : vOf (p := p) (k := k) (low := low) n c ≠ vz := fun e => h0 (vOf_inj (low := low) hc (Nat.pow_pos (qpos low)) (e.trans (vOf_zero n).symm))
    obtain ⟨i, _, hv, hz, hl⟩ := lead_some (fun j hj => vOf_sup hj) hne
    rw [leadOf_opn (low := low), hl] at h2
    obtain rfl : i = j := by omega
    exact Rref.lead hL (hL.span.1 hS) hv hz
  · rintro ⟨i, hi, rfl⟩
    have hmem := span_mem (rowAt_mem L i hi)
    have hsup : ∀ j, n ≤ j → rowAt L i j = 0 := fun j hj => Rref.sup hL i hi j hj
    have hone : rowAt L i (P i) ≠ 0 := by rw [Rref.one hL i hi i hi, if_pos rfl]; exact Fld.one_ne
    have hlead : leadOf n (toN (rowAt L i)) = P i := lead_row hj hone (Rref.low hL i hi)
    refine ⟨cOf n (rowAt L i), List.mem_range.2 (cOf_lt n _), ?_⟩
    simp only [Bool.and_eq_true, decide_eq_true_eq, beq_iff_eq]
    refine ⟨fun e => hone ?_, (hT _ (cOf_lt n _)).2 (by rw [vOf_cOf hsup]; exact hmem), by rw [leadOf_opn (low := low), vOf_cOf hsup]; exact hlead⟩
    have := vOf_cOf hsup
    rw [e, vOf_zero] at this
    rw [← this]; rfl
theorem ok_iff {n : Nat} {LD : Nat → Bool} {L : List (Nat → El p k low)} {P : Nat → Nat} (hL : IsRref n L P) (hLD : ∀ j, j < n → (LD j = true ↔ ∃ i, i < L.length ∧ P i = j)) {i c : Nat} (hi : i < L.length) (hS : Span L (vOf n c)) : okC (p ^ k) n LD (P i) c = true ↔ vOf n c = rowAt L i := by
  have hPn := Rref.pn hL i hi
  unfold okC
  simp only [Bool.and_eq_true, beq_iff_eq, List.all_eq_true, List.mem_range]
  constructor
  · rintro ⟨⟨h1, h2⟩, h3⟩
    refine Rref.own hL (hL.span.1 hS) hi fun j hj => ?_
    have hPj := Rref.pn hL j hj
    by_cases e : i = j
    · subst e
      rw [if_pos rfl]
      refine El.ext' ?_
      rw [vOf_n hPn]; exact h2
    · rw [if_neg e]
      have h4 := h3 (P j) hPj
      rw [(hLD (P j) hPj).2 ⟨j, hj, rfl⟩] at h4
      have hne : P j ≠ P i := fun h => e (Rref.inj hL hj hi h).symm
      simp only [Bool.true_and, Bool.not_eq_true', Bool.and_eq_false_iff, bne_eq_false_iff_eq] at h4
      rcases h4 with h4 | h4
      · exact absurd h4 hne
      · refine El.ext' ?_
        rw [vOf_n hPj]; exact h4
  · intro e
    have hone : rowAt L i (P i) ≠ 0 := by rw [Rref.one hL i hi i hi, if_pos rfl]; exact Fld.one_ne
    have hlead : leadOf n (toN (rowAt L i)) = P i := lead_row hPn hone (Rref.low hL i hi)
    have hop : ∀ j, j < n → opn (p ^ k) n c j = (rowAt L i j).n := fun j hj => by rw [← e, vOf_n hj]
    refine ⟨⟨by rw [leadOf_opn (low := low), e]; exact hlead, ?_⟩, fun j hj => ?_⟩
    · rw [hop _ hPn, Rref.one hL i hi i hi, if_pos rfl]; rfl
    · cases hld : LD j with
      | false => rfl
      | true =>
        obtain ⟨t, ht, rfl⟩ := (hLD j hj).1 hld
        rw [Bool.true_and, Bool.not_eq_true', Bool.and_eq_false_iff]
        by_cases e2 : i = t
        · subst e2; left; simp
        · right
          rw [bne_eq_false_iff_eq, hop _ hj, Rref.one hL i hi t ht, if_neg e2]; rfl
theorem outK_is {n : Nat} {T LD : Nat → Bool} {L : List (Nat → El p k low)} {P : Nat → Nat} (hL : IsRref n L P) (hT : Marks n T (Span L)) (hLD : ∀ j, j < n → (LD j = true ↔ ∃ i, i < L.length ∧ P i = j)) :
    ∀ kk, kk ≤ n → ∃ t, t ≤ L.length ∧ (∀ i, i < L.length → (P i < kk ↔ i < t)) ∧ rowsN n (outK (p ^ k) n ((p ^ k) ^ n) T LD kk) = rowsN n ((L.take t).map toN)
  | 0, _ => ⟨0, Nat.zero_le _, fun i _ => ⟨fun h => by omega, fun h => by omega⟩, by rw [List.take_zero]; rfl⟩
  | kk + 1, hk => by
    obtain ⟨t, ht, hP, he⟩ := outK_is hL hT hLD kk (by omega)
    rw [outK]
    by_cases hl : LD kk = true
    · rw [if_pos hl]
      obtain ⟨i, hi, e⟩ := (hLD kk (by omega)).1 hl
      have hti : t = i := by
        have h1 : ¬ i < t := fun h => by have := (hP i hi).2 h; omega
        rcases Nat.lt_or_ge t i with h | h
        · have := Rref.inc hL t i h hi
          have := (hP t (by omega)).1 (by omega)
          omega
        · omega
      subst hti
      refine ⟨t + 1, hi, fun j hj => ?_, ?_⟩
      · constructor
        · intro h
          rcases Nat.lt_or_ge t j with h2 | h2
          · have := Rref.inc hL t j h2 hj; omega
          · omega
        · intro h
          have := Rref.mono hL (show j ≤ t by omega) hi
          omega
      · have hsup : ∀ j, n ≤ j → rowAt L t j = 0 := fun j hj => Rref.sup hL t hi j hj
        have hmem := span_mem (rowAt_mem L t hi)
        have hone : rowAt L t (P t) ≠ 0 := by rw [Rref.one hL t hi t hi, if_pos rfl]; exact Fld.one_ne
        have hc0 : cOf n (rowAt L t) ≠ 0 := fun e0 => hone (by
          have := vOf_cOf hsup
          rw [e0, vOf_zero] at this
          rw [← this]; rfl)
        have hS0 : Span L (vOf n (cOf n (rowAt L t))) := by rw [vOf_cOf hsup]; exact hmem
        have hone2 := rowsK_one (q := p ^ k) (n := n) (T := T) (LD := LD) (k := kk) (c0 := cOf n (rowAt L t)) ⟨hc0, (hT _ (cOf_lt n _)).2 hS0, by rw [← e]; exact (ok_iff hL hLD hi hS0).2 (vOf_cOf hsup)⟩ ((p ^ k) ^ n) (cOf_lt n _) fun c hc h => by
          have hSc := (hT c hc).1 h.2.1
          have h3 := h.2.2
          rw [← e] at h3
          have h4 := (ok_iff hL hLD hi hSc).1 h3
          rw [← cOf_vOf (low := low) hc, h4]
        rw [hone2]
        have e2 : L.take (t + 1) = L.take t ++ [rowAt L t] := by
          rw [List.take_add_one, rowAt_eq L t hi, List.getElem?_eq_getElem hi]; rfl
        rw [e2, List.map_append]
        unfold rowsN at he ⊢
        rw [List.map_append, List.map_append, he]
        congr 1
        show [nrow (opn (p ^ k) n (cOf n (rowAt L t))) n] = [nrow (toN (rowAt L t)) n]
        rw [nrow_congr fun j hj => by rw [opn_toN (low := low) j hj, vOf_cOf hsup]]
    · rw [if_neg hl]
      refine ⟨t, ht, fun i hi => ?_, he⟩
      rw [← hP i hi]
      constructor
      · intro h
        rcases Nat.lt_or_ge (P i) kk with h2 | h2
        · exact h2
        · exact absurd ((hLD kk (by omega)).2 ⟨i, hi, by omega⟩) hl
      · intro h; omega
/-- The basis that the reference finds. -/
theorem basisOf_is {n : Nat} {T : Nat → Bool} {S : (Nat → El p k low) → Prop} {xss : List (List Int)} (hB : BasisI n xss S) (hT : Marks n T S) : rowsN n (outK (p ^ k) n ((p ^ k) ^ n) T (ldT (p ^ k) n T ((p ^ k) ^ n)) n) = xss := by
  obtain ⟨L, P, rfl, hL, hs⟩ := hB
  have hT' : Marks n T (Span L) := fun c hc => (hT c hc).trans (hs _).symm
  obtain ⟨t, ht, hP, he⟩ := outK_is hL hT' (fun j hj => ld_iff hL hT' j hj) n (Nat.le_refl n)
  have htl : t = L.length := by
    rcases Nat.lt_or_ge t L.length with h | h
    · have := (hP t h).1 (Rref.pn hL t h); omega
    · omega
  rw [he, htl, List.take_length]

end

/-- A number that isn't 0 is a row that begins. -/
theorem lead_opn {p k : Nat} (low : List Int) [hI : FldP p k low] {n c : Nat} (hc : c < (p ^ k) ^ n) (h0 : c ≠ 0) : ∃ i, i < n ∧ leadOf n (opn (p ^ k) n c) = i := by
  have hne : vOf (p := p) (k := k) (low := low) n c ≠ vz := fun e => h0 (vOf_inj (low := low) hc (Nat.pow_pos (qpos low)) (e.trans (vOf_zero n).symm))
  obtain ⟨i, hi, _, _, hl⟩ := lead_some (fun j hj => vOf_sup hj) hne
  exact ⟨i, hi, by rw [leadOf_opn (low := low), hl]⟩

end Go.Proofs.YtnhdngnolepkcaaDoor

/- What the reference's span answers, over the field. No conditions but a room. -/
namespace Go.Proofs.YtnhdngnolepkcaaDoor
open Go.RowKit
set_option linter.unusedVariables false
set_option linter.unusedSectionVars false

section
variable {p k : Nat} {low : List Int} [hI : FldP p k low]

theorem span_ref (n m : Nat) (ao vo : Option Addr) (cap mcap : Nat) (V : List (Nat → El p k low)) (w : World) (hR : IsRoom p k low n) (hra : Reads w ao (ints low)) (hz : Zero n V) (hm : V.length = m) (hm12 : m ≤ 100) (hr : ReadsL w vo (rowsN n (V.map toN))) :
    Calls Tryd.prog 7 #[.agg #[.int .i64 p, .int .i64 k, .slice ao k cap], .int .i64 n, .slice vo m mcap] w fun e w' => ∃ (g : Nat) (T : Nat → Bool), e = .returned (.slice (some ⟨g, 0, none⟩) ((p ^ k) ^ n) ((p ^ k) ^ n)) ∧ OwnB w w' g ((p ^ k) ^ n) ((p ^ k) ^ n) T ∧ Marks n T (Span V) := by
  refine (refSpan_any p k n ao vo cap m mcap low (V.map toN) w hR.fld hra hR.n1 hR.n6 hR.big (by rw [List.length_map, hm]) hm12 (allLt_toN n V) hr).mono ?_
  rintro e w' ⟨g, rfl, h⟩
  refine ⟨g, _, rfl, h, fun c hc => ?_⟩
  have h1 := span_codes (p := p) (k := k) (low := low) hz
  rw [hm] at h1
  rw [decide_eq_true_iff]
  exact h1.mem c hc
end

end Go.Proofs.YtnhdngnolepkcaaDoor

/- The numbers that are marked, in order. Plain, no program. -/
namespace Go.Proofs.YtnhdngnolepkcaaDoor

/-- Those from a on, N of them. -/
def codesR (T : Nat → Bool) (a N : Nat) : List Nat := ((List.range N).map (a + ·)).filter T
theorem codesR_zero (T : Nat → Bool) (a : Nat) : codesR T a 0 = [] := rfl
theorem codesR_append (T : Nat → Bool) (a N M : Nat) : codesR T a (N + M) = codesR T a N ++ codesR T (a + N) M := by
  unfold codesR
  rw [List.range_add, List.map_append, List.filter_append, List.map_map]
  congr 3
  funext i
  show a + (N + i) = a + N + i
  omega
theorem codesR_one (T : Nat → Bool) (a : Nat) : codesR T a 1 = if T a = true then [a] else [] := by
  unfold codesR
  show List.filter T [a + 0] = _
  rw [Nat.add_zero]
  by_cases h : T a = true
  · rw [if_pos h, List.filter_cons_of_pos h, List.filter_nil]
  · rw [if_neg h, List.filter_cons_of_neg h, List.filter_nil]
theorem codesR_len (T : Nat → Bool) (a N : Nat) : (codesR T a N).length ≤ N := by
  unfold codesR
  refine Nat.le_trans (List.length_filter_le _ _) ?_
  simp
theorem codesR_succ (T : Nat → Bool) (a N : Nat) : codesR T a (N + 1) = if T (a + N) = true then codesR T a N ++ [a + N] else codesR T a N := by
  rw [codesR_append, codesR_one]
  split
  · rfl
  · rw [List.append_nil]
theorem mem_codesR {T : Nat → Bool} {N c : Nat} : c ∈ codesR T 0 N ↔ c < N ∧ T c = true := by
  unfold codesR
  rw [List.mem_filter, List.mem_map]
  constructor
  · rintro ⟨⟨i, hi, rfl⟩, h⟩
    have := List.mem_range.1 hi
    exact ⟨by omega, h⟩
  · rintro ⟨h1, h2⟩
    exact ⟨⟨c, List.mem_range.2 h1, by omega⟩, h2⟩
theorem codesR_nodup (T : Nat → Bool) (N : Nat) : (codesR T 0 N).Nodup := by
  unfold codesR
  refine List.Nodup.sublist List.filter_sublist ?_
  have : (List.range N).map (0 + ·) = List.range N := by
    conv => rhs; rw [← List.map_id (List.range N)]
    exact List.map_congr_left fun i _ => by simp
  rw [this]; exact List.nodup_range
theorem codesR_congr {T U : Nat → Bool} {N : Nat} (h : ∀ c, c < N → T c = U c) : codesR T 0 N = codesR U 0 N := by
  unfold codesR
  refine List.filter_congr fun c hc => ?_
  obtain ⟨i, hi, rfl⟩ := List.mem_map.1 hc
  exact h _ (by have := List.mem_range.1 hi; omega)

end Go.Proofs.YtnhdngnolepkcaaDoor
