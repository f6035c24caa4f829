/- The laws of spaces, plainly: Grassmann; normal and normal again; join and meet. Plain but for the words of the walk. -/
import Derived.Test.YthkafhmciapipaaDoorJndfgjdfomd
import Derived.Test.YthkafhmciapipaaDoorJmemdifaeah
import Derived.Test.YthkafhmciapipaaDoorJhcegahdkac
namespace Go.Proofs.YthkafhmciapipaaDoor
open Go.RowKit
set_option linter.unusedSectionVars false

section
variable {p k : Nat} {low : List Int} [hI : FldP p k low]

theorem nul_append {n : Nat} {A B : List (Nat → El p k low)} (v : Nat → El p k low) : Nul n (Span (A ++ B)) v ↔ Nul n (Span A) v ∧ Nul n (Span B) v := by
  rw [nul_span, nul_span, nul_span]
  constructor
  · intro h
    exact ⟨⟨h.1, fun r hr => h.2 r (List.mem_append_left _ hr)⟩, ⟨h.1, fun r hr => h.2 r (List.mem_append_right _ hr)⟩⟩
  · intro h
    exact ⟨h.1.1, fun r hr => (List.mem_append.1 hr).elim (h.1.2 r) (h.2.2 r)⟩
/-- Normal to the normal, of any rows. -/
theorem nul_nul' {n : Nat} {V : List (Nat → El p k low)} (hz : Zero n V) (v : Nat → El p k low) : Nul n (Nul n (Span V)) v ↔ Span V v := by
  obtain ⟨P, h1, h2⟩ := basV_ok hz
  rw [← h2 v, ← nul_nul h1 v]
  exact nul_congr (nul_congr fun v => (h2 v).symm) v
/-- What the meet is: normal to both normals. -/
theorem meet_is {n : Nat} {A B NA NB : List (Nat → El p k low)} (hA : Zero n A) (hB : Zero n B) (h1 : ∀ v, Span NA v ↔ Nul n (Span A) v) (h2 : ∀ v, Span NB v ↔ Nul n (Span B) v) (v : Nat → El p k low) : Nul n (Span (NA ++ NB)) v ↔ Span A v ∧ Span B v := by
  rw [nul_append, nul_congr h1 v, nul_congr h2 v, nul_nul' hA, nul_nul' hB]

/-- Grassmann, of lists of ints. -/
theorem grassmann_ints {n : Nat} {a b j m : List (List Int)} {A B : List (Nat → El p k low)} (hA : BasisI n a (Span A)) (hB : BasisI n b (Span B)) (hJ : BasisI n j (Span (A ++ B))) (hM : BasisI n m (fun v => Span A v ∧ Span B v)) : j.length + m.length = a.length + b.length := by
  obtain ⟨LA, PA, rfl, rA, sA⟩ := hA
  obtain ⟨LB, PB, rfl, rB, sB⟩ := hB
  obtain ⟨LJ, PJ, rfl, rJ, sJ⟩ := hJ
  obtain ⟨LM, PM, rfl, rM, sM⟩ := hM
  simp only [rowsN_length, List.length_map]
  refine grassmann (card_el low) rA rB rJ rM (fun v => ?_) (fun v => ?_)
  · rw [sJ v, span_append]
    exact ⟨fun ⟨x, y, h1, h2, h3⟩ => ⟨x, y, (sA x).2 h1, (sB y).2 h2, h3⟩, fun ⟨x, y, h1, h2, h3⟩ => ⟨x, y, (sA x).1 h1, (sB y).1 h2, h3⟩⟩
  · rw [sM v, sA v, sB v]
/-- The rows of a space and of its normal are n together. -/
theorem rank_ints {n : Nat} {a u : List (List Int)} {A : List (Nat → El p k low)} (hA : BasisI n a (Span A)) (hU : BasisI n u (Nul n (Span A))) : u.length + a.length = n := by
  obtain ⟨LA, PA, rfl, rA, sA⟩ := hA
  obtain ⟨LU, PU, rfl, rU, sU⟩ := hU
  simp only [rowsN_length, List.length_map]
  exact rank_nul (card_el low) rA rU fun v => (sU v).trans (nul_congr (fun v => (sA v).symm) v)
end

end Go.Proofs.YthkafhmciapipaaDoor

/- What the reference's basis of a marked space is. Plain but for the words of the walk. -/
namespace Go.Proofs.YthkafhmciapipaaDoor
open Go.RowKit
set_option linter.unusedSectionVars false
set_option linter.unusedVariables false

/-- Does a row ahead of C begin at k? -/
def ldT (q n : Nat) (T : Nat → Bool) (C k : Nat) : Bool := (List.range C).any fun c => decide (c ≠ 0) && (T c && leadOf n (opn q n c) == (k : Int))
/-- Is a row one of the basis? -/
def okC (q n : Nat) (LD : Nat → Bool) (k c : Nat) : Bool := (leadOf n (opn q n c) == (k : Int) && opn q n c k == 1) && (List.range n).all fun j => !(LD j && (j != k && opn q n c j != 0))
def rowsK (q n : Nat) (T LD : Nat → Bool) (k : Nat) : Nat → List (Nat → Nat)
  | 0 => []
  | C + 1 => if C ≠ 0 ∧ T C = true ∧ okC q n LD k C = true then rowsK q n T LD k C ++ [opn q n C] else rowsK q n T LD k C
def outK (q n N : Nat) (T LD : Nat → Bool) : Nat → List (Nat → Nat)
  | 0 => []
  | k + 1 => if LD k = true then outK q n N T LD k ++ rowsK q n T LD k N else outK q n N T LD k

theorem rowsK_none {q n : Nat} {T LD : Nat → Bool} {k : Nat} : ∀ C, (∀ c, c < C → ¬ (c ≠ 0 ∧ T c = true ∧ okC q n LD k c = true)) → rowsK q n T LD k C = []
  | 0, _ => rfl
  | C + 1, h => by
    rw [rowsK, if_neg (h C (by omega)), rowsK_none C fun c hc => h c (by omega)]
theorem rowsK_one {q n : Nat} {T LD : Nat → Bool} {k c0 : Nat} (h0 : c0 ≠ 0 ∧ T c0 = true ∧ okC q n LD k c0 = true) : ∀ C, c0 < C → (∀ c, c < C → (c ≠ 0 ∧ T c = true ∧ okC q n LD k c = true) → c = c0) → rowsK q n T LD k C = [opn q n c0]
  | 0, h, _ => by omega
  | C + 1, hc, hu => by
    by_cases e : C = c0
    · subst e
      rw [rowsK, if_pos h0, rowsK_none C fun c hc' h => by have := hu c (by omega) h; omega]
      rfl
    · rw [rowsK, if_neg (fun h => e (hu C (by omega) h)), rowsK_one h0 C (by omega) fun c hc' h => hu c (by omega) h]

section
variable {p k : Nat} {low : List Int} [hI : FldP p k low]

theorem lead_row {n i : Nat} (hi : i < n) {v : Nat → El p k low} (h : v i ≠ 0) (hz : ∀ j, j < i → v j = 0) : leadOf n (toN v) = i := leadOf_is hi (fun e => h (n_zero.1 e)) fun j hj => by show (v j).n = 0; rw [hz j hj]; rfl
/-- A row that isn't all 0 begins somewhere. -/
theorem lead_some {n : Nat} {v : Nat → El p k low} (hz : ∀ j, n ≤ j → v j = 0) (h : v ≠ vz) : ∃ i, i < n ∧ v i ≠ 0 ∧ (∀ j, j < i → v j = 0) ∧ leadOf n (toN v) = i := by
  have hex : ∃ i, v i ≠ 0 := Classical.byContradiction fun hn => h (funext fun i => Classical.byContradiction fun g => hn ⟨i, g⟩)
  obtain ⟨i, hi, hm⟩ : ∃ i, v i ≠ 0 ∧ ∀ j, j < i → v j = 0 := by
    obtain ⟨i0, hi0⟩ := hex
    induction i0 using Nat.strongRecOn with
    | _ i0 ih =>
      by_cases hs : ∃ j, j < i0 ∧ v j ≠ 0
      · obtain ⟨j, hj, hv⟩ := hs
        exact ih j hj hv
      · exact ⟨i0, hi0, fun j hj => Classical.byContradiction fun g => hs ⟨j, hj, g⟩⟩
  have hin : i < n := by
    rcases Nat.lt_or_ge i n with hl | hl
    · exact hl
    · exact absurd (hz i hl) hi
  exact ⟨i, hin, hi, hm, lead_row hin hi hm⟩
theorem opn_toN {n c : Nat} : ∀ j, j < n → opn (p ^ k) n c j = toN (vOf (p := p) (k := k) (low := low) n c) j := fun j hj => (vOf_n hj).symm
theorem nrow_congr {f g : Nat → Nat} {n : Nat} (h : ∀ j, j < n → f j = g j) : nrow f n = nrow g n := tab_congr _ _ _ fun j hj => by rw [h j hj]
theorem leadOf_congr {f g : Nat → Nat} {n : Nat} (h : ∀ j, j < n → f j = g j) : leadOf n f = leadOf n g := by unfold leadOf; rw [nrow_congr h]
theorem leadOf_opn (n c : Nat) : leadOf n (opn (p ^ k) n c) = leadOf n (toN (vOf (p := p) (k := k) (low := low) n c)) := leadOf_congr opn_toN

/-- The marks of a space. -/
def Marks (n : Nat) (T : Nat → Bool) (S : (Nat → El p k low) → Prop) : Prop := ∀ c, c < (p ^ k) ^ n → (T c = true ↔ S (vOf n c))

theorem ld_iff {n : Nat} {T : Nat → Bool} {L : List (Nat → El p k low)} {P : Nat → Nat} (hL : IsRref n L P) (hT : Marks n T (Span L)) (j : Nat) (hj : j < n) : ldT (p ^ k) n T ((p ^ k) ^ n) j = true ↔ ∃ i, i < L.length ∧ P i = j := by
  unfold ldT
  rw [List.any_eq_true]
  constructor
  · rintro ⟨c, hc, h⟩
    rw [List.mem_range] at hc
    simp only [Bool.and_eq_true, decide_eq_true_eq, beq_iff_eq] at h
    obtain ⟨h0, h1, h2⟩ := h
    have hS := (hT c hc).1 h1
    have hne : vOf (p := p) (k := k) (low := low) n c ≠ vz := fun e => h0 (vOf_inj (low := low) hc (Nat.pow_pos (qpos low)) (e.trans (vOf_zero n).symm))
    obtain ⟨i, _, hv, hz, hl⟩ := lead_some (fun j hj => vOf_sup hj) hne
    rw [leadOf_opn (low := low), hl] at h2
    obtain rfl : i = j := by omega
    exact Rref.lead hL (hL.span.1 hS) hv hz
  · rintro ⟨i, hi, rfl⟩
    have hmem := span_mem (rowAt_mem L i hi)
    have hsup : ∀ j, n ≤ j → rowAt L i j = 0 := fun j hj => Rref.sup hL i hi j hj
    have hone : rowAt L i (P i) ≠ 0 := by rw [Rref.one hL i hi i hi, if_pos rfl]; exact Fld.one_ne
    have hlead : leadOf n (toN (rowAt L i)) = P i := lead_row hj hone (Rref.low hL i hi)
    refine ⟨cOf n (rowAt L i), List.mem_range.2 (cOf_lt n _), ?_⟩
    simp only [Bool.and_eq_true, decide_eq_true_eq, beq_iff_eq]
    refine ⟨fun e => hone ?_, (hT _ (cOf_lt n _)).2 (by rw [vOf_cOf hsup]; exact hmem), by rw [leadOf_opn (low := low), vOf_cOf hsup]; exact hlead⟩
    have := vOf_cOf hsup
    rw [e, vOf_zero] at this
    rw [← this]; rfl
theorem ok_iff {n : Nat} {LD : Nat → Bool} {L : List (Nat → El p k low)} {P : Nat → Nat} (hL : IsRref n L P) (hLD : ∀ j, j < n → (LD j = true ↔ ∃ i, i < L.length ∧ P i = j)) {i c : Nat} (hi : i < L.length) (hS : Span L (vOf n c)) : okC (p ^ k) n LD (P i) c = true ↔ vOf n c = rowAt L i := by
  have hPn := Rref.pn hL i hi
  unfold okC
  simp only [Bool.and_eq_true, beq_iff_eq, List.all_eq_true, List.mem_range]
  constructor
  · rintro ⟨⟨h1, h2⟩, h3⟩
    refine Rref.own hL (hL.span.1 hS) hi fun j hj => ?_
    have hPj := Rref.pn hL j hj
    by_cases e : i = j
    · subst e
      rw [if_pos rfl]
      refine El.ext' ?_
      rw [vOf_n hPn]; exact h2
    · rw [if_neg e]
      have h4 := h3 (P j) hPj
      rw [(hLD (P j) hPj).2 ⟨j, hj, rfl⟩] at h4
      have hne : P j ≠ P i := fun h => e (Rref.inj hL hj hi h).symm
      simp only [Bool.true_and, Bool.not_eq_true', Bool.and_eq_false_iff, bne_eq_false_iff_eq] at h4
      rcases h4 with h4 | h4
      · exact absurd h4 hne
      · refine El.ext' ?_
        rw [vOf_n hPj]; exact h4
  · intro e
    have hone : rowAt L i (P i) ≠ 0 := by rw [Rref.one hL i hi i hi, if_pos rfl]; exact Fld.one_ne
    have hlead : leadOf n (toN (rowAt L i)) = P i := lead_row hPn hone (Rref.low hL i hi)
    have hop : ∀ j, j < n → opn (p ^ k) n c j = (rowAt L i j).n := fun j hj => by rw [← e, vOf_n hj]
    refine ⟨⟨by rw [leadOf_opn (low := low), e]; exact hlead, ?_⟩, fun j hj => ?_⟩
    · rw [hop _ hPn, Rref.one hL i hi i hi, if_pos rfl]; rfl
    · cases hld : LD j with
      | false => rfl
      | true =>
        obtain ⟨t, ht, rfl⟩ := (hLD j hj).1 hld
        rw [Bool.true_and, Bool.not_eq_true', Bool.and_eq_false_iff]
        by_cases e2 : i = t
        · subst e2; left; simp
        · right
          rw [bne_eq_false_iff_eq, hop _ hj, Rref.one hL i hi t ht, if_neg e2]; rfl
theorem outK_is {n : Nat} {T LD : Nat → Bool} {L : List (Nat → El p k low)} {P : Nat → Nat} (hL : IsRref n L P) (hT : Marks n T (Span L)) (hLD : ∀ j, j < n → (LD j = true ↔ ∃ i, i < L.length ∧ P i = j)) :
    ∀ kk, kk ≤ n → ∃ t, t ≤ L.length ∧ (∀ i, i < L.length → (P i < kk ↔ i < t)) ∧ rowsN n (outK (p ^ k) n ((p ^ k) ^ n) T LD kk) = rowsN n ((L.take t).map toN)
  | 0, _ => ⟨0, Nat.zero_le _, fun i _ => ⟨fun h => by omega, fun h => by omega⟩, by rw [List.take_zero]; rfl⟩
  | kk + 1, hk => by
    obtain ⟨t, ht, hP, he⟩ := outK_is hL hT hLD kk (by omega)
    rw [outK]
    by_cases hl : LD kk = true
    · rw [if_pos hl]
      obtain ⟨i, hi, e⟩ := (hLD kk (by omega)).1 hl
      have hti : t = i := by
        have h1 : ¬ i < t := fun h => by have := (hP i hi).2 h; omega
        rcases Nat.lt_or_ge t i with h | h
        · have := Rref.inc hL t i h hi
          have := (hP t (by omega)).1 (by omega)
          omega
        · omega
      subst hti
      refine ⟨t + 1, hi, fun j hj => ?_, ?_⟩
      · constructor
        · intro h
          rcases Nat.lt_or_ge t j with h2 | h2
          · have := Rref.inc hL t j h2 hj; omega
          · omega
        · intro h
          have := Rref.mono hL (show j ≤ t by omega) hi
          omega
      · have hsup : ∀ j, n ≤ j → rowAt L t j = 0 := fun j hj => Rref.sup hL t hi j hj
        have hmem := span_mem (rowAt_mem L t hi)
        have hone : rowAt L t (P t) ≠ 0 := by rw [Rref.one hL t hi t hi, if_pos rfl]; exact Fld.one_ne
        have hc0 : cOf n (rowAt L t) ≠ 0 := fun e0 => hone (by
          have := vOf_cOf hsup
          rw [e0, vOf_zero] at this
          rw [← this]; rfl)
        have hS0 : Span L (vOf n (cOf n (rowAt L t))) := by rw [vOf_cOf hsup]; exact hmem
        have hone2 := rowsK_one (q := p ^ k) (n := n) (T := T) (LD := LD) (k := kk) (c0 := cOf n (rowAt L t)) ⟨hc0, (hT _ (cOf_lt n _)).2 hS0, by rw [← e]; exact (ok_iff hL hLD hi hS0).2 (vOf_cOf hsup)⟩ ((p ^ k) ^ n) (cOf_lt n _) fun c hc h => by
          have hSc := (hT c hc).1 h.2.1
          have h3 := h.2.2
          rw [← e] at h3
          have h4 := (ok_iff hL hLD hi hSc).1 h3
          rw [← cOf_vOf (low := low) hc, h4]
        rw [hone2]
        have e2 : L.take (t + 1) = L.take t ++ [rowAt L t] := by
          rw [List.take_add_one, rowAt_eq L t hi, List.getElem?_eq_getElem hi]; rfl
        rw [e2, List.map_append]
        unfold rowsN at he ⊢
        rw [List.map_append, List.map_append, he]
        congr 1
        show [nrow (opn (p ^ k) n (cOf n (rowAt L t))) n] = [nrow (toN (rowAt L t)) n]
        rw [nrow_congr fun j hj => by rw [opn_toN (low := low) j hj, vOf_cOf hsup]]
    · rw [if_neg hl]
      refine ⟨t, ht, fun i hi => ?_, he⟩
      rw [← hP i hi]
      constructor
      · intro h
        rcases Nat.lt_or_ge (P i) kk with h2 | h2
        · exact h2
        · exact absurd ((hLD kk (by omega)).2 ⟨i, hi, by omega⟩) hl
      · intro h; omega
/-- The basis that the reference finds. -/
theorem basisOf_is {n : Nat} {T : Nat → Bool} {S : (Nat → El p k low) → Prop} {xss : List (List Int)} (hB : BasisI n xss S) (hT : Marks n T S) : rowsN n (outK (p ^ k) n ((p ^ k) ^ n) T (ldT (p ^ k) n T ((p ^ k) ^ n)) n) = xss := by
  obtain ⟨L, P, rfl, hL, hs⟩ := hB
  have hT' : Marks n T (Span L) := fun c hc => (hT c hc).trans (hs _).symm
  obtain ⟨t, ht, hP, he⟩ := outK_is hL hT' (fun j hj => ld_iff hL hT' j hj) n (Nat.le_refl n)
  have htl : t = L.length := by
    rcases Nat.lt_or_ge t L.length with h | h
    · have := (hP t h).1 (Rref.pn hL t h); omega
    · omega
  rw [he, htl, List.take_length]

end

/-- A number that isn't 0 is a row that begins. -/
theorem lead_opn {p k : Nat} (low : List Int) [hI : FldP p k low] {n c : Nat} (hc : c < (p ^ k) ^ n) (h0 : c ≠ 0) : ∃ i, i < n ∧ leadOf n (opn (p ^ k) n c) = i := by
  have hne : vOf (p := p) (k := k) (low := low) n c ≠ vz := fun e => h0 (vOf_inj (low := low) hc (Nat.pow_pos (qpos low)) (e.trans (vOf_zero n).symm))
  obtain ⟨i, hi, _, _, hl⟩ := lead_some (fun j hj => vOf_sup hj) hne
  exact ⟨i, hi, by rw [leadOf_opn (low := low), hl]⟩

end Go.Proofs.YthkafhmciapipaaDoor

/- What space.with answers. Condition: the variable of primes holds them. -/
namespace Go.Proofs.YthkafhmciapipaaDoor
open Go.RowKit

/-- Lists of rows, side by side: each slice reads. -/
def ReadsAll (w : World) (b off : Nat) (ts : List (Option Addr × Nat × List (List Int))) : Prop :=
  b < w.heap.size ∧ ∀ j t, ts[j]? = some t → w.cell? ⟨b, off + j, none⟩ = some (.slice t.1 t.2.2.length t.2.1) ∧ ReadsL w t.1 t.2.2 ∧ t.2.2.length ≤ maxLen
theorem ReadsAll.ext {w w' : World} {b off : Nat} {ts : List (Option Addr × Nat × List (List Int))} (h : ReadsAll w b off ts) (hx : Ext w w') : ReadsAll w' b off ts :=
  ⟨Nat.lt_of_lt_of_le h.1 hx.size, fun j t ht => by obtain ⟨h1, h2, h3⟩ := h.2 j t ht; exact ⟨(hx.cell h.1).trans h1, h2.ext hx, h3⟩⟩
/-- The fault of all. -/
def allFault (q n : Nat) : List (Option Addr × Nat × List (List Int)) → Int
  | [] => 0
  | t :: r => if rowsFault q n t.2.2 ≠ 0 then rowsFault q n t.2.2 else allFault q n r
theorem allFault_hit {q n : Nat} : ∀ (ts : List (Option Addr × Nat × List (List Int))) (j : Nat) (t : Option Addr × Nat × List (List Int)), ts[j]? = some t → (∀ i u, i < j → ts[i]? = some u → rowsFault q n u.2.2 = 0) → rowsFault q n t.2.2 ≠ 0 → allFault q n ts = rowsFault q n t.2.2
  | x :: r, 0, t, ht, _, h => by
    obtain rfl : x = t := by simpa using ht
    rw [allFault, if_pos h]
  | x :: r, j + 1, t, ht, ha, h => by
    have h0 := ha 0 x (by omega) rfl
    rw [allFault, if_neg (fun h' => h' h0)]
    exact allFault_hit r j t (by simpa using ht) (fun i u hi hu => ha (i + 1) u (by omega) (by simpa using hu)) h
theorem allFault_zero {q n : Nat} : ∀ (ts : List (Option Addr × Nat × List (List Int))), (∀ t ∈ ts, rowsFault q n t.2.2 = 0) → allFault q n ts = 0
  | [], _ => rfl
  | x :: r, ha => by
    rw [allFault, if_neg (fun h' => h' (ha x List.mem_cons_self))]
    exact allFault_zero r fun t ht => ha t (List.mem_cons_of_mem _ ht)
theorem allFault_each {q n : Nat} : ∀ {ts : List (Option Addr × Nat × List (List Int))}, allFault q n ts = 0 → ∀ t ∈ ts, rowsFault q n t.2.2 = 0
  | x :: r, h, t, ht => by
    rw [allFault] at h
    by_cases h0 : rowsFault q n x.2.2 = 0
    · rw [if_neg (fun h' => h' h0)] at h
      rcases List.mem_cons.1 ht with rfl | ht
      · exact h0
      · exact allFault_each h t ht
    · rw [if_pos h0] at h; exact absurd h h0

/-- The fault of a room and its lists. -/
def withAll (p k : Int) (low : List Int) (n : Int) (ts : List (Option Addr × Nat × List (List Int))) : Int :=
  if roomFault p k low n ≠ 0 then roomFault p k low n else allFault (ordF p k) n.toNat ts

set_option maxHeartbeats 2000000 in
theorem withs_any (p k : Int) (ao : Option Addr) (len cap : Nat) (low : List Int) (n : Int) (b off m mc : Nat) (ts : List (Option Addr × Nat × List (List Int))) (w : World) (hP : Primes w) (hl : low.length = len) (hr : Reads w ao (ints low)) (hm : ts.length = m) (hm4 : m ≤ 4) (ht : ReadsAll w b off ts) :
    Calls Tryd.prog 27 #[.agg #[.int .i64 p, .int .i64 k, .slice ao len cap], .int .i64 n, .slice (some ⟨b, off, none⟩) m mc] w fun e w' => ∃ v, e = .returned (.tuple #[.pointer v, .int .i64 (withAll p k low n ts)]) ∧ RoomPtr w w' p k low n (withAll p k low n ts) v ∧ Ext w w' := by
  have HX0 : Hid (Ext w (w.alloc (.cells #[.int .i64 p, .int .i64 k, .slice ao len cap] 29))) := (Ext.refl w).alloc _
  have HO := Lib.hid (open_any' p k ao len cap low n _ (hP.ext HX0.out) hl (HX0.out.reads hr))
  have HT := Lib.hid ht
  have HM := Lib.hid hm
  by_cases h0 : roomFault p k low n = 0
  · obtain ⟨P, K, N, rfl, rfl, rfl, hR⟩ := roomFault_zero h0
    have HW : Hid (withAll P K low N ts = allFault (P ^ K) N ts) := by show _ = _; unfold withAll; rw [if_neg (fun h => h h0), hR.fld.fault.2]; rfl
    rw [HW.out]
    rw [h0] at HO
    clear hP hl hr ht hm HW
    have HH0 := Lib.hid h0
    clear h0
    go_enter Tryd.func27, Tryd.ntmps27
    go_wp2_with fail
    refine Calls.mono HO.out ?_
    rintro e w1 ⟨v, rfl, hv, hx⟩
    obtain ⟨P', K', N', bb, e1, e2, e3, hR', rfl, hat, hbw⟩ := hv.2 rfl
    obtain rfl : P = P' := by omega
    obtain rfl : K = K' := by omega
    obtain rfl : N = N' := by omega
    have HX1 := Lib.hid (HX0.out.trans hx)
    have HA := Lib.hid hat
    have HBW : Hid (w.heap.size ≤ bb) := by show _ ≤ _; simp at hbw; omega
    have HRR := Lib.hid hR
    clear hv hx hat hbw hR' e1 e2 e3 hR
    obtain ⟨q, hq⟩ : ∃ q, P ^ K = q := ⟨_, rfl⟩
    have HQ := Lib.hid hq
    clear hq
    go_wp2
    go_loopw [24] (fun x wr => ∃ j : Nat, j ≤ m ∧ x = .int .i64 j ∧ Ext w1 wr ∧ ∀ i u, i < j → ts[i]? = some u → rowsFault q N u.2.2 = 0) (fun x _ => m - (intOf x).toNat)
    case atStart => exact ⟨0, by omega, rfl, Ext.refl _, fun i u hi => by omega⟩
    case round =>
      obtain ⟨j, hj, rfl, hx, ha⟩ := hrel
      have HX := Lib.hid hx
      have HAL := Lib.hid ha
      clear hx ha
      by_cases hlt : j < m
      · obtain ⟨t, htj⟩ : ∃ t, ts[j]? = some t := ⟨_, List.getElem?_eq_getElem (by rw [HM.out]; exact hlt)⟩
        obtain ⟨k1, k2, k3⟩ := ((HT.out.ext HX1.out).ext HX.out).2 j t htj
        have HJ := check_any P K N bb low t.1 t.2.2.length t.2.1 t.2.2 wr (HA.out.ext HX.out) rfl k3 k2
        rw [HQ.out] at HJ
        have HJ := Lib.hid HJ
        have HTJ := Lib.hid htj
        have HZ : Hid (∀ v, rowsFault q N t.2.2 = v → v ≠ 0 → allFault q N ts = v) := fun v hv h0 => by
          rw [allFault_hit ts j t HTJ.out HAL.out (by rw [hv]; exact h0), hv]
        obtain ⟨v, hv⟩ : ∃ v, rowsFault q N t.2.2 = v := ⟨_, rfl⟩
        have HV := Lib.hid hv
        rw [hv] at HJ
        obtain ⟨t1, t2, t3⟩ := t
        obtain ⟨tl, htl⟩ : ∃ l, t3.length = l := ⟨_, rfl⟩
        simp only [htl] at k1 HJ
        clear hv htj k2 k3 htl
        by_cases h0 : v = 0
        · have b2 : (v != 0) = false := by rw [h0]; rfl
          have H0 := Lib.hid h0
          clear h0
          go_wp2_with fail
          refine Calls.mono HJ.out ?_
          rintro e w2 ⟨rfl, hx2⟩
          have HX2 := Lib.hid (HX.out.trans hx2)
          clear hx2
          go_wp2
          go_roundw
          case rel => exact ⟨j + 1, by omega, by go_num, HX2.out, fun i u hi hu => by
            rcases Nat.lt_succ_iff_lt_or_eq.1 hi with h | rfl
            · exact HAL.out i u h hu
            · obtain rfl := Option.some.inj (HTJ.out.symm.trans hu)
              rw [HV.out]; exact H0.out⟩
          case measure => simp [intOf]; omega
        · have b2 : (v != 0) = true := by rw [bne_iff_ne]; exact h0
          have HE := Lib.hid (HZ.out v HV.out h0)
          have H0 := Lib.hid h0
          clear h0
          go_wp2_with fail
          refine Calls.mono HJ.out ?_
          rintro e w2 ⟨rfl, hx2⟩
          have HX2 := Lib.hid (HX1.out.trans (HX.out.trans hx2))
          clear hx2
          go_wp2
          refine bodyPost_ret (v := .tuple #[.pointer none, .int .i64 v]) (by simp [results, Tryd.results27, go_sem]) rfl ?_
          rw [HQ.out, HE.out]
          exact ⟨none, rfl, ⟨fun _ => rfl, fun h => absurd h H0.out⟩, HX2.out⟩
      · obtain rfl : m = j := by omega
        have HE : Hid (allFault q N ts = 0) := allFault_zero ts fun t ht => by
          obtain ⟨i, hi, e⟩ := List.mem_iff_getElem.1 ht
          exact HAL.out i t (by rw [HM.out] at hi; exact hi) (by rw [List.getElem?_eq_getElem hi, e])
        go_wp2
        refine bodyPost_ret (v := .tuple #[.pointer (some ⟨bb, 0, none⟩), .int .i64 0]) (by simp [results, Tryd.results27, go_sem]) rfl ?_
        rw [HQ.out, HE.out]
        exact ⟨_, rfl, ⟨fun h => absurd rfl h, fun _ => ⟨P, K, N, bb, rfl, rfl, rfl, HRR.out, rfl, HA.out.ext HX.out, HBW.out⟩⟩, HX1.out.trans HX.out⟩
  · have HW : Hid (withAll p k low n ts = roomFault p k low n) := by show _ = _; unfold withAll; rw [if_pos h0]
    rw [HW.out]
    obtain ⟨c, hc⟩ : ∃ c, roomFault p k low n = c := ⟨_, rfl⟩
    rw [hc] at HO h0 ⊢
    have b1 : (c != 0) = true := by rw [bne_iff_ne]; exact h0
    have H0 := Lib.hid h0
    clear hP hl hr ht hm HW hc h0
    go_enter Tryd.func27, Tryd.ntmps27
    go_wp2_with fail
    refine Calls.mono HO.out ?_
    rintro e w1 ⟨v, rfl, hv, hx⟩
    have HX1 := Lib.hid (HX0.out.trans hx)
    clear hv hx
    go_wp2
    go_ret2
    exact ⟨none, rfl, ⟨fun _ => rfl, fun h => absurd h H0.out⟩, HX1.out⟩

end Go.Proofs.YthkafhmciapipaaDoor
