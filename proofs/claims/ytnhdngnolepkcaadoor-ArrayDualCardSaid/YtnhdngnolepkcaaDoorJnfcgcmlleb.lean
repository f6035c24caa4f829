/- What array.Check and parterreref3.RunsFault answer at any runs. -/
import Derived.Test.YtnhdngnolepkcaaDoorJpihnipoceb
import Derived.Test.YtnhdngnolepkcaaDoorJpoobehflpg
import Derived.DeepKeys4
import Derived.Maps.RangeWalk
import Derived.Maps.Views
import Derived.WideKeyEntry
import Derived.Maps.OwnSet
namespace Go.Proofs.YtnhdngnolepkcaaDoor
open Go.RowKit

/-- No level. -/
def badAt (s x : Int) : Bool := decide (x < 0) || decide (s ≤ x)
/-- What is wrong with one run. -/
def runFault (s : Int) (k : Nat) (r : List Int) : Int := if r.length ≠ k ∨ k = 0 ∨ 8 < k then 2 else if r.any (badAt s) = true then 1 else 0
/-- The first fault of all runs, or 0. -/
def FirstFault (s : Int) (xss : List (List Int)) (c : Int) : Prop :=
  (∃ j, j < xss.length ∧ (∀ i, i < j → runFault s (row xss 0).length (row xss i) = 0) ∧ runFault s (row xss 0).length (row xss j) = c ∧ c ≠ 0) ∨ ((∀ i, i < xss.length → runFault s (row xss 0).length (row xss i) = 0) ∧ c = 0)
theorem FirstFault.one {s : Int} {xss : List (List Int)} {c d : Int} (h : FirstFault s xss c) (h' : FirstFault s xss d) : c = d := by
  rcases h with ⟨j, h1, h2, h3, h4⟩ | ⟨h1, h2⟩ <;> rcases h' with ⟨j', k1, k2, k3, k4⟩ | ⟨k1, k2⟩
  · rcases Nat.lt_trichotomy j j' with h | h | h
    · exact absurd (h3 ▸ k2 j h) h4
    · subst h; rw [← h3, k3]
    · exact absurd (k3 ▸ h2 j' h) k4
  · exact absurd (h3 ▸ k1 j h1) h4
  · exact absurd (k3 ▸ h1 j' k1) k4
  · omega
/-- What is answered. -/
def RunsAre (s : Int) (xss : List (List Int)) (c : Int) : Prop :=
  ((s < 2 ∨ 64 < s) ∧ c = 1) ∨ (2 ≤ s ∧ s ≤ 64 ∧ xss.length = 0 ∧ c = 2) ∨ (2 ≤ s ∧ s ≤ 64 ∧ 128 < xss.length ∧ c = 3) ∨ (2 ≤ s ∧ s ≤ 64 ∧ 1 ≤ xss.length ∧ xss.length ≤ 128 ∧ FirstFault s xss c)
theorem RunsAre.one {s : Int} {xss : List (List Int)} {c d : Int} (h : RunsAre s xss c) (h' : RunsAre s xss d) : c = d := by
  rcases h with h | h | h | h <;> rcases h' with h' | h' | h' | h'
  case inr.inr.inr.inr.inr.inr => exact h.2.2.2.2.one h'.2.2.2.2
  all_goals omega
/-- Runs. -/
structure IsRuns (s : Int) (xss : List (List Int)) : Prop where
  s2 : 2 ≤ s
  s64 : s ≤ 64
  n1 : 1 ≤ xss.length
  n128 : xss.length ≤ 128
  k1 : 1 ≤ (row xss 0).length
  k8 : (row xss 0).length ≤ 8
  len : ∀ i, i < xss.length → (row xss i).length = (row xss 0).length
  lev : ∀ i, i < xss.length → ∀ x ∈ row xss i, 0 ≤ x ∧ x < s
theorem runFault_zero {s : Int} {k : Nat} {r : List Int} (h : runFault s k r = 0) : r.length = k ∧ 1 ≤ k ∧ k ≤ 8 ∧ ∀ x ∈ r, 0 ≤ x ∧ x < s := by
  unfold runFault at h
  split at h
  · omega
  · rename_i h1
    split at h
    · omega
    · rename_i h2
      refine ⟨by omega, by omega, by omega, fun x hx => ?_⟩
      have h3 : r.any (badAt s) = false := by simpa using h2
      have := List.any_eq_false.1 h3 x hx
      unfold badAt at this
      simp at this
      omega
theorem RunsAre.zero {s : Int} {xss : List (List Int)} (h : RunsAre s xss 0) : IsRuns s xss := by
  rcases h with h | h | h | ⟨h1, h2, h3, h4, h5⟩
  · omega
  · omega
  · omega
  · rcases h5 with ⟨_, _, _, _, h6⟩ | ⟨h6, _⟩
    · exact absurd rfl h6
    · obtain ⟨e1, e2, e3, e4⟩ := runFault_zero (h6 0 (by omega))
      exact ⟨h1, h2, h3, h4, e2, e3, fun i hi => (runFault_zero (h6 i hi)).1, fun i hi => (runFault_zero (h6 i hi)).2.2.2⟩

theorem bad_pred (s : Int) (xs : List Int) (r : Nat) (w : World) (hb : Blk w r #[.int .i64 s] 3) : PredOn 54 #[.pointer (some ⟨r, 0, none⟩)] xs (badAt s) w := by
  intro x _ w' hd
  have k0 := (hb.drawn hd).one
  clear hd
  unfold badAt
  obtain ⟨p, hp⟩ : ∃ p, decide (x < 0) = p := ⟨_, rfl⟩
  obtain ⟨q, hq⟩ : ∃ q, decide (s ≤ x) = q := ⟨_, rfl⟩
  rw [hp, hq]
  cases p
  all_goals
    go_enter Tryd.func54, Tryd.ntmps54
    go_wp2
    go_ret
    exact ⟨by simp [*], Drawn.refl _⟩

set_option maxHeartbeats 400000 in
theorem check_range (s : Int) (ao : Option Addr) (n cap : Nat) (w : World) (hm : s < 2 ∨ 64 < s) :
    Calls Tryd.prog 32 #[.int .i64 s, .slice ao n cap] w fun e w' => e = .returned (.int .i64 1) ∧ Ext w w' := by
  rcases hm with hm | hm
  · have b1 : decide (s < 2) = true := decide_eq_true hm
    go_enter Tryd.func32, Tryd.ntmps32
    go_wp2
    go_ret
    exact ⟨rfl, (Ext.refl _).alloc _⟩
  · have b1 : decide (s < 2) = false := decide_eq_false (by omega)
    have b2 : decide (64 < s) = true := decide_eq_true hm
    go_enter Tryd.func32, Tryd.ntmps32
    go_wp2
    go_ret
    exact ⟨rfl, (Ext.refl _).alloc _⟩

set_option maxHeartbeats 400000 in
theorem check_shape (s : Int) (ao : Option Addr) (n cap : Nat) (w : World) (h1 : 2 ≤ s) (h2 : s ≤ 64) (hn : n = 0 ∨ 128 < n) (hbig : n ≤ maxLen) :
    Calls Tryd.prog 32 #[.int .i64 s, .slice ao n cap] w fun e w' => e = .returned (.int .i64 (if n = 0 then 2 else 3)) ∧ Ext w w' := by
  unfold maxLen at hbig
  have b1 : decide (s < 2) = false := decide_eq_false (by omega)
  have b2 : decide (64 < s) = false := decide_eq_false (by omega)
  rcases hn with rfl | hn
  · go_enter Tryd.func32, Tryd.ntmps32
    go_wp2
    go_ret
    exact ⟨rfl, (Ext.refl _).alloc _⟩
  · rw [if_neg (by omega)]
    have b3 : ((n : Int) == 0) = false := by rw [beq_eq_false_iff_ne]; omega
    go_enter Tryd.func32, Tryd.ntmps32
    go_wp2
    go_ret
    exact ⟨rfl, (Ext.refl _).alloc _⟩

set_option maxHeartbeats 2000000 in
theorem check_rows (s : Int) (ao : Option Addr) (n cap : Nat) (xss : List (List Int)) (w : World) (hl : xss.length = n) (hr : ReadsL w ao xss) (h1 : 2 ≤ s) (h2 : s ≤ 64) (hn : 1 ≤ n) (hn2 : n ≤ 128) :
    Calls Tryd.prog 32 #[.int .i64 s, .slice ao n cap] w fun e w' => ∃ c, e = .returned (.int .i64 c) ∧ FirstFault s xss c ∧ Ext w w' := by
  have b1 : decide (s < 2) = false := decide_eq_false (by omega)
  have b2 : decide (64 < s) = false := decide_eq_false (by omega)
  obtain ⟨b, off, rfl, hb, hc⟩ := hr.row (by omega)
  have HC := Lib.hid hc
  have HL := Lib.hid hl
  obtain ⟨a0, q0, c0, r0, l0⟩ := hc 0 (by omega)
  have l0' := l0
  unfold maxLen at l0'
  obtain ⟨k, hk⟩ : ∃ k, (row xss 0).length = k := ⟨_, rfl⟩
  have hFF : ∀ c, FirstFault s xss c ↔ (∃ j, j < n ∧ (∀ i, i < j → runFault s k (row xss i) = 0) ∧ runFault s k (row xss j) = c ∧ c ≠ 0) ∨ ((∀ i, i < n → runFault s k (row xss i) = 0) ∧ c = 0) := fun c => by unfold FirstFault; rw [hk, hl]
  have HFF := Lib.hid hFF
  rw [hk] at c0 l0'
  rw [Nat.add_zero] at c0
  have b3 : ((n : Int) == 0) = false := by rw [beq_eq_false_iff_ne]; omega
  clear hr hl r0 l0 hc hk hFF
  go_enter Tryd.func32, Tryd.ntmps32
  go_wp2
  have HX : Hid (Blk (w.alloc (.cells #[.int .i64 s] 3)) w.heap.size #[.int .i64 s] 3) := Blk.new _ _ _
  have HE : Hid (Ext w (w.alloc (.cells #[.int .i64 s] 3))) := (Ext.refl w).alloc _
  obtain ⟨w0, hw0⟩ : ∃ w0, w0 = w.alloc (.cells #[.int .i64 s] 3) := ⟨_, rfl⟩
  rw [← hw0] at HX HE ⊢
  clear hw0 c0
  go_loopw [29] (fun a wr => ∃ i : Nat, i ≤ n ∧ a = .int .i64 i ∧ Drawn w0 wr ∧ ∀ j, j < i → runFault s k (row xss j) = 0) (fun a _ => n - (intOf a).toNat)
  case atStart => exact ⟨0, by omega, rfl, Drawn.refl _, fun j h => by omega⟩
  case round =>
    obtain ⟨i, hi, rfl, hd, hall⟩ := hrel
    have HD := Lib.hid hd
    have HA := Lib.hid hall
    clear hd hall
    by_cases hin : i < n
    · obtain ⟨a, q, c1, r1, l1⟩ := HC.out i (by rw [HL.out]; exact hin)
      rw [← (HE.out.drawn HD.out).cell hb] at c1
      have hread := (HE.out.drawn HD.out).reads r1
      obtain ⟨xs, hxs⟩ : ∃ xs, row xss i = xs := ⟨_, rfl⟩
      have hbad : runFault s k (row xss i) ≠ 0 → FirstFault s xss (runFault s k (row xss i)) := fun h => (HFF.out _).2 (.inl ⟨i, hin, HA.out, rfl, h⟩)
      have hgood : runFault s k (row xss i) = 0 → ∀ j, j < i + 1 → runFault s k (row xss j) = 0 := fun h j hj => by
        rcases Nat.lt_succ_iff_lt_or_eq.1 hj with h' | rfl
        · exact HA.out j h'
        · exact h
      rw [hxs] at hbad hgood c1 hread l1
      have HB := Lib.hid hbad
      have HG := Lib.hid hgood
      have l1' := l1
      unfold maxLen at l1'
      obtain ⟨z, hz⟩ : ∃ z, xs.length = z := ⟨_, rfl⟩
      rw [hz] at c1 l1'
      have HCF := Lib.hid (containsFunc_any 54 #[.pointer (some ⟨w.heap.size, 0, none⟩)] a z q xs (badAt s) wr hz (by rw [← hz]; exact l1) hread (bad_pred s xs _ _ (HX.out.drawn HD.out)) (fun _ _ => rfl))
      have HZ := Lib.hid hz
      clear hbad hgood l1 r1 hread hxs hz
      by_cases hsh : z ≠ k ∨ k = 0 ∨ 8 < k
      · have HV : Hid (runFault s k xs = 2) := by show _ = _; unfold runFault; rw [HZ.out, if_pos hsh]
        rw [HV.out] at HB
        have hcs : ((z : Int) != (k : Int)) = true ∨ (((z : Int) != (k : Int)) = false ∧ ((k : Int) == 0) = true) ∨ (((z : Int) != (k : Int)) = false ∧ ((k : Int) == 0) = false ∧ 8 < k) := by
          by_cases h1 : z = k
          · have e1 : ((z : Int) != (k : Int)) = false := by rw [h1]; simp
            by_cases h2 : k = 0
            · exact .inr (.inl ⟨e1, by rw [h2]; rfl⟩)
            · exact .inr (.inr ⟨e1, by rw [beq_eq_false_iff_ne]; omega, by omega⟩)
          · exact .inl (by rw [bne_iff_ne]; omega)
        clear hsh
        rcases hcs with e1 | ⟨e1, e2⟩ | ⟨e1, e2, e3⟩
        all_goals
          go_wp2
          go_ret
          exact ⟨2, rfl, HB.out (by decide), HE.out.drawn HD.out⟩
      · have e1 : ((z : Int) != (k : Int)) = false := by rw [show z = k by omega]; simp
        have e2 : ((k : Int) == 0) = false := by rw [beq_eq_false_iff_ne]; omega
        have e3 : ¬ 8 < k := by omega
        cases hany : xs.any (badAt s) with
        | true =>
          have HV : Hid (runFault s k xs = 1) := by show _ = _; unfold runFault; rw [HZ.out, if_neg hsh, if_pos hany]
          rw [HV.out] at HB
          rw [hany] at HCF
          clear hsh hany
          go_wp2_with (go_at_call 48; refine HCF.out.mono ?_; rintro e w1 ⟨rfl, hd⟩; have HD2 := Lib.hid hd; clear hd)
          go_ret
          exact ⟨1, rfl, HB.out (by decide), (HE.out.drawn HD.out).drawn HD2.out⟩
        | false =>
          have HV : Hid (runFault s k xs = 0) := by show _ = _; unfold runFault; rw [HZ.out, if_neg hsh, if_neg (by rw [hany]; simp)]
          rw [hany] at HCF
          clear hsh hany
          go_wp2_with (go_at_call 48; refine HCF.out.mono ?_; rintro e w1 ⟨rfl, hd⟩; have HD2 := Lib.hid hd; clear hd)
          go_roundw
          case rel => exact ⟨i + 1, by omega, by go_num, HD.out.trans HD2.out, HG.out HV.out⟩
          case measure => simp [intOf] <;> omega
    · obtain rfl : n = i := by omega
      go_wp2
      go_ret
      exact ⟨0, rfl, (HFF.out _).2 (.inr ⟨HA.out, rfl⟩), HE.out.drawn HD.out⟩

theorem runsCheck_any (s : Int) (ao : Option Addr) (n cap : Nat) (xss : List (List Int)) (w : World) (hl : xss.length = n) (hbig : n ≤ maxLen) (hr : ReadsL w ao xss) :
    Calls Tryd.prog 32 #[.int .i64 s, .slice ao n cap] w fun e w' => ∃ c, e = .returned (.int .i64 c) ∧ RunsAre s xss c ∧ Ext w w' := by
  by_cases h : s < 2 ∨ 64 < s
  · exact (check_range s ao n cap w h).mono fun e w' h' => ⟨_, h'.1, .inl ⟨h, rfl⟩, h'.2⟩
  · by_cases hn : n = 0 ∨ 128 < n
    · refine (check_shape s ao n cap w (by omega) (by omega) hn hbig).mono fun e w' h' => ⟨_, h'.1, ?_, h'.2⟩
      by_cases h0 : n = 0
      · rw [if_pos h0]; exact .inr (.inl ⟨by omega, by omega, by omega, rfl⟩)
      · rw [if_neg h0]; exact .inr (.inr (.inl ⟨by omega, by omega, by omega, rfl⟩))
    · exact (check_rows s ao n cap xss w hl hr (by omega) (by omega) (by omega) (by omega)).mono fun e w' ⟨c, h1, h2, h3⟩ => ⟨c, h1, .inr (.inr (.inr ⟨by omega, by omega, by omega, by omega, h2⟩)), h3⟩

theorem IsRuns.zero {s : Int} {xss : List (List Int)} (h : IsRuns s xss) {c : Int} (hc : RunsAre s xss c) : c = 0 := by
  have h1 := h.s2
  have h2 := h.s64
  have h3 := h.n1
  have h4 := h.n128
  rcases hc with h | h | h | ⟨_, _, _, _, h5⟩
  · omega
  · omega
  · omega
  · rcases h5 with ⟨j, j1, j2, j3, j4⟩ | ⟨_, h5⟩
    · exfalso
      have hk1 := h.k1
      have hk8 := h.k8
      apply j4
      rw [← j3]
      unfold runFault
      rw [h.len j j1, if_neg (by omega), if_neg]
      simp only [List.any_eq_true, not_exists, not_and, Bool.not_eq_true]
      intro x hx
      have := h.lev j j1 x hx
      unfold badAt
      rw [decide_eq_false (by omega), decide_eq_false (by omega)]
      rfl
    · exact h5
/-- A first row. -/
theorem IsRuns.first {s : Int} {xss : List (List Int)} (h : IsRuns s xss) {w : World} {ao : Option Addr} (hr : ReadsL w ao xss) :
    ∃ b off a c, ao = some ⟨b, off, none⟩ ∧ b < w.heap.size ∧ w.cell? ⟨b, off, none⟩ = some (.slice a (row xss 0).length c) := by
  obtain ⟨b, off, h1, h2, h3⟩ := hr.row (by have := h.n1; omega)
  obtain ⟨a, c, h4, _, _⟩ := h3 0 (by have := h.n1; omega)
  exact ⟨b, off, a, c, h1, h2, h4⟩

end Go.Proofs.YtnhdngnolepkcaaDoor

/- Maps whose keys are arrays of n ints and whose elements are ints: what a key reads as, and the laws of make, store, look-up and range in plain words: a function from keys to elements. -/
namespace Go.Proofs.YtnhdngnolepkcaaDoor
open Go.RowKit Go.Maps

/-- What a key reads as. -/
def klit (xs : List Int) : Lit := .string (keyBytes (xs.map (Lit.int .i64)))
/-- Each is an int. -/
def InI (xs : List Int) : Prop := ∀ x ∈ xs, (Lit.int .i64 x).wf = true
/-- The key, a value. -/
def kval (xs : List Int) : Value := .agg (ints xs).toArray
theorem kval_inj {xs ys : List Int} (h : kval xs = kval ys) : xs = ys := by
  unfold kval at h
  simp only [Value.agg.injEq] at h
  have : ints xs = ints ys := by simpa using h
  unfold ints at this
  exact (List.map_inj_right (fun a b hab => by simpa using hab)).1 this

section
variable {P : Program} {k e : TypeId} {n : Nat}

/-- What the program says of the key's type. -/
structure KTy (P : Program) (k e : TypeId) (n : Nat) : Prop where
  arr : P.underlying k = some (.array n e)
  int : P.underlying e = some (.int .i64)
  key : P.keyType k = true
  cells : P.cellsOf k = n
  one : P.cellsOf e = 1
  big : 1 ≤ P.types.size

theorem lits_elem (h : KTy P k e n) (d : Nat) (x : Int) (hx : (Lit.int .i64 x).wf = true) : P.keyLits (d + 1) e [.int .i64 x] = some [.int .i64 x] := by
  simp [Program.keyLits, h.int, hx]

theorem drop_one : ∀ (cs : List Value) (i : Nat), i < cs.length → ∃ v, cs[i]? = some v ∧ (cs.drop (i * 1)).take 1 = [v] := by
  intro cs i hi
  refine ⟨cs[i], by simp [hi], ?_⟩
  rw [Nat.mul_one, List.take_one, List.head?_drop]
  simp [hi]

theorem mapM_some {α β : Type} {f : α → Option β} {g : α → β} : ∀ {L : List α}, (∀ x ∈ L, f x = some (g x)) → L.mapM f = some (L.map g)
  | [], _ => by simp
  | a :: L, h => by
    rw [List.mapM_cons, h a (by simp), mapM_some (fun x hx => h x (by simp [hx]))]
    rfl

theorem range_flat (xs : List Int) : (((List.range xs.length).map fun i => [Lit.int .i64 (nth xs i)])).flatten = xs.map (Lit.int .i64) := by
  have : xs = (List.range xs.length).map (nth xs) := by
    apply nth_ext
    · simp
    · intro j hj
      rw [nth_eq ((List.range xs.length).map (nth xs)) j (by simpa using hj)]; simp
  have e2 : xs.map (Lit.int .i64) = ((List.range xs.length).map (nth xs)).map (Lit.int .i64) := by rw [← this]
  rw [e2]
  generalize List.range xs.length = L
  induction L with
  | nil => rfl
  | cons a L ih => simp only [List.map_cons, List.flatten_cons, ih]; rfl

theorem lits_key (h : KTy P k e n) (xs : List Int) (hl : xs.length = n) (hx : InI xs) : P.keyLits (P.types.size + 1) k (ints xs) = some (xs.map (Lit.int .i64)) := by
  obtain ⟨d, hd⟩ : ∃ d, P.types.size = d + 1 := ⟨P.types.size - 1, by have := h.big; omega⟩
  rw [hd, Program.keyLits.eq_def]
  simp only [h.arr]
  rw [if_pos (by rw [h.cells, ints_length, hl])]
  rw [mapM_some (g := fun i => [Lit.int .i64 (nth xs i)])]
  · subst hl
    simp only [Option.map_some, range_flat]
  · intro i hi
    have hi' : i < xs.length := by have := List.mem_range.1 hi; omega
    rw [h.one]
    obtain ⟨v, h1, h2⟩ := drop_one (ints xs) i (by rw [ints_length]; exact hi')
    rw [ints_get xs i hi'] at h1
    cases h1
    rw [h2]
    exact lits_elem h d _ (hx _ (nth_mem xs i hi'))

theorem keyOf_k (h : KTy P k e n) (xs : List Int) (hl : xs.length = n) (hx : InI xs) : keyOf P k (kval xs) = some (klit xs) := by
  unfold keyOf
  simp only [h.arr, h.key]
  have hf : (kval xs).formed P k = true := by simp [kval, Value.formed, h.arr, h.cells, ints_length, hl]
  rw [hf]
  simp only [Bool.and_self, if_true]
  have : (kval xs).cells.toList = ints xs := by simp [kval, Value.cells]
  rw [this, lits_key h xs hl hx]
  rfl

theorem wide_k (h : KTy P k e n) : (match P.underlying k with | some (.array _ _) | some (.struct _) => true | _ => false) = true := by rw [h.arr]

theorem ints_of : ∀ (cs : List Value), (∀ v ∈ cs, ∃ x, v = .int .i64 x ∧ (Lit.int .i64 x).wf = true) → ∃ xs, cs = ints xs ∧ InI xs
  | [], _ => ⟨[], rfl, by simp [InI]⟩
  | v :: cs, h => by
    obtain ⟨x, rfl, hx⟩ := h v (by simp)
    obtain ⟨xs, rfl, hxs⟩ := ints_of cs (fun u hu => h u (by simp [hu]))
    exact ⟨x :: xs, rfl, by intro y hy; rcases List.mem_cons.1 hy with rfl | hy; exact hx; exact hxs y hy⟩

theorem mapM_inv {α β : Type} {f : α → Option β} : ∀ {L : List α} {r : List β}, L.mapM f = some r → ∀ x ∈ L, ∃ y, f x = some y
  | [], _, _ => by simp
  | a :: L, r, h => by
    rw [List.mapM_cons] at h
    simp only [bind, Option.bind_eq_some_iff, pure, Option.some.injEq] at h
    obtain ⟨b, hb, bs, hbs, -⟩ := h
    intro x hx
    rcases List.mem_cons.1 hx with rfl | hx
    · exact ⟨b, hb⟩
    · exact mapM_inv hbs x hx

/-- What reads as a key is a list of n ints. -/
theorem key_inv (h : KTy P k e n) {v : Value} {kl : Lit} (hv : keyOf P k v = some kl) : ∃ xs, v = kval xs ∧ xs.length = n ∧ InI xs ∧ kl = klit xs := by
  obtain ⟨cs, L, rfl, hL, rfl⟩ := keyOf_top (wide_k h) hv
  obtain ⟨d, hd⟩ : ∃ d, P.types.size = d + 1 := ⟨P.types.size - 1, by have := h.big; omega⟩
  have hL0 := hL
  rw [hd, Program.keyLits.eq_def] at hL
  simp only [h.arr] at hL
  split at hL
  case isFalse => cases hL
  rename_i hlen
  rw [h.cells] at hlen
  simp only [Option.map_eq_some_iff] at hL
  obtain ⟨aa, haa, -⟩ := hL
  have hall := mapM_inv haa
  obtain ⟨xs, hxs, hin⟩ := ints_of cs.toList (by
    intro v hv
    obtain ⟨i, hi, rfl⟩ := List.mem_iff_getElem.1 hv
    obtain ⟨y, hy⟩ := hall i (List.mem_range.2 (by omega))
    rw [h.one] at hy
    obtain ⟨u, hu1, hu2⟩ := drop_one cs.toList i hi
    rw [hu2, Program.keyLits.eq_def] at hy
    simp only [h.int] at hy
    have : cs.toList[i] = u := by rw [List.getElem?_eq_getElem hi] at hu1; exact Option.some.inj hu1
    rw [this]
    cases u <;> simp at hy
    obtain ⟨⟨rfl, hw⟩, -⟩ := hy
    exact ⟨_, rfl, hw⟩)
  have hl : xs.length = n := by rw [← ints_length, ← hxs, hlen]
  rw [hxs, lits_key h xs hl hin] at hL0
  cases hL0
  refine ⟨xs, ?_, hl, hin, rfl⟩
  unfold kval
  rw [← hxs]

theorem klit_inj (h : KTy P k e n) (K : Keyed P k) {xs ys : List Int} (hx : xs.length = n) (ix : InI xs) (hy : ys.length = n) (iy : InI ys) (he : klit xs = klit ys) : xs = ys :=
  kval_inj (K.inj (keyOf_k h xs hx ix) (he ▸ keyOf_k h ys hy iy))
theorem klit_key (xs : List Int) : WideAt.IsKeyLit (klit xs) := trivial

/-- The map at block b, of N entries at the most, has the elements that f tells. -/
def KMap (P : Program) (k e : TypeId) (n : Nat) (w : World) (b N : Nat) (f : List Int → Option Int) : Prop :=
  ∃ D : DataW Unit, w.ownsMap P k (plainElem P e) b N D ∧ ∀ xs, xs.length = n → InI xs → (∀ v, f xs = some v → ∀ z, D.atKey (klit xs) z = .lit (.int .i64 v)) ∧ (f xs = none → ∀ z, D.atKey (klit xs) z = z)

theorem KMap.made (w : World) : KMap P k e n (w.alloc (.map #[] 0)) w.heap.size 0 (fun _ => none) :=
  ⟨.map [], World.ownsMap_made w P k _, fun xs _ _ => ⟨fun v hv => (by cases hv), fun _ z => rfl⟩⟩
theorem KMap.kept {w w' : World} {row : Option Nat} {b N : Nat} {f} (h : KMap P k e n w b N f) (hg : w.grownBy w' row) (hne : some b ≠ row) : KMap P k e n w' b N f :=
  let ⟨D, h1, h2⟩ := h; ⟨D, h1.kept hg hne, h2⟩
theorem KMap.mono {w : World} {b N N' : Nat} {f} (h : KMap P k e n w b N f) (hn : N ≤ N') : KMap P k e n w b N' f :=
  let ⟨D, h1, h2⟩ := h; ⟨D, h1.mono hn, h2⟩
theorem KMap.lt {w : World} {b N : Nat} {f} (h : KMap P k e n w b N f) : b < w.heap.size := let ⟨_, h1, _⟩ := h; h1.lt
theorem KMap.congr {w : World} {b N : Nat} {f g} (h : KMap P k e n w b N f) (hfg : ∀ xs, xs.length = n → InI xs → f xs = g xs) : KMap P k e n w b N g :=
  let ⟨D, h1, h2⟩ := h; ⟨D, h1, fun xs hl hx => by rw [← hfg xs hl hx]; exact h2 xs hl hx⟩

/-- One more. -/
def put (f : List Int → Option Int) (xs : List Int) (v : Int) : List Int → Option Int := fun ys => if ys = xs then some v else f ys

variable (w : World) {ops : Array Oper} {rest : List Oper} {o : Oper} {a : Act} {Q : Exit → Act → World → Prop}

/-- 'm[key] = v'. -/
theorem wpList_put (h : KTy P k e n) (K : Keyed P k) (hg : o.guard = none) (m x v : Operand) (t : TypeId) (hop : o.op = Op.mapUpdate t m x v) (ht : P.underlying t = some (.map k e)) (b N : Nat) (f : List Int → Option Int)
    (hm : a.eval m = .map (some b)) (hown : KMap P k e n w b N f) (hn : N < maxLen) (xs : List Int) (y : Int) (hx : a.eval x = kval xs) (hv : a.eval v = .int .i64 y) (hl : xs.length = n) (hi : InI xs) (hy : (Lit.int .i64 y).wf = true)
    (hK : ∀ w', KMap P k e n w' b (N + 1) (put f xs y) → w.grownBy w' (some b) → wpList P ops Q rest (a.put o.dst undef) w') :
    wpList P ops Q (o :: rest) a w := by
  obtain ⟨D, hD, hf⟩ := hown
  refine wpList_mapUpdate_own w hg m x v t hop k e K ht (plainElem P e) b N D hm hD hn (kval xs) (.int .i64 y) (klit xs) hx hv (keyOf_k h xs hl hi) (.lit (.int .i64 y)) [] (plainElem_int h.int hy) ?_
  intro w' hw' hgr
  refine hK w' ⟨_, hw', fun ys hyl hyi => ?_⟩ hgr
  obtain ⟨es, hes, -, -⟩ := hD.entries K
  by_cases hne : ys = xs
  · subst hne
    refine ⟨fun v hv z => ?_, fun hv => by simp [put] at hv⟩
    simp only [put, if_true, Option.some.injEq] at hv
    subst hv
    exact atKey_put_same ⟨es, hes⟩ (klit_key ys) _ _
  · have hk : klit ys ≠ klit xs := fun he => hne (klit_inj h K hyl hyi hl hi he)
    simp only [put, if_neg hne]
    refine ⟨fun v hv z => ?_, fun hv z => ?_⟩
    · rw [atKey_put_other hk]; exact (hf ys hyl hyi).1 v hv z
    · rw [atKey_put_other hk]; exact (hf ys hyl hyi).2 hv z

/-- 'm[key]'. -/
theorem wpList_look (h : KTy P k e n) (K : Keyed P k) (hg : o.guard = none) (m x : Operand) (t : TypeId) (hop : o.op = Op.lookup t m x false) (ht : P.underlying t = some (.map k e)) (hz : (zeroValue e).run P w = .ok (.int .i64 0) w) (b N : Nat) (f : List Int → Option Int)
    (hm : a.eval m = .map (some b)) (hown : KMap P k e n w b N f) (xs : List Int) (hx : a.eval x = kval xs) (hl : xs.length = n) (hi : InI xs)
    (hK : ∀ c, c = (f xs).getD 0 → (Lit.int .i64 c).wf = true → wpList P ops Q rest (a.put o.dst (.int .i64 c)) w) :
    wpList P ops Q (o :: rest) a w := by
  obtain ⟨D, hD, hf⟩ := hown
  refine wpList_lookup_own_int w hg m x t hop k e .i64 K ht h.int hz b N D hm hD (kval xs) (klit xs) hx (keyOf_k h xs hl hi) ?_
  intro c hc hw
  refine hK c ?_ hw
  cases hfx : f xs with
  | none =>
    rw [(hf xs hl hi).2 hfx] at hc
    cases hc; rfl
  | some v =>
    rw [(hf xs hl hi).1 v hfx] at hc
    cases hc; rfl

/-- The store, once. -/
theorem KMap.update {w : World} (h : KTy P k e n) (K : Keyed P k) {t : TypeId} (ht : P.underlying t = some (.map k e)) {b N : Nat} {f : List Int → Option Int} (hown : KMap P k e n w b N f) (hn : N < maxLen) (xs : List Int) (y : Int) (hl : xs.length = n) (hi : InI xs) (hy : (Lit.int .i64 y).wf = true) :
    ∃ w', (Instr.mapUpdate t (.map (some b)) (kval xs) (.int .i64 y)).run P w = .ok () w' ∧ KMap P k e n w' b (N + 1) (put f xs y) ∧ w.grownBy w' (some b) := by
  obtain ⟨D, hD, hf⟩ := hown
  obtain ⟨w', hrun, hw', hgr⟩ := hD.update K ht hn (keyOf_k h xs hl hi) (plainElem_int h.int hy)
  refine ⟨w', hrun, ⟨_, hw', fun ys hyl hyi => ?_⟩, hgr⟩
  obtain ⟨es, hes, -, -⟩ := hD.entries K
  by_cases hne : ys = xs
  · subst hne
    refine ⟨fun v hv z => ?_, fun hv => by simp [put] at hv⟩
    simp only [put, if_true, Option.some.injEq] at hv
    subst hv
    exact atKey_put_same ⟨es, hes⟩ (klit_key ys) _ _
  · have hk : klit ys ≠ klit xs := fun he => hne (klit_inj h K hyl hyi hl hi he)
    simp only [put, if_neg hne]
    refine ⟨fun v hv z => ?_, fun hv z => ?_⟩
    · rw [atKey_put_other hk]; exact (hf ys hyl hyi).1 v hv z
    · rw [atKey_put_other hk]; exact (hf ys hyl hyi).2 hv z

/-- .. as one step of a region that draws its order. -/
theorem step_put {w : World} {ops : Array Oper} {o : Oper} {a : Act} {K' : Act → World → Prop} {Q : Exit → Act → World → Prop} {El : Prop} (h : KTy P k e n) (K : Keyed P k) (hg : o.guard = none) (m x v : Operand) (t : TypeId) (hop : o.op = Op.mapUpdate t m x v)
    (ht : P.underlying t = some (.map k e)) {b N : Nat} {f : List Int → Option Int} (hm : a.eval m = .map (some b)) (hown : KMap P k e n w b N f) (hn : N < maxLen) (xs : List Int) (y : Int) (hx : a.eval x = kval xs) (hv : a.eval v = .int .i64 y) (hl : xs.length = n) (hi : InI xs) (hy : (Lit.int .i64 y).wf = true)
    (hK : ∀ w', KMap P k e n w' b (N + 1) (put f xs y) → w.grownBy w' (some b) → K' (a.put o.dst undef) w') :
    if Region.wanted o (yielded ops a.tmps) = true then Oper.wp P o a w K' Q else El := by
  have hw : Region.wanted o (yielded ops a.tmps) = true := by simp [Region.wanted, hg]
  rw [if_pos hw]
  obtain ⟨w', hrun, h1, h2⟩ := KMap.update h K ht hown hn xs y hl hi hy
  unfold Oper.wp
  simp [execOp, hop, hm, hx, hv, hrun, Result.andThen]
  exact hK w' h1 h2
/-- A call, as one step of a region that draws its order. -/
theorem step_callG {w : World} {ops : Array Oper} {o : Oper} {a : Act} {K : Act → World → Prop} {Q : Exit → Act → World → Prop} {El : Prop} {f : FuncId} {args : Array Value} {R : World → Prop} (v : Value)
    (hgd : o.guard = none) (hc : Calls P f args w fun e w' => e = .returned v ∧ R w') (hrun : (execOp a.eval o).run P w = .ok (.enter f args) w)
    (h : ∀ w', R w' → K (a.put o.dst v) w') :
    if Region.wanted o (yielded ops a.tmps) = true then Oper.wp P o a w K Q else El := by
  have hw : Region.wanted o (yielded ops a.tmps) = true := by simp [Region.wanted, hgd]
  rw [if_pos hw]
  unfold Oper.wp
  rw [hrun, Oper.upon_enter]
  refine hc.mono ?_
  rintro e w' ⟨rfl, hr⟩
  exact h w' hr

/-- 'for key, v := range m' under way: block r; the keys that have been seen. -/
def KRange (P : Program) (k e : TypeId) (n : Nat) (w : World) (b r : Nat) (f : List Int → Option Int) (done : List (List Int)) (cnt : Nat) : Prop :=
  ∃ (N : Nat) (D : DataW Unit) (left : Lit → Bool), w.ranges P k (plainElem P e) b r N D left cnt ∧
    (∀ xs, xs.length = n → InI xs → (∀ v, f xs = some v → ∀ z, D.atKey (klit xs) z = .lit (.int .i64 v)) ∧ (f xs = none → ∀ z, D.atKey (klit xs) z = z)) ∧
    (∀ xs, xs.length = n → InI xs → (left (klit xs) = true ↔ (f xs).isSome = true ∧ xs ∉ done)) ∧
    (∀ xs ∈ done, xs.length = n ∧ InI xs ∧ (f xs).isSome = true) ∧ done.Nodup

theorem KRange.kept {w w' : World} {row : Option Nat} {b r : Nat} {f done cnt} (h : KRange P k e n w b r f done cnt) (hg : w.grownBy w' row) (hb : some b ≠ row) (hr : some r ≠ row) : KRange P k e n w' b r f done cnt :=
  let ⟨N, D, l, h1, h2⟩ := h; ⟨N, D, l, h1.kept hg hb hr, h2⟩
theorem KRange.left_eq {w : World} {b r : Nat} {f done cnt} (h : KRange P k e n w b r f done cnt) : w.rangeLeft b r = cnt := let ⟨_, _, _, h1, _⟩ := h; h1.left_eq
theorem KRange.ltr {w : World} {b r : Nat} {f done cnt} (h : KRange P k e n w b r f done cnt) : r < w.heap.size := let ⟨_, _, _, h1, _⟩ := h; h1.lt
theorem KRange.ltb {w : World} {b r : Nat} {f done cnt} (h : KRange P k e n w b r f done cnt) : b < w.heap.size := let ⟨_, _, _, h1, _⟩ := h; h1.owns.lt
/-- Which keys have been seen is all that is asked. -/
theorem KRange.done {w : World} {b r : Nat} {f done} (h : KRange P k e n w b r f done 0) (h0 : ∀ xs, xs.length = n → InI xs → (f xs).isSome = true → xs ∈ done) : ∀ xs, xs.length = n → InI xs → ((f xs).isSome = true ↔ xs ∈ done) := by
  obtain ⟨_, _, _, _, _, _, h5, _⟩ := h
  exact fun xs hl hi => ⟨h0 xs hl hi, fun hx => (h5 xs hx).2.2⟩

theorem has_of {D : DataW Unit} {f : List Int → Option Int} {xs : List Int} (hf : (∀ v, f xs = some v → ∀ z, D.atKey (klit xs) z = .lit (.int .i64 v)) ∧ (f xs = none → ∀ z, D.atKey (klit xs) z = z)) : has D (klit xs) = true ↔ (f xs).isSome = true := by
  cases hfx : f xs with
  | none => rw [has_false_of_atKey (hf.2 hfx)]; simp
  | some v => rw [has_true_of_atKey (hf.1 v hfx)]; simp

/-- 'range m'. -/
theorem wpList_over (K : Keyed P k) (hg : o.guard = none) (m : Operand) (t : TypeId) (hop : o.op = Op.range t m) (ht : P.underlying t = some (.map k e)) (b N : Nat) (f : List Int → Option Int)
    (hm : a.eval m = .map (some b)) (hown : KMap P k e n w b N f)
    (hK : ∀ w' cnt, KRange P k e n w' b w.heap.size f [] cnt → cnt ≤ N → w.grownBy w' none → w'.heap.size = w.heap.size + 1 → wpList P ops Q rest (a.put o.dst (.pointer (some ⟨w.heap.size, 0, none⟩))) w') :
    wpList P ops Q (o :: rest) a w := by
  obtain ⟨D, hD, hf⟩ := hown
  refine wpList_range_own w hg m t hop k e K ht (plainElem P e) b N D hm hD ?_
  intro w' hr hgr hs
  refine hK w' _ ⟨N, D, _, hr, hf, fun xs hl hi => ?_, by simp, by simp⟩ hD.size_le hgr hs
  rw [has_of (hf xs hl hi)]; simp

/-- The step. -/
theorem wpList_step (h : KTy P k e n) (K : Keyed P k) (hg : o.guard = none) (it : Operand) (hop : o.op = Op.next it false) (b r : Nat) (f : List Int → Option Int) (done : List (List Int)) (cnt : Nat)
    (hit : a.eval it = .pointer (some ⟨r, 0, none⟩)) (hr : KRange P k e n w b r f done cnt)
    (hDone : (∀ xs, xs.length = n → InI xs → ((f xs).isSome = true ↔ xs ∈ done)) → done.Nodup → wpList P ops Q rest (a.put o.dst (.tuple #[.bool false])) w)
    (hMore : ∀ (xs : List Int) (c : Int) (w' : World) (cnt' : Nat), xs.length = n → InI xs → f xs = some c → xs ∉ done → KRange P k e n w' b r f (done ++ [xs]) cnt' → cnt' < cnt → w.grownBy w' (some r) → w'.heap.size = w.heap.size →
      (Instr.entry (.pointer (some ⟨r, 0, none⟩))).run P w' = .ok (.tuple #[kval xs, .int .i64 c]) w' → wpList P ops Q rest (a.put o.dst (.tuple #[.bool true, kval xs, .int .i64 c])) w') :
    wpList P ops Q (o :: rest) a w := by
  obtain ⟨N, D, left, hrg, hf, hleft, hdone, hnd⟩ := hr
  refine wpList_next_ranges w hg it hop k K (plainElem P e) kval (Value.int .i64) (fun key kl hk => by obtain ⟨xs, hxs, _⟩ := key_inv h hk; exact ⟨xs, hxs⟩) (fun v y hv => by obtain ⟨c, hc, _⟩ := plainElem_int_inv h.int hv; exact ⟨c, hc⟩)
    b r N D left cnt hit hrg ?_ ?_
  · intro h0 hl
    refine hDone (fun xs hxl hxi => ?_) hnd
    have := hleft xs hxl hxi
    rw [hl] at this
    refine ⟨fun hs => Classical.byContradiction fun hn => ?_, fun hx => (hdone xs hx).2.2⟩
    exact absurd (this.2 ⟨hs, hn⟩) (by simp)
  · intro xs0 c kl y w' cnt' hkey hlk hRv hat hrg' hlt hgr hsz hen
    obtain ⟨xs, hxe, hxl, hxi, rfl⟩ := key_inv h hkey
    cases kval_inj hxe
    obtain ⟨hs, hnd'⟩ := (hleft xs0 hxl hxi).1 hlk
    obtain ⟨c', hc', hy, hwf⟩ := plainElem_int_inv h.int hRv
    cases hc'
    have hfc : f xs0 = some c := by
      cases hfx : f xs0 with
      | none => rw [hfx] at hs; cases hs
      | some v =>
        have h1 := (hf xs0 hxl hxi).1 v hfx .nil
        rw [hat, hy] at h1
        cases h1; rfl
    refine hMore xs0 c w' cnt' hxl hxi hfc hnd' ⟨N, D, _, hrg', hf, fun ys hyl hyi => ?_, ?_, ?_⟩ hlt hgr hsz hen
    · simp only [Bool.and_eq_true, Bool.not_eq_true', List.mem_append, List.mem_singleton, not_or]
      rw [hleft ys hyl hyi]
      constructor
      · rintro ⟨⟨h1, h2⟩, h3⟩
        refine ⟨h1, h2, fun he => ?_⟩
        subst he
        rw [WideAt.sameKey_self (klit_key ys)] at h3
        cases h3
      · rintro ⟨h1, h2, h3⟩
        exact ⟨⟨h1, h2⟩, sameKey_ne (fun he => h3 (klit_inj h K hyl hyi hxl hxi he))⟩
    · intro ys hys
      rcases List.mem_append.1 hys with hys | hys
      · exact hdone ys hys
      · rw [List.mem_singleton.1 hys]; exact ⟨hxl, hxi, hs⟩
    · rw [List.nodup_append]
      refine ⟨hnd, by simp, fun a ha b hb hab => ?_⟩
      rw [List.mem_singleton.1 hb] at hab
      exact hnd' (hab ▸ ha)
end
#print axioms wpList_step
#print axioms wpList_look
end Go.Proofs.YtnhdngnolepkcaaDoor

/- Maps whose keys are arrays of ints, further: 'm[key]++', and how many keys there are. -/
namespace Go.Proofs.YtnhdngnolepkcaaDoor
open Go.RowKit Go.Maps Go.WideElems Go.MapKept
open Go.WideMaps (KeyLaw)
open Go.ChangeMaps (setBlock)

theorem nodup_len {α : Type} [DecidableEq α] : ∀ (l m : List α), l.Nodup → (∀ x ∈ l, x ∈ m) → l.length ≤ m.length
  | [], _, _, _ => Nat.zero_le _
  | a :: l, m, hn, hs => by
    rw [List.nodup_cons] at hn
    have ha := hs a (by simp)
    have h := nodup_len l (m.erase a) hn.2 (fun x hx => by
      rw [List.mem_erase_of_ne (show x ≠ a from fun e => hn.1 (e ▸ hx))]
      exact hs x (by simp [hx]))
    rw [List.length_erase_of_mem ha] at h
    have : 0 < m.length := List.length_pos_of_mem ha
    simp; omega
theorem nodup_len_eq {α : Type} [DecidableEq α] {l m : List α} (h1 : l.Nodup) (h2 : m.Nodup) (h : ∀ x, x ∈ l ↔ x ∈ m) : l.length = m.length :=
  Nat.le_antisymm (nodup_len l m h1 fun x hx => (h x).1 hx) (nodup_len m l h2 fun x hx => (h x).2 hx)

theorem pair_ne {α β : Type} {f : α → β} : ∀ {l : List α}, l.Pairwise (fun x y => f x ≠ f y) → ∀ {x y : α}, x ∈ l → y ∈ l → x ≠ y → f x ≠ f y
  | [], _, _, _, hx, _, _ => by simp at hx
  | a :: l, h, x, y, hx, hy, hne => by
    rw [List.pairwise_cons] at h
    rcases List.mem_cons.1 hx with e1 | hx'
    · rcases List.mem_cons.1 hy with e2 | hy'
      · exact absurd (e1.trans e2.symm) hne
      · rw [e1]; exact h.1 y hy'
    · rcases List.mem_cons.1 hy with e2 | hy'
      · rw [e2]; exact fun e => h.1 x hx' e.symm
      · exact pair_ne h.2 hx' hy' hne

section
variable {P : Program} {k e : TypeId} {n : Nat}

/-- How many keys: len. -/
theorem KMap.len {w : World} (h : KTy P k e n) (K : Keyed P k) {t : TypeId} (ht : P.underlying t = some (.map k e)) (hz : (zeroValue e).run P w = .ok (.int .i64 0) w) {b N : Nat} {f : List Int → Option Int} (hown : KMap P k e n w b N f) {ks : List (List Int)} (hk : ks.Nodup)
    (hks : ∀ xs ∈ ks, xs.length = n ∧ InI xs) (hf' : ∀ xs, xs.length = n → InI xs → ((f xs).isSome = true ↔ xs ∈ ks)) (ty : TypeId) :
    (Builtin.len_ #[t] ty #[.map (some b)]).run P w = .ok (.int .i64 ks.length) w := by
  obtain ⟨D, hD, hf⟩ := hown
  rw [hD.len ht ty]
  obtain ⟨es, clock, hb, F, hs, rfl⟩ := hD
  have e1 : Maps.size (DataW.map (H := Unit) ((es.toList.map (rg P k (plainElem P e))).foldr DataW.insert [])) = es.size := by simp [Maps.size, length_sorted]
  rw [e1]
  have hn : (es.toList.map (·.key)).Nodup := by
    have := ((stamped_iff es clock).1 F.stamped).2.2
    exact List.pairwise_map.2 this
  have hm : (ks.map kval).Nodup := List.pairwise_map.2 (List.Pairwise.imp (fun hne he => hne (kval_inj he)) hk)
  have hlook : ∀ xs, xs.length = n → InI xs → ((f xs).isSome = true ↔ ∃ x ∈ es.toList, x.key = kval xs) := fun xs hl hi => by
    rw [← has_of (hf xs hl hi)]
    rcases fit_look false K ht hz hb F (keyOf_k h xs hl hi) with ⟨_, h2, h3⟩ | ⟨e0, y, h2, h3, _, _, h4, _⟩
    · rw [has_false_of_atKey h3]
      exact ⟨fun h => by simp at h, fun ⟨x, hx, he⟩ => absurd he (h2 x hx)⟩
    · rw [has_true_of_atKey h4]
      exact ⟨fun _ => ⟨e0, h2, h3⟩, fun _ => rfl⟩
  have hlen : (es.toList.map (·.key)).length = (ks.map kval).length := by
    have hsub1 : ∀ v, v ∈ es.toList.map (·.key) ↔ v ∈ ks.map kval := fun v => by
      constructor
      · intro hv
        obtain ⟨x, hx, rfl⟩ := List.mem_map.1 hv
        obtain ⟨y, hy⟩ := F.reads x hx
        obtain ⟨xs, h1, h2, h3, _⟩ := key_inv h (rd_key hy)
        rw [h1]
        exact List.mem_map.2 ⟨xs, (hf' xs h2 h3).1 ((hlook xs h2 h3).2 ⟨x, hx, h1⟩), rfl⟩
      · intro hv
        obtain ⟨xs, hx, rfl⟩ := List.mem_map.1 hv
        obtain ⟨h2, h3⟩ := hks xs hx
        obtain ⟨x, hx2, he⟩ := (hlook xs h2 h3).1 ((hf' xs h2 h3).2 hx)
        exact List.mem_map.2 ⟨x, hx2, he⟩
    classical
    exact nodup_len_eq hn hm hsub1
  have : es.size = ks.length := by simpa using hlen
  rw [this]

/-- The entry's place is laid: as a store of what it has. -/
theorem entry_is_update {w : World} {t : TypeId} {R : Value → Option (DataW Unit × List MemPlace)} {b : Nat} {es : Array MapEntry} {clock : Nat} (K : KeyLaw P k) (ht : P.underlying t = some (.map k e)) {z : Value} (hz : ∀ u : World, (zeroValue e).run P u = .ok z u) (hb : w.heap[b]? = some (.map es clock)) (F : Fit P k R es clock)
    {key : Value} {kl : Lit} (hkey : keyOf P k key = some kl) {v0 : Value} {st : Nat} {w1 : World} (hrun : (Instr.mapEntry t (.map (some b)) key).run P w = .ok (.tuple #[v0, goInt st]) w1) :
    (Instr.mapUpdate t (.map (some b)) key v0).run P w = .ok () w1 := by
  rcases K.find w hkey es.toList F.keys with ⟨h1, h2⟩ | ⟨j, e0, h1, h2, h3⟩
  · have h4 : (Instr.mapEntry t (.map (some b)) key).run P w = .ok (.tuple #[z, goInt clock]) (setBlock w b (.map (es.push ⟨key, z, clock⟩) (clock + 1))) := by
      simp [Instr.mapEntry, run_underlying ht, MapKept.run_getObj_map hb, K.check w false hkey, h1, hz, MapKept.run_setObj_map _ hb, Result.andThen, setBlock]
    rw [h4] at hrun
    simp only [Result.ok.injEq, Value.tuple.injEq] at hrun
    obtain ⟨hv, rfl⟩ := hrun
    obtain rfl : z = v0 := by simp at hv; exact hv.1
    simp [Instr.mapUpdate, run_underlying ht, MapKept.run_getObj_map hb, K.check w false hkey, h1, MapKept.run_setObj_map _ hb, Result.andThen, setBlock]
  · have hj : es[j]? = some e0 := by simpa using h2
    have hsame : es.modify j (fun e => { e with key := key }) = es := by
      apply Array.ext'
      rw [Array.toList_modify, Go.ChangeMaps.modify_eq_set _ _ _ _ h2]
      have : ({ e0 with key := key } : MapEntry) = e0 := by rw [← h3]
      rw [this]
      exact set_self _ _ _ h2
    have hsame2 : es.modify j (fun e' => { e' with key := key, val := e0.val }) = es := by
      apply Array.ext'
      rw [Array.toList_modify, Go.ChangeMaps.modify_eq_set _ _ _ _ h2]
      have : ({ e0 with key := key, val := e0.val } : MapEntry) = e0 := by rw [← h3]
      rw [this]
      exact set_self _ _ _ h2
    have h4 : (Instr.mapEntry t (.map (some b)) key).run P w = .ok (.tuple #[e0.val, goInt e0.born]) (setBlock w b (.map es clock)) := by
      simp [Instr.mapEntry, run_underlying ht, MapKept.run_getObj_map hb, K.check w false hkey, h1, hj, h3, K.stays w hkey, hsame, MapKept.run_setObj_map _ hb, Result.andThen, setBlock]
    rw [h4] at hrun
    simp only [Result.ok.injEq, Value.tuple.injEq] at hrun
    obtain ⟨hv, rfl⟩ := hrun
    obtain rfl : e0.val = v0 := by simp at hv; exact hv.1
    simp [Instr.mapUpdate, run_underlying ht, MapKept.run_getObj_map hb, K.check w false hkey, h1, hj, h3, K.stays w hkey, hsame2, MapKept.run_setObj_map _ hb, Result.andThen, setBlock]

/-- What 'm[key]' is. -/
theorem KMap.look {w : World} (h : KTy P k e n) (K : Keyed P k) {t : TypeId} (ht : P.underlying t = some (.map k e)) (hz : (zeroValue e).run P w = .ok (.int .i64 0) w) {b N : Nat} {f : List Int → Option Int} (hown : KMap P k e n w b N f) (xs : List Int) (hl : xs.length = n) (hi : InI xs) :
    (Instr.lookup t (.map (some b)) (kval xs) false).run P w = .ok (.int .i64 ((f xs).getD 0)) w := by
  obtain ⟨D, hD, hf⟩ := hown
  obtain ⟨c, hrun, hc, _⟩ := hD.lookup_int K ht h.int hz (keyOf_k h xs hl hi)
  rw [hrun]
  cases hfx : f xs with
  | none =>
    rw [(hf xs hl hi).2 hfx] at hc
    cases hc; rfl
  | some v =>
    rw [(hf xs hl hi).1 v hfx] at hc
    cases hc; rfl

theorem setBlock_twice (w : World) (b : Nat) (o o' : Obj) : setBlock (setBlock w b o) b o' = setBlock w b o' := by
  simp [setBlock]
theorem setBlock_at {w : World} {b : Nat} (hb : b < w.heap.size) (o : Obj) : (setBlock w b o).heap[b]? = some o := by
  simp [setBlock, hb]

/-- 'm[key]++': the look-up, ahead of the entry's place or behind it; the place; the store. -/
theorem KMap.bump {w : World} (h : KTy P k e n) (KL : KeyLaw P k) {t : TypeId} (ht : P.underlying t = some (.map k e)) (hz : ∀ u : World, (zeroValue e).run P u = .ok (.int .i64 0) u) {b N : Nat} {f : List Int → Option Int} (hown : KMap P k e n w b N f) (hn : N < maxLen) (xs : List Int) (hl : xs.length = n) (hi : InI xs)
    (hc : (Lit.int .i64 ((f xs).getD 0 + 1)).wf = true) :
    ∃ (v0 : Value) (st : Int) (w1 w2 : World), (Instr.lookup t (.map (some b)) (kval xs) false).run P w = .ok (.int .i64 ((f xs).getD 0)) w ∧
      (Instr.mapEntry t (.map (some b)) (kval xs)).run P w = .ok (.tuple #[v0, .int .i64 st]) w1 ∧ w.grownBy w1 (some b) ∧
      (Instr.lookup t (.map (some b)) (kval xs) false).run P w1 = .ok (.int .i64 ((f xs).getD 0)) w1 ∧
      (Instr.entryStore t (.map (some b)) (.int .i64 st) (.int .i64 ((f xs).getD 0 + 1))).run P w1 = .ok () w2 ∧
      w.grownBy w2 (some b) ∧ KMap P k e n w2 b (N + 1) (put f xs ((f xs).getD 0 + 1)) := by
  have K := Keyed.of_law KL
  have hlook := hown.look h K ht (hz w) xs hl hi
  obtain ⟨w2, hup, hm2, hg2⟩ := KMap.update h K ht hown hn xs ((f xs).getD 0 + 1) hl hi hc
  have hown0 := hown
  obtain ⟨D, hD, hf⟩ := hown0
  have hlt := hD.lt
  obtain ⟨es, clock, hb, F, hs, rfl⟩ := hD
  have hkey := keyOf_k h xs hl hi
  obtain ⟨v0, st, es1, clock1, hent, hv0, hst⟩ := entry_then_store KL ht hz hb F hkey
  have hupd := entry_is_update KL ht hz hb F hkey hent
  have hv0' : v0 = .int .i64 ((f xs).getD 0) := by
    rcases fit_look false K ht (hz w) hb F hkey with ⟨hrun, h2, _⟩ | ⟨e0, y, h2, h3, hrun, _, _, _⟩
    · rw [hrun] at hlook
      rcases hv0 with ⟨e0, h4, h5, _⟩ | ⟨_, h5⟩
      · exact absurd h5 (h2 e0 h4)
      · rw [h5]; simpa using hlook
    · rw [hrun] at hlook
      rcases hv0 with ⟨e1, h4, h5, h6⟩ | ⟨h5, _⟩
      · rw [h6]
        have hp := ((stamped_iff es clock).1 F.stamped).2.2
        have : e1 = e0 := by
          by_cases he : e1 = e0
          · exact he
          · exact absurd (h5.trans h3.symm) (pair_ne hp h4 h2 he)
        rw [this]; simpa using hlook
      · exact absurd h3 (h5 e0 h2)
  subst hv0'
  have hwf0 : (Lit.int .i64 ((f xs).getD 0)).wf = true := by
    cases hfx : f xs with
    | none => rfl
    | some v =>
      obtain ⟨c, hrun, _, hw⟩ := World.ownsMap.lookup_int (w := w) (b := b) (n := N) ⟨es, clock, hb, F, hs, rfl⟩ K ht h.int (hz w) hkey
      rw [hlook] at hrun
      simp only [Result.ok.injEq, Value.int.injEq, true_and, and_true] at hrun
      rw [hfx] at hrun
      rw [← hrun] at hw
      exact hw
  obtain ⟨w1', hup1, hm1, hg1⟩ := KMap.update h K ht hown hn xs ((f xs).getD 0) hl hi hwf0
  rw [hupd] at hup1
  obtain rfl : setBlock w b (.map es1 clock1) = w1' := by simpa using hup1
  have hl1 := hm1.look h K ht (hz _) xs hl hi
  have hput : (put f xs ((f xs).getD 0) xs).getD 0 = (f xs).getD 0 := by simp [put]
  rw [hput] at hl1
  obtain ⟨es', clock', hs1, hs2⟩ := hst (setBlock w b (.map es1 clock1)) (.int .i64 ((f xs).getD 0 + 1)) (setBlock_at hlt _)
  rw [setBlock_twice] at hs1
  rw [hup] at hs2
  obtain rfl : w2 = setBlock w b (.map es' clock') := by simpa using hs2
  exact ⟨_, st, _, _, hlook, hent, hg1, hl1, hs1, hg2, hm2⟩

end
end Go.Proofs.YtnhdngnolepkcaaDoor
