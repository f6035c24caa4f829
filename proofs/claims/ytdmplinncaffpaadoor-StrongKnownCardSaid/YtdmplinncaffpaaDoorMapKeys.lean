/- Maps whose keys are arrays of n ints and whose elements are ints: what a key reads as, and the laws of make, store, look-up and range in plain words: a function from keys to elements. -/
import Derived.Test.YtdmplinncaffpaaDoorBase
import Derived.DeepKeys4
import Derived.Maps.RangeWalk
import Derived.Maps.Views
namespace Go.Proofs.YtdmplinncaffpaaDoor
open Go.RowKit Go.Maps

/-- What a key reads as. -/
def klit (xs : List Int) : Lit := .string (keyBytes (xs.map (Lit.int .i64)))
/-- Each is an int. -/
def InI (xs : List Int) : Prop := ∀ x ∈ xs, (Lit.int .i64 x).wf = true
/-- The key, a value. -/
def kval (xs : List Int) : Value := .agg (ints xs).toArray
theorem kval_inj {xs ys : List Int} (h : kval xs = kval ys) : xs = ys := by
  unfold kval at h
  simp only [Value.agg.injEq] at h
  have : ints xs = ints ys := by simpa using h
  unfold ints at this
  exact (List.map_inj_right (fun a b hab => by simpa using hab)).1 this

section
variable {P : Program} {k e : TypeId} {n : Nat}

/-- What the program says of the key's type. -/
structure KTy (P : Program) (k e : TypeId) (n : Nat) : Prop where
  arr : P.underlying k = some (.array n e)
  int : P.underlying e = some (.int .i64)
  key : P.keyType k = true
  cells : P.cellsOf k = n
  one : P.cellsOf e = 1
  big : 1 ≤ P.types.size

theorem lits_elem (h : KTy P k e n) (d : Nat) (x : Int) (hx : (Lit.int .i64 x).wf = true) : P.keyLits (d + 1) e [.int .i64 x] = some [.int .i64 x] := by
  simp [Program.keyLits, h.int, hx]

theorem drop_one : ∀ (cs : List Value) (i : Nat), i < cs.length → ∃ v, cs[i]? = some v ∧ (cs.drop (i * 1)).take 1 = [v] := by
  intro cs i hi
  refine ⟨cs[i], by simp [hi], ?_⟩
  rw [Nat.mul_one, List.take_one, List.head?_drop]
  simp [hi]

theorem mapM_some {α β : Type} {f : α → Option β} {g : α → β} : ∀ {L : List α}, (∀ x ∈ L, f x = some (g x)) → L.mapM f = some (L.map g)
  | [], _ => by simp
  | a :: L, h => by
    rw [List.mapM_cons, h a (by simp), mapM_some (fun x hx => h x (by simp [hx]))]
    rfl

theorem range_flat (xs : List Int) : (((List.range xs.length).map fun i => [Lit.int .i64 (nth xs i)])).flatten = xs.map (Lit.int .i64) := by
  have : xs = (List.range xs.length).map (nth xs) := by
    apply nth_ext
    · simp
    · intro j hj
      rw [nth_eq ((List.range xs.length).map (nth xs)) j (by simpa using hj)]; simp
  have e2 : xs.map (Lit.int .i64) = ((List.range xs.length).map (nth xs)).map (Lit.int .i64) := by rw [← this]
  rw [e2]
  generalize List.range xs.length = L
  induction L with
  | nil => rfl
  | cons a L ih => simp only [List.map_cons, List.flatten_cons, ih]; rfl

theorem lits_key (h : KTy P k e n) (xs : List Int) (hl : xs.length = n) (hx : InI xs) : P.keyLits (P.types.size + 1) k (ints xs) = some (xs.map (Lit.int .i64)) := by
  obtain ⟨d, hd⟩ : ∃ d, P.types.size = d + 1 := ⟨P.types.size - 1, by have := h.big; omega⟩
  rw [hd, Program.keyLits.eq_def]
  simp only [h.arr]
  rw [if_pos (by rw [h.cells, ints_length, hl])]
  rw [mapM_some (g := fun i => [Lit.int .i64 (nth xs i)])]
  · subst hl
    simp only [Option.map_some, range_flat]
  · intro i hi
    have hi' : i < xs.length := by have := List.mem_range.1 hi; omega
    rw [h.one]
    obtain ⟨v, h1, h2⟩ := drop_one (ints xs) i (by rw [ints_length]; exact hi')
    rw [ints_get xs i hi'] at h1
    cases h1
    rw [h2]
    exact lits_elem h d _ (hx _ (nth_mem xs i hi'))

theorem keyOf_k (h : KTy P k e n) (xs : List Int) (hl : xs.length = n) (hx : InI xs) : keyOf P k (kval xs) = some (klit xs) := by
  unfold keyOf
  simp only [h.arr, h.key]
  have hf : (kval xs).formed P k = true := by simp [kval, Value.formed, h.arr, h.cells, ints_length, hl]
  rw [hf]
  simp only [Bool.and_self, if_true]
  have : (kval xs).cells.toList = ints xs := by simp [kval, Value.cells]
  rw [this, lits_key h xs hl hx]
  rfl

theorem wide_k (h : KTy P k e n) : (match P.underlying k with | some (.array _ _) | some (.struct _) => true | _ => false) = true := by rw [h.arr]

theorem ints_of : ∀ (cs : List Value), (∀ v ∈ cs, ∃ x, v = .int .i64 x ∧ (Lit.int .i64 x).wf = true) → ∃ xs, cs = ints xs ∧ InI xs
  | [], _ => ⟨[], rfl, by simp [InI]⟩
  | v :: cs, h => by
    obtain ⟨x, rfl, hx⟩ := h v (by simp)
    obtain ⟨xs, rfl, hxs⟩ := ints_of cs (fun u hu => h u (by simp [hu]))
    exact ⟨x :: xs, rfl, by intro y hy; rcases List.mem_cons.1 hy with rfl | hy; exact hx; exact hxs y hy⟩

theorem mapM_inv {α β : Type} {f : α → Option β} : ∀ {L : List α} {r : List β}, L.mapM f = some r → ∀ x ∈ L, ∃ y, f x = some y
  | [], _, _ => by simp
  | a :: L, r, h => by
    rw [List.mapM_cons] at h
    simp only [bind, Option.bind_eq_some_iff, pure, Option.some.injEq] at h
    obtain ⟨b, hb, bs, hbs, -⟩ := h
    intro x hx
    rcases List.mem_cons.1 hx with rfl | hx
    · exact ⟨b, hb⟩
    · exact mapM_inv hbs x hx

/-- What reads as a key is a list of n ints. -/
theorem key_inv (h : KTy P k e n) {v : Value} {kl : Lit} (hv : keyOf P k v = some kl) : ∃ xs, v = kval xs ∧ xs.length = n ∧ InI xs ∧ kl = klit xs := by
  obtain ⟨cs, L, rfl, hL, rfl⟩ := keyOf_top (wide_k h) hv
  obtain ⟨d, hd⟩ : ∃ d, P.types.size = d + 1 := ⟨P.types.size - 1, by have := h.big; omega⟩
  have hL0 := hL
  rw [hd, Program.keyLits.eq_def] at hL
  simp only [h.arr] at hL
  split at hL
  case isFalse => cases hL
  rename_i hlen
  rw [h.cells] at hlen
  simp only [Option.map_eq_some_iff] at hL
  obtain ⟨aa, haa, -⟩ := hL
  have hall := mapM_inv haa
  obtain ⟨xs, hxs, hin⟩ := ints_of cs.toList (by
    intro v hv
    obtain ⟨i, hi, rfl⟩ := List.mem_iff_getElem.1 hv
    obtain ⟨y, hy⟩ := hall i (List.mem_range.2 (by omega))
    rw [h.one] at hy
    obtain ⟨u, hu1, hu2⟩ := drop_one cs.toList i hi
    rw [hu2, Program.keyLits.eq_def] at hy
    simp only [h.int] at hy
    have : cs.toList[i] = u := by rw [List.getElem?_eq_getElem hi] at hu1; exact Option.some.inj hu1
    rw [this]
    cases u <;> simp at hy
    obtain ⟨⟨rfl, hw⟩, -⟩ := hy
    exact ⟨_, rfl, hw⟩)
  have hl : xs.length = n := by rw [← ints_length, ← hxs, hlen]
  rw [hxs, lits_key h xs hl hin] at hL0
  cases hL0
  refine ⟨xs, ?_, hl, hin, rfl⟩
  unfold kval
  rw [← hxs]

theorem klit_inj (h : KTy P k e n) (K : Keyed P k) {xs ys : List Int} (hx : xs.length = n) (ix : InI xs) (hy : ys.length = n) (iy : InI ys) (he : klit xs = klit ys) : xs = ys :=
  kval_inj (K.inj (keyOf_k h xs hx ix) (he ▸ keyOf_k h ys hy iy))
theorem klit_key (xs : List Int) : WideAt.IsKeyLit (klit xs) := trivial

/-- The map at block b, of N entries at the most, has the elements that f tells. -/
def KMap (P : Program) (k e : TypeId) (n : Nat) (w : World) (b N : Nat) (f : List Int → Option Int) : Prop :=
  ∃ D : DataW Unit, w.ownsMap P k (plainElem P e) b N D ∧ ∀ xs, xs.length = n → InI xs → (∀ v, f xs = some v → ∀ z, D.atKey (klit xs) z = .lit (.int .i64 v)) ∧ (f xs = none → ∀ z, D.atKey (klit xs) z = z)

theorem KMap.made (w : World) : KMap P k e n (w.alloc (.map #[] 0)) w.heap.size 0 (fun _ => none) :=
  ⟨.map [], World.ownsMap_made w P k _, fun xs _ _ => ⟨fun v hv => (by cases hv), fun _ z => rfl⟩⟩
theorem KMap.kept {w w' : World} {row : Option Nat} {b N : Nat} {f} (h : KMap P k e n w b N f) (hg : w.grownBy w' row) (hne : some b ≠ row) : KMap P k e n w' b N f :=
  let ⟨D, h1, h2⟩ := h; ⟨D, h1.kept hg hne, h2⟩
theorem KMap.mono {w : World} {b N N' : Nat} {f} (h : KMap P k e n w b N f) (hn : N ≤ N') : KMap P k e n w b N' f :=
  let ⟨D, h1, h2⟩ := h; ⟨D, h1.mono hn, h2⟩
theorem KMap.lt {w : World} {b N : Nat} {f} (h : KMap P k e n w b N f) : b < w.heap.size := let ⟨_, h1, _⟩ := h; h1.lt
theorem KMap.congr {w : World} {b N : Nat} {f g} (h : KMap P k e n w b N f) (hfg : ∀ xs, xs.length = n → InI xs → f xs = g xs) : KMap P k e n w b N g :=
  let ⟨D, h1, h2⟩ := h; ⟨D, h1, fun xs hl hx => by rw [← hfg xs hl hx]; exact h2 xs hl hx⟩

/-- One more. -/
def put (f : List Int → Option Int) (xs : List Int) (v : Int) : List Int → Option Int := fun ys => if ys = xs then some v else f ys

variable (w : World) {ops : Array Oper} {rest : List Oper} {o : Oper} {a : Act} {Q : Exit → Act → World → Prop}

/-- 'm[key] = v'. -/
theorem wpList_put (h : KTy P k e n) (K : Keyed P k) (hg : o.guard = none) (m x v : Operand) (t : TypeId) (hop : o.op = Op.mapUpdate t m x v) (ht : P.underlying t = some (.map k e)) (b N : Nat) (f : List Int → Option Int)
    (hm : a.eval m = .map (some b)) (hown : KMap P k e n w b N f) (hn : N < maxLen) (xs : List Int) (y : Int) (hx : a.eval x = kval xs) (hv : a.eval v = .int .i64 y) (hl : xs.length = n) (hi : InI xs) (hy : (Lit.int .i64 y).wf = true)
    (hK : ∀ w', KMap P k e n w' b (N + 1) (put f xs y) → w.grownBy w' (some b) → wpList P ops Q rest (a.put o.dst undef) w') :
    wpList P ops Q (o :: rest) a w := by
  obtain ⟨D, hD, hf⟩ := hown
  refine wpList_mapUpdate_own w hg m x v t hop k e K ht (plainElem P e) b N D hm hD hn (kval xs) (.int .i64 y) (klit xs) hx hv (keyOf_k h xs hl hi) (.lit (.int .i64 y)) [] (plainElem_int h.int hy) ?_
  intro w' hw' hgr
  refine hK w' ⟨_, hw', fun ys hyl hyi => ?_⟩ hgr
  obtain ⟨es, hes, -, -⟩ := hD.entries K
  by_cases hne : ys = xs
  · subst hne
    refine ⟨fun v hv z => ?_, fun hv => by simp [put] at hv⟩
    simp only [put, if_true, Option.some.injEq] at hv
    subst hv
    exact atKey_put_same ⟨es, hes⟩ (klit_key ys) _ _
  · have hk : klit ys ≠ klit xs := fun he => hne (klit_inj h K hyl hyi hl hi he)
    simp only [put, if_neg hne]
    refine ⟨fun v hv z => ?_, fun hv z => ?_⟩
    · rw [atKey_put_other hk]; exact (hf ys hyl hyi).1 v hv z
    · rw [atKey_put_other hk]; exact (hf ys hyl hyi).2 hv z

/-- 'm[key]'. -/
theorem wpList_look (h : KTy P k e n) (K : Keyed P k) (hg : o.guard = none) (m x : Operand) (t : TypeId) (hop : o.op = Op.lookup t m x false) (ht : P.underlying t = some (.map k e)) (hz : (zeroValue e).run P w = .ok (.int .i64 0) w) (b N : Nat) (f : List Int → Option Int)
    (hm : a.eval m = .map (some b)) (hown : KMap P k e n w b N f) (xs : List Int) (hx : a.eval x = kval xs) (hl : xs.length = n) (hi : InI xs)
    (hK : ∀ c, c = (f xs).getD 0 → (Lit.int .i64 c).wf = true → wpList P ops Q rest (a.put o.dst (.int .i64 c)) w) :
    wpList P ops Q (o :: rest) a w := by
  obtain ⟨D, hD, hf⟩ := hown
  refine wpList_lookup_own_int w hg m x t hop k e .i64 K ht h.int hz b N D hm hD (kval xs) (klit xs) hx (keyOf_k h xs hl hi) ?_
  intro c hc hw
  refine hK c ?_ hw
  cases hfx : f xs with
  | none =>
    rw [(hf xs hl hi).2 hfx] at hc
    cases hc; rfl
  | some v =>
    rw [(hf xs hl hi).1 v hfx] at hc
    cases hc; rfl

/-- The store, once. -/
theorem KMap.update {w : World} (h : KTy P k e n) (K : Keyed P k) {t : TypeId} (ht : P.underlying t = some (.map k e)) {b N : Nat} {f : List Int → Option Int} (hown : KMap P k e n w b N f) (hn : N < maxLen) (xs : List Int) (y : Int) (hl : xs.length = n) (hi : InI xs) (hy : (Lit.int .i64 y).wf = true) :
    ∃ w', (Instr.mapUpdate t (.map (some b)) (kval xs) (.int .i64 y)).run P w = .ok () w' ∧ KMap P k e n w' b (N + 1) (put f xs y) ∧ w.grownBy w' (some b) := by
  obtain ⟨D, hD, hf⟩ := hown
  obtain ⟨w', hrun, hw', hgr⟩ := hD.update K ht hn (keyOf_k h xs hl hi) (plainElem_int h.int hy)
  refine ⟨w', hrun, ⟨_, hw', fun ys hyl hyi => ?_⟩, hgr⟩
  obtain ⟨es, hes, -, -⟩ := hD.entries K
  by_cases hne : ys = xs
  · subst hne
    refine ⟨fun v hv z => ?_, fun hv => by simp [put] at hv⟩
    simp only [put, if_true, Option.some.injEq] at hv
    subst hv
    exact atKey_put_same ⟨es, hes⟩ (klit_key ys) _ _
  · have hk : klit ys ≠ klit xs := fun he => hne (klit_inj h K hyl hyi hl hi he)
    simp only [put, if_neg hne]
    refine ⟨fun v hv z => ?_, fun hv z => ?_⟩
    · rw [atKey_put_other hk]; exact (hf ys hyl hyi).1 v hv z
    · rw [atKey_put_other hk]; exact (hf ys hyl hyi).2 hv z

/-- .. as one step of a region that draws its order. -/
theorem step_put {w : World} {ops : Array Oper} {o : Oper} {a : Act} {K' : Act → World → Prop} {Q : Exit → Act → World → Prop} {El : Prop} (h : KTy P k e n) (K : Keyed P k) (hg : o.guard = none) (m x v : Operand) (t : TypeId) (hop : o.op = Op.mapUpdate t m x v)
    (ht : P.underlying t = some (.map k e)) {b N : Nat} {f : List Int → Option Int} (hm : a.eval m = .map (some b)) (hown : KMap P k e n w b N f) (hn : N < maxLen) (xs : List Int) (y : Int) (hx : a.eval x = kval xs) (hv : a.eval v = .int .i64 y) (hl : xs.length = n) (hi : InI xs) (hy : (Lit.int .i64 y).wf = true)
    (hK : ∀ w', KMap P k e n w' b (N + 1) (put f xs y) → w.grownBy w' (some b) → K' (a.put o.dst undef) w') :
    if Region.wanted o (yielded ops a.tmps) = true then Oper.wp P o a w K' Q else El := by
  have hw : Region.wanted o (yielded ops a.tmps) = true := by simp [Region.wanted, hg]
  rw [if_pos hw]
  obtain ⟨w', hrun, h1, h2⟩ := KMap.update h K ht hown hn xs y hl hi hy
  unfold Oper.wp
  simp [execOp, hop, hm, hx, hv, hrun, Result.andThen]
  exact hK w' h1 h2
/-- A call, as one step of a region that draws its order. -/
theorem step_callG {w : World} {ops : Array Oper} {o : Oper} {a : Act} {K : Act → World → Prop} {Q : Exit → Act → World → Prop} {El : Prop} {f : FuncId} {args : Array Value} {R : World → Prop} (v : Value)
    (hgd : o.guard = none) (hc : Calls P f args w fun e w' => e = .returned v ∧ R w') (hrun : (execOp a.eval o).run P w = .ok (.enter f args) w)
    (h : ∀ w', R w' → K (a.put o.dst v) w') :
    if Region.wanted o (yielded ops a.tmps) = true then Oper.wp P o a w K Q else El := by
  have hw : Region.wanted o (yielded ops a.tmps) = true := by simp [Region.wanted, hgd]
  rw [if_pos hw]
  unfold Oper.wp
  rw [hrun, Oper.upon_enter]
  refine hc.mono ?_
  rintro e w' ⟨rfl, hr⟩
  exact h w' hr

/-- 'for key, v := range m' under way: block r; the keys that have been seen. -/
def KRange (P : Program) (k e : TypeId) (n : Nat) (w : World) (b r : Nat) (f : List Int → Option Int) (done : List (List Int)) (cnt : Nat) : Prop :=
  ∃ (N : Nat) (D : DataW Unit) (left : Lit → Bool), w.ranges P k (plainElem P e) b r N D left cnt ∧
    (∀ xs, xs.length = n → InI xs → (∀ v, f xs = some v → ∀ z, D.atKey (klit xs) z = .lit (.int .i64 v)) ∧ (f xs = none → ∀ z, D.atKey (klit xs) z = z)) ∧
    (∀ xs, xs.length = n → InI xs → (left (klit xs) = true ↔ (f xs).isSome = true ∧ xs ∉ done)) ∧
    (∀ xs ∈ done, xs.length = n ∧ InI xs ∧ (f xs).isSome = true) ∧ done.Nodup

theorem KRange.kept {w w' : World} {row : Option Nat} {b r : Nat} {f done cnt} (h : KRange P k e n w b r f done cnt) (hg : w.grownBy w' row) (hb : some b ≠ row) (hr : some r ≠ row) : KRange P k e n w' b r f done cnt :=
  let ⟨N, D, l, h1, h2⟩ := h; ⟨N, D, l, h1.kept hg hb hr, h2⟩
theorem KRange.left_eq {w : World} {b r : Nat} {f done cnt} (h : KRange P k e n w b r f done cnt) : w.rangeLeft b r = cnt := let ⟨_, _, _, h1, _⟩ := h; h1.left_eq
theorem KRange.ltr {w : World} {b r : Nat} {f done cnt} (h : KRange P k e n w b r f done cnt) : r < w.heap.size := let ⟨_, _, _, h1, _⟩ := h; h1.lt
theorem KRange.ltb {w : World} {b r : Nat} {f done cnt} (h : KRange P k e n w b r f done cnt) : b < w.heap.size := let ⟨_, _, _, h1, _⟩ := h; h1.owns.lt
/-- Which keys have been seen is all that is asked. -/
theorem KRange.done {w : World} {b r : Nat} {f done} (h : KRange P k e n w b r f done 0) (h0 : ∀ xs, xs.length = n → InI xs → (f xs).isSome = true → xs ∈ done) : ∀ xs, xs.length = n → InI xs → ((f xs).isSome = true ↔ xs ∈ done) := by
  obtain ⟨_, _, _, _, _, _, h5, _⟩ := h
  exact fun xs hl hi => ⟨h0 xs hl hi, fun hx => (h5 xs hx).2.2⟩

theorem has_of {D : DataW Unit} {f : List Int → Option Int} {xs : List Int} (hf : (∀ v, f xs = some v → ∀ z, D.atKey (klit xs) z = .lit (.int .i64 v)) ∧ (f xs = none → ∀ z, D.atKey (klit xs) z = z)) : has D (klit xs) = true ↔ (f xs).isSome = true := by
  cases hfx : f xs with
  | none => rw [has_false_of_atKey (hf.2 hfx)]; simp
  | some v => rw [has_true_of_atKey (hf.1 v hfx)]; simp

/-- 'range m'. -/
theorem wpList_over (K : Keyed P k) (hg : o.guard = none) (m : Operand) (t : TypeId) (hop : o.op = Op.range t m) (ht : P.underlying t = some (.map k e)) (b N : Nat) (f : List Int → Option Int)
    (hm : a.eval m = .map (some b)) (hown : KMap P k e n w b N f)
    (hK : ∀ w' cnt, KRange P k e n w' b w.heap.size f [] cnt → cnt ≤ N → w.grownBy w' none → w'.heap.size = w.heap.size + 1 → wpList P ops Q rest (a.put o.dst (.pointer (some ⟨w.heap.size, 0, none⟩))) w') :
    wpList P ops Q (o :: rest) a w := by
  obtain ⟨D, hD, hf⟩ := hown
  refine wpList_range_own w hg m t hop k e K ht (plainElem P e) b N D hm hD ?_
  intro w' hr hgr hs
  refine hK w' _ ⟨N, D, _, hr, hf, fun xs hl hi => ?_, by simp, by simp⟩ hD.size_le hgr hs
  rw [has_of (hf xs hl hi)]; simp

/-- The step. -/
theorem wpList_step (h : KTy P k e n) (K : Keyed P k) (hg : o.guard = none) (it : Operand) (hop : o.op = Op.next it false) (b r : Nat) (f : List Int → Option Int) (done : List (List Int)) (cnt : Nat)
    (hit : a.eval it = .pointer (some ⟨r, 0, none⟩)) (hr : KRange P k e n w b r f done cnt)
    (hDone : (∀ xs, xs.length = n → InI xs → ((f xs).isSome = true ↔ xs ∈ done)) → done.Nodup → wpList P ops Q rest (a.put o.dst (.tuple #[.bool false])) w)
    (hMore : ∀ (xs : List Int) (c : Int) (w' : World) (cnt' : Nat), xs.length = n → InI xs → f xs = some c → xs ∉ done → KRange P k e n w' b r f (done ++ [xs]) cnt' → cnt' < cnt → w.grownBy w' (some r) → w'.heap.size = w.heap.size →
      (Instr.entry (.pointer (some ⟨r, 0, none⟩))).run P w' = .ok (.tuple #[kval xs, .int .i64 c]) w' → wpList P ops Q rest (a.put o.dst (.tuple #[.bool true, kval xs, .int .i64 c])) w') :
    wpList P ops Q (o :: rest) a w := by
  obtain ⟨N, D, left, hrg, hf, hleft, hdone, hnd⟩ := hr
  refine wpList_next_ranges w hg it hop k K (plainElem P e) kval (Value.int .i64) (fun key kl hk => by obtain ⟨xs, hxs, _⟩ := key_inv h hk; exact ⟨xs, hxs⟩) (fun v y hv => by obtain ⟨c, hc, _⟩ := plainElem_int_inv h.int hv; exact ⟨c, hc⟩)
    b r N D left cnt hit hrg ?_ ?_
  · intro h0 hl
    refine hDone (fun xs hxl hxi => ?_) hnd
    have := hleft xs hxl hxi
    rw [hl] at this
    refine ⟨fun hs => Classical.byContradiction fun hn => ?_, fun hx => (hdone xs hx).2.2⟩
    exact absurd (this.2 ⟨hs, hn⟩) (by simp)
  · intro xs0 c kl y w' cnt' hkey hlk hRv hat hrg' hlt hgr hsz hen
    obtain ⟨xs, hxe, hxl, hxi, rfl⟩ := key_inv h hkey
    cases kval_inj hxe
    obtain ⟨hs, hnd'⟩ := (hleft xs0 hxl hxi).1 hlk
    obtain ⟨c', hc', hy, hwf⟩ := plainElem_int_inv h.int hRv
    cases hc'
    have hfc : f xs0 = some c := by
      cases hfx : f xs0 with
      | none => rw [hfx] at hs; cases hs
      | some v =>
        have h1 := (hf xs0 hxl hxi).1 v hfx .nil
        rw [hat, hy] at h1
        cases h1; rfl
    refine hMore xs0 c w' cnt' hxl hxi hfc hnd' ⟨N, D, _, hrg', hf, fun ys hyl hyi => ?_, ?_, ?_⟩ hlt hgr hsz hen
    · simp only [Bool.and_eq_true, Bool.not_eq_true', List.mem_append, List.mem_singleton, not_or]
      rw [hleft ys hyl hyi]
      constructor
      · rintro ⟨⟨h1, h2⟩, h3⟩
        refine ⟨h1, h2, fun he => ?_⟩
        subst he
        rw [WideAt.sameKey_self (klit_key ys)] at h3
        cases h3
      · rintro ⟨h1, h2, h3⟩
        exact ⟨⟨h1, h2⟩, sameKey_ne (fun he => h3 (klit_inj h K hyl hyi hxl hxi he))⟩
    · intro ys hys
      rcases List.mem_append.1 hys with hys | hys
      · exact hdone ys hys
      · rw [List.mem_singleton.1 hys]; exact ⟨hxl, hxi, hs⟩
    · rw [List.nodup_append]
      refine ⟨hnd, by simp, fun a ha b hb hab => ?_⟩
      rw [List.mem_singleton.1 hb] at hab
      exact hnd' (hab ▸ ha)
end
#print axioms wpList_step
#print axioms wpList_look
end Go.Proofs.YtdmplinncaffpaaDoor
