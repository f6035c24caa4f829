/- slices.Index and slices.Contains of ints. Conditions: as the theorems say. -/
import Derived.Test.YthkafhmciapipaaDoorJehibadfmjn
import Derived.Test.YthkafhmciapipaaDoorJapnhbomkic
import Derived.Test.YthkafhmciapipaaDoorJfklenhcelk
import Derived.Deep.LoopGhost
namespace Go.Proofs.YthkafhmciapipaaDoor
open Go.RowKit

set_option maxHeartbeats 400000 in
theorem index_any (ao : Option Addr) (n cap : Nat) (xs : List Int) (v : Int) (w : World) (hn : xs.length = n) (hbig : n ≤ maxLen) (hr : Reads w ao (ints xs)) :
    Calls Tryd.prog 53 #[.slice ao n cap, .int .i64 v] w fun e w' => e = .returned (.int .i64 (idxFrom (fun x => v == x) xs 0)) ∧ w' = w := by
  unfold maxLen at hbig
  have HN := Lib.hid hn
  have HR := Lib.hid hr
  clear hn hr
  go_enter Tryd.func53, Tryd.ntmps53
  go_wp2
  go_loop [8] (fun i => ∃ k : Nat, k ≤ n ∧ i = .int .i64 k ∧ ∀ i, i < k → (v == nth xs i) = false) (fun i => n - (intOf i).toNat)
  case atStart => exact ⟨0, by omega, rfl, fun i hi => by omega⟩
  case round =>
    obtain ⟨k, hk, rfl, hall⟩ := hrel
    have HA := Lib.hid hall
    clear hall
    by_cases hlt : k < n
    · obtain ⟨b, off, rfl, hb, hc⟩ := Reads.int HR.out (by rw [HN.out]; omega)
      have hck := hc k (by rw [HN.out]; omega)
      clear hc
      cases hpx : (v == nth xs k) with
      | true =>
        have HX := Lib.hid hpx
        go_wp2
        go_ret
        exact ⟨by rw [idxFrom_hit (fun x => v == x) xs 0 k (by rw [HN.out]; omega) HX.out HA.out]; simp, rfl⟩
      | false =>
        have HX := Lib.hid hpx
        go_wp2
        go_round
        case rel => exact ⟨k + 1, by omega, by go_num, fun i hi => by
          rcases Nat.lt_succ_iff_lt_or_eq.1 hi with h | rfl
          · exact HA.out i h
          · exact HX.out⟩
        case measure => simp [intOf]; omega
    · go_wp2
      go_ret
      exact ⟨by rw [idxFrom_miss (fun x => v == x) xs 0 (fun i hi => HA.out i (by rw [HN.out] at hi; omega))]; simp, rfl⟩

theorem any_contains (xs : List Int) (v : Int) : xs.any (fun x => v == x) = xs.contains v := by
  induction xs with
  | nil => rfl
  | cons x xs ih => rw [List.any_cons, List.contains_cons, ih]

set_option maxHeartbeats 400000 in
theorem contains_any (ao : Option Addr) (n cap : Nat) (xs : List Int) (v : Int) (w : World) (hn : xs.length = n) (hbig : n ≤ maxLen) (hr : Reads w ao (ints xs)) :
    Calls Tryd.prog 52 #[.slice ao n cap, .int .i64 v] w fun e w' => e = .returned (.bool (xs.contains v)) ∧ w' = w := by
  have H := Lib.hid (index_any ao n cap xs v w hn hbig hr)
  have HA := Lib.hid (idxFrom_any (fun x => v == x) xs 0)
  have HB := Lib.hid (any_contains xs v)
  clear hn hbig hr
  generalize idxFrom (fun x => v == x) xs 0 = r at *
  go_enter Tryd.func52, Tryd.ntmps52
  go_wp2_with (go_at_call 53; refine H.out.mono ?_; rintro e w' ⟨rfl, rfl⟩)
  go_ret
  exact ⟨by rw [← HB.out, ← HA.out]; rfl, rfl⟩

end Go.Proofs.YthkafhmciapipaaDoor

/- What a room is in memory, and its tables while they are made. Plain but for the words of the walk. -/
namespace Go.Proofs.YthkafhmciapipaaDoor
open Go.RowKit

/-- The list of what a function gives at 0, 1, .. -/
def ltab (g : Nat → List Int) : Nat → List (List Int)
  | 0 => []
  | k + 1 => ltab g k ++ [g k]
theorem ltab_length (g : Nat → List Int) : ∀ k, (ltab g k).length = k
  | 0 => rfl
  | k + 1 => by rw [ltab, List.length_append, ltab_length g k]; rfl
theorem row_ltab (g : Nat → List Int) : ∀ k j, j < k → row (ltab g k) j = g j
  | k + 1, j, h => by
    rw [ltab]
    by_cases hj : j < k
    · rw [row_append_left _ _ _ (by rw [ltab_length]; exact hj), row_ltab g k j hj]
    · obtain rfl : j = k := by omega
      have := row_append_end (ltab g j) (g j)
      rwa [ltab_length] at this

/-- The tables of a field: products, sums, inverses (as the program finds them). -/
def mulR (p k : Nat) (low : List Int) (q a : Nat) : List Int := tab (fun b => (mulF p k (nth low) a b : Nat)) q
def addR (p k q a : Nat) : List Int := tab (fun b => (addF p k a b : Nat)) q
def invI (p k : Nat) (low : List Int) (q a : Nat) : Int := idxFrom (fun x => (1 : Int) == x) (mulR p k low q a) 0

/-- A room in memory. -/
structure RoomAt (w : World) (b : Nat) (p k : Nat) (low : List Int) (n : Nat) : Prop where
  lt : b < w.heap.size
  ex : ∃ (fo mo so io : Option Addr) (fc mc sc ic : Nat), Blk w b #[.int .i64 p, .int .i64 k, .slice fo k fc, .int .i64 n, .int .i64 (p ^ k : Nat), .slice mo (p ^ k) mc, .slice so (p ^ k) sc, .slice io (p ^ k) ic] 76 ∧
    ReadsL w mo (ltab (mulR p k low (p ^ k)) (p ^ k)) ∧ ReadsL w so (ltab (addR p k (p ^ k)) (p ^ k)) ∧ Reads w io (ints (tab (invI p k low (p ^ k)) (p ^ k)))
theorem RoomAt.ext {w w' : World} {b p k : Nat} {low : List Int} {n : Nat} (h : RoomAt w b p k low n) (hx : Ext w w') : RoomAt w' b p k low n := by
  obtain ⟨fo, mo, so, io, fc, mc, sc, ic, h1, h2, h3, h4⟩ := h.ex
  exact ⟨Nat.lt_of_lt_of_le h.lt hx.size, fo, mo, so, io, fc, mc, sc, ic, h1.ext hx, h2.ext hx, h3.ext hx, hx.reads h4⟩

/-- The three tables of a room that is being made: v, u of rows, x of ints; their blocks and those of their rows lie from B on, apart. -/
structure Tabs3 (w : World) (B : Nat) (mo : Option Addr) (i mc : Nat) (so : Option Addr) (j sc : Nat) (io : Option Addr) (l ic : Nat) (R S : List (List Int)) (V : List Int) : Prop where
  size : B ≤ w.heap.size
  mul : Tbl w (fun b => B ≤ b ∧ some b ≠ (Value.slice so j sc).ownBlock ∧ some b ≠ (Value.slice io l ic).ownBlock) B mo i mc R
  add : Tbl w (fun b => B ≤ b ∧ some b ≠ (Value.slice mo i mc).ownBlock ∧ some b ≠ (Value.slice io l ic).ownBlock) B so j sc S
  inv : RowOf 3 w B io l ic (ints V)
  ma : Apart (.slice mo i mc) (.slice so j sc)
  mi : Apart (.slice mo i mc) (.slice io l ic)
  ai : Apart (.slice so j sc) (.slice io l ic)

theorem Tabs3.nil (w : World) {B : Nat} (hB : B ≤ w.heap.size) : Tabs3 w B none 0 0 none 0 0 none 0 0 [] [] [] :=
  ⟨hB, Tbl.nil _ _ _, Tbl.nil _ _ _, RowOf.nil _ _ _, (fun b h => by cases h), (fun b h => by cases h), (fun b h => by cases h)⟩
theorem Tabs3.ext {w w' : World} {B : Nat} {mo so io : Option Addr} {i mc j sc l ic : Nat} {R S : List (List Int)} {V : List Int} (h : Tabs3 w B mo i mc so j sc io l ic R S V) (hx : Ext w w') : Tabs3 w' B mo i mc so j sc io l ic R S V :=
  ⟨Nat.le_trans h.size hx.size, h.mul.ext hx, h.add.ext hx, hx.row h.inv, h.ma, h.mi, h.ai⟩
theorem Tabs3.beside {w : World} {B : Nat} {mo so io : Option Addr} {i mc j sc l ic : Nat} {R S : List (List Int)} {V : List Int} (h : Tabs3 w B mo i mc so j sc io l ic R S V) (a : Addr) (ha : a.block < B) (u : Value) : Tabs3 (w.setCell a u) B mo i mc so j sc io l ic R S V :=
  ⟨by simpa [World.setCell] using h.size, h.mul.beside a ha (fun g => by have := g.1; omega) u, h.add.beside a ha (fun g => by have := g.1; omega) u, h.inv.beside a ha u, h.ma, h.mi, h.ai⟩

/-- A row is put behind the products. -/
theorem Tabs3.mulOn {w w' : World} {B : Nat} {mo so io : Option Addr} {i mc j sc l ic : Nat} {R S : List (List Int)} {V : List Int} (h : Tabs3 w B mo i mc so j sc io l ic R S V) {vs : List Value} {mo' : Option Addr} {mc' : Nat} {y : Value} {r : List Int}
    (hvs : RowOf 27 w B mo i mc vs ∧ Rows2X w (fun b => B ≤ b ∧ some b ≠ (Value.slice so j sc).ownBlock ∧ some b ≠ (Value.slice io l ic).ownBlock) (Value.slice mo i mc).ownBlock vs R)
    (hy : InnerX w (fun b => B ≤ b ∧ some b ≠ (Value.slice so j sc).ownBlock ∧ some b ≠ (Value.slice io l ic).ownBlock) (Value.slice mo i mc).ownBlock y r)
    (hrow : RowOf 27 w' B mo' (i + 1) mc' (vs ++ [y])) (hg : w.grownBy w' (Value.slice mo i mc).ownBlock)
    (hat : (Value.slice mo' (i + 1) mc').ownBlock = (Value.slice mo i mc).ownBlock ∨ (Value.slice mo' (i + 1) mc').ownBlock = some w.heap.size) :
    Tabs3 w' B mo' (i + 1) mc' so j sc io l ic (R ++ [r]) S V := by
  have hab := fun b hb => (h.add.block b hb).2
  have hib := fun b hb => (h.inv.block b hb).2
  refine ⟨Nat.le_trans h.size hg.size, ⟨_, hrow, ?_⟩, ?_, h.inv.grown hg h.mi, h.ma.next hat hab, h.mi.next hat hib, h.ai⟩
  · have h3 := hvs.2.snoc hy
    exact ⟨h3.1, fun j v hv => (h3.2 j v hv).grown hg hat⟩
  · obtain ⟨us, h1, h2⟩ := h.add
    refine ⟨us, h1.grown hg h.ma, h2.1, fun j v hv => (h2.2 j v hv).next hg fun b hb hlt => ⟨hb.2.1, hb.1, fun e => ?_, hb.2.2⟩⟩
    rcases hat with e' | e'
    · rw [e'] at e; exact hb.2.1 e
    · rw [e'] at e; simp at e; omega
theorem Tabs3.swap {w : World} {B : Nat} {mo so io : Option Addr} {i mc j sc l ic : Nat} {R S : List (List Int)} {V : List Int} (h : Tabs3 w B mo i mc so j sc io l ic R S V) : Tabs3 w B so j sc mo i mc io l ic S R V :=
  ⟨h.size, h.add, h.mul, h.inv, h.ma.symm, h.ai, h.mi⟩
/-- .. behind the inverses. -/
theorem Tabs3.invOn {w w' : World} {B : Nat} {mo so io : Option Addr} {i mc j sc l ic : Nat} {R S : List (List Int)} {V : List Int} (h : Tabs3 w B mo i mc so j sc io l ic R S V) {io' : Option Addr} {ic' : Nat} {y : Int}
    (hrow : RowOf 3 w' B io' (l + 1) ic' (ints V ++ [.int .i64 y])) (hg : w.grownBy w' (Value.slice io l ic).ownBlock)
    (hat : (Value.slice io' (l + 1) ic').ownBlock = (Value.slice io l ic).ownBlock ∨ (Value.slice io' (l + 1) ic').ownBlock = some w.heap.size) :
    Tabs3 w' B mo i mc so j sc io' (l + 1) ic' R S (V ++ [y]) := by
  have hab := fun b hb => (h.add.block b hb).2
  have hmb := fun b hb => (h.mul.block b hb).2
  have hne : ∀ b, b < w.heap.size → some b ≠ (Value.slice io l ic).ownBlock → some b ≠ (Value.slice io' (l + 1) ic').ownBlock := fun b hlt hb e => by
    rcases hat with e' | e'
    · rw [e'] at e; exact hb e
    · rw [e'] at e; simp at e; omega
  refine ⟨Nat.le_trans h.size hg.size, ?_, ?_, by simpa [ints_append, ints_one] using hrow, h.ma, (h.mi.symm.next hat hmb).symm, (h.ai.symm.next hat hab).symm⟩
  · obtain ⟨us, h1, h2⟩ := h.mul
    exact ⟨us, h1.grown hg h.mi.symm, h2.1, fun j v hv => (h2.2 j v hv).next hg fun b hb hlt => ⟨hb.2.2, hb.1, hb.2.1, hne b hlt hb.2.2⟩⟩
  · obtain ⟨us, h1, h2⟩ := h.add
    exact ⟨us, h1.grown hg h.ai.symm, h2.1, fun j v hv => (h2.2 j v hv).next hg fun b hb hlt => ⟨hb.2.2, hb.1, hb.2.1, hne b hlt hb.2.2⟩⟩

/-- An own row reads as a row of a table. -/
theorem RowOf.innerOf {e : TypeId} {w : World} {B : Nat} {ao : Option Addr} {n cap : Nat} {xs : List Int} (h : RowOf e w B ao n cap (ints xs)) (P : Nat → Prop) (x : Option Nat) (hP : ∀ b, B ≤ b → (Value.slice ao n cap).ownBlock = some b → P b ∧ some b ≠ x) (hn : n ≤ maxLen) : InnerX w P x (.slice ao n cap) xs := by
  have hl : xs.length = n := by have := h.length; rwa [ints_length] at this
  refine ⟨ao, cap, by rw [hl], by omega, ?_⟩
  by_cases h0 : 0 < n
  · obtain ⟨g, rfl, h1, h2, h3, _⟩ := h.opened h0
    obtain ⟨h5, h6⟩ := hP g h1 rfl
    exact .inr ⟨g, 0, rfl, h2, h5, h6, fun j u hu => by rw [Nat.zero_add]; exact h3 j u hu⟩
  · exact .inl (List.eq_nil_of_length_eq_zero (by omega))

end Go.Proofs.YthkafhmciapipaaDoor

/- What parterreref3.Open, Shut and added answer. No conditions but a field. -/
namespace Go.Proofs.YthkafhmciapipaaDoor
open Go.RowKit
set_option linter.unusedVariables false

set_option maxHeartbeats 400000 in
theorem digitsOf_big (p a k : Nat) (w : World) (hp : 2 ≤ p) (h64 : p ≤ 64) (ha : a < 100000) (hk : k ≤ 64) :
    Calls Tryd.prog 44 #[.int .i64 a, .int .i64 p, .int .i64 k] w fun e w' => ∃ v, e = .returned v ∧ OwnInts w w' v (tab (fun i => ((a / p ^ i % p : Nat) : Int)) k) := by
  go_enter Tryd.func44, Tryd.ntmps44
  go_wp2
  have H0 : Hid (OwnInts w w (.slice none 0 0) (tab (fun i => ((a / p ^ i % p : Nat) : Int)) 0)) := OwnInts.nil (Ext.refl w)
  go_loopw [0, 7, 8] (fun n y x wr => ∃ i A : Nat, i ≤ k ∧ x = .int .i64 i ∧ n = .int .i64 A ∧ A < 100000 ∧ Hid (A = a / p ^ i) ∧ OwnInts w wr y (tab (fun i => ((a / p ^ i % p : Nat) : Int)) i)) (fun _ _ x _ => k - (intOf x).toNat)
  case atStart => exact ⟨0, a, by omega, rfl, rfl, ha, by show _ = _; simp, H0.out⟩
  case round =>
    obtain ⟨i, A, hi, rfl, rfl, hA, HA, hT⟩ := hrel
    clear H0
    obtain ⟨ao, n, cap, rfl, hrow, hx⟩ := hT
    have hn : n ≤ i := by have := hrow.length; rw [ints_length, tab_length] at this; omega
    have HROW := Lib.hid hrow
    have HX := Lib.hid hx
    have hsz := hx.size
    clear hrow hx
    by_cases hik : i < k
    · obtain ⟨d, hd⟩ : ∃ d, A % p = d := ⟨_, rfl⟩
      obtain ⟨B, hB⟩ : ∃ B, A / p = B := ⟨_, rfl⟩
      have hd' : (A : Int) % p = d := by rw [← hd]; simp
      have hB' : (A : Int) / p = B := by rw [← hB]; simp
      have hBA : B ≤ A := by rw [← hB]; exact Nat.div_le_self _ _
      have HB : Hid (B = a / p ^ (i + 1)) := by show _ = _; rw [← hB, HA.out, Nat.div_div_eq_div_mul, Nat.pow_succ]
      have HD : Hid (tab (fun i => ((a / p ^ i % p : Nat) : Int)) (i + 1) = tab (fun i => ((a / p ^ i % p : Nat) : Int)) i ++ [(d : Int)]) := by show _ = _; rw [tab, ← hd, HA.out]
      clear hd hB
      go_wp2_with (at_builtin; refine wpList_appInt eInt rfl (.tmp 14) (.tmp 18) rfl w.heap.size (by rfl) HROW.out (by rfl) (by omega) (by omega) ?_; intro ao4 cap4 w4 hr4 hg4 hb4; have HR4 := Lib.hid hr4; have HB4 := Lib.hid (hb4 _ _ HX.out (Nat.le_refl _)); clear hr4 hg4 hb4)
      exact ⟨⟨i + 1, B, by omega, by go_num, rfl, by omega, HB, by rw [HD.out]; exact ⟨_, _, _, rfl, by rw [ints_append]; exact HR4.out, HB4.out⟩⟩, by simp [intOf]; omega⟩
    · obtain rfl : k = i := by omega
      go_wp2
      go_ret
      exact ⟨_, rfl, _, _, _, rfl, HROW.out, HX.out⟩

theorem size_is (p k : Nat) (ao : Option Addr) (len cap : Nat) (low : List Int) (w : World) (hF : IsField p k low) :
    Calls Tryd.prog 26 #[.agg #[.int .i64 p, .int .i64 k, .slice ao len cap]] w fun e w' => e = .returned (.int .i64 (p ^ k : Nat)) ∧ Ext w w' := by
  have h := size_any p k ao len cap w
  rw [hF.fault.2] at h
  exact h

set_option maxHeartbeats 2000000 in
theorem openOf_any (p k n c : Nat) (ao : Option Addr) (len cap : Nat) (low : List Int) (w : World) (hF : IsField p k low) (hn1 : 1 ≤ n) (hn6 : n ≤ 6) (hc : c < 100000) :
    Calls Tryd.prog 34 #[.agg #[.int .i64 p, .int .i64 k, .slice ao len cap], .int .i64 n, .int .i64 c] w fun e w' => ∃ g cap', e = .returned (.slice (some ⟨g, 0, none⟩) n cap') ∧ OwnF w w' g n cap' (fun i => ((opn (p ^ k) n c i : Nat) : Int)) := by
  have hq2 : 2 ≤ p ^ k := one_lt_pow' hF.p2 hF.k1
  have h64 := hF.big
  have HS : Hid (∀ w, _) := fun w => size_is p k ao len cap low w hF
  obtain ⟨q, hq⟩ : ∃ q, p ^ k = q := ⟨_, rfl⟩
  rw [hq] at hq2 h64 HS ⊢
  have HD : Hid (∀ w, _) := fun w => digitsOf_big q c n w hq2 h64 hc (by omega)
  have E0 := Lib.hid (ext_box w #[.int .i64 p, .int .i64 k, .slice ao len cap] 29)
  have k0 := (Blk.new w #[.int .i64 p, .int .i64 k, .slice ao len cap] 29).three
  clear hF hq
  go_enter Tryd.func34, Tryd.ntmps34
  go_wp2_with fail
  refine Calls.mono (HS.out _) ?_
  rintro e w1 ⟨rfl, hx⟩
  have E1 := Lib.hid (E0.out.trans hx)
  clear hx k0
  go_wp2_with fail
  refine Calls.mono (HD.out _) ?_
  rintro e w2 ⟨v, rfl, hv⟩
  obtain ⟨gd, cd, rfl, hof⟩ := hv.f (by omega)
  have HDF := Lib.hid hof
  have E2 := Lib.hid (E1.out.trans hof.ext)
  have hmk := mk_ints n (by omega) w2
  have H0 : Hid (OwnF w2 (w2.alloc (.cells (madeCells #[.int .i64 0] n) 3)) w2.heap.size n n (fun _ => 0)) := ⟨(Ext.refl _).alloc _, by rw [← tab_zero]; exact RowOf.made w2 n (by omega) rfl⟩
  clear hv hof
  go_wp2
  obtain ⟨w3, hw3⟩ : ∃ w3, w3 = w2.alloc (.cells (madeCells #[.int .i64 0] n) 3) := ⟨_, rfl⟩
  obtain ⟨g, hg⟩ : ∃ g, g = w2.heap.size := ⟨_, rfl⟩
  have hs3 : g < w3.heap.size := by rw [hw3, hg]; simp
  rw [← hw3, ← hg] at H0
  rw [← hw3, ← hg]
  have HGE := Lib.hid hg
  clear hmk hw3 hg
  go_loopg [10] n (fun r x wr => ∃ i : Nat, i + r = n ∧ x = .int .i64 i ∧ OwnF w2 wr g n n (fun j => if j < i then ((opn q n c j : Nat) : Int) else 0))
  case atStart => exact ⟨0, by omega, rfl, H0.out.congr fun j _ => by rw [if_neg (by omega)]⟩
  case round =>
    obtain ⟨i, hir, rfl, ho⟩ := hrel
    have HO := Lib.hid ho
    clear ho H0
    cases gk with
    | zero =>
      obtain rfl : i = n := by omega
      go_wp2
      go_ret
      refine ⟨g, i, rfl, E2.out.trans HO.out.ext, ?_⟩
      have h := HO.out.congr (f' := fun j => ((opn q i c j : Nat) : Int)) fun j hj => by rw [if_pos hj]
      exact h.row.mono (E2.out.size)
    | succ r1 =>
      have hin : (i : Int) < (n : Int) := by omega
      have hin' : i < n := by omega
      have hdx : n - 1 - i < n := by omega
      have t1 := (HDF.out.carry HO.out.ext).at hdx
      have t2 := HO.out.at hin'
      have t3 := HO.out.f i
      obtain ⟨d, hd⟩ : ∃ d, n - 1 - i = d := ⟨_, rfl⟩
      have HSET := Lib.hid (HO.out.set hin' ((opn q n c i : Nat) : Int))
      have HV : Hid (((c / q ^ d % q : Nat) : Int) = ((opn q n c i : Nat) : Int)) := by show _ = _; rw [← hd]; rfl
      rw [hd] at t1 hdx
      rw [HV.out] at t1
      have hd' : (n : Int) - 1 - i = d := by omega
      have hd0 : (0 : Int) ≤ (d : Int) := by omega
      obtain ⟨x, hx⟩ : ∃ x, ((opn q n c i : Nat) : Int) = x := ⟨_, rfl⟩
      rw [hx] at t1 HSET HV
      have HX := Lib.hid hx
      clear hd hx
      go_wp2
      go_roundg r1
      case measure => omega
      case rel => exact ⟨i + 1, by omega, by go_num, HSET.out.congr fun j hj => by
        unfold upd
        by_cases e : j = i
        · subst e; rw [if_pos rfl, if_pos (by omega)]; exact HX.out.symm
        · rw [if_neg e]
          show (if j < i then ((opn q n c j : Nat) : Int) else 0) = _
          by_cases h : j < i
          · rw [if_pos h, if_pos (by omega)]
          · rw [if_neg h, if_neg (by omega)]⟩

set_option maxHeartbeats 2000000 in
theorem shutOf_any (p k n : Nat) (ao vo : Option Addr) (len cap vcap : Nat) (low : List Int) (f : Nat → Nat) (w : World) (hF : IsField p k low) (hn6 : n ≤ 6) (hbig : (p ^ k) ^ n ≤ 4096) (hf : ∀ j, j < n → f j < p ^ k) (hr : Reads w vo (ints (tab (fun j => ((f j : Nat) : Int)) n))) :
    Calls Tryd.prog 20 #[.agg #[.int .i64 p, .int .i64 k, .slice ao len cap], .slice vo n vcap] w fun e w' => e = .returned (.int .i64 (shutN (p ^ k) n f : Nat)) ∧ Ext w w' := by
  have hq2 : 2 ≤ p ^ k := one_lt_pow' hF.p2 hF.k1
  have h64 := hF.big
  have HS : Hid (∀ w, _) := fun w => size_is p k ao len cap low w hF
  obtain ⟨q, hq⟩ : ∃ q, p ^ k = q := ⟨_, rfl⟩
  rw [hq] at hq2 h64 HS hbig hf ⊢
  have HB : Hid (∀ i, i ≤ n → shutTo q f i < 4096 + 1) := fun i hi => by
    have h1 := shutTo_lt (f := f) (by omega) i fun j hj => hf j (by omega)
    have h2 : q ^ i ≤ q ^ n := Nat.pow_le_pow_right (by omega) hi
    omega
  have HST : Hid (∀ i, shutTo q f (i + 1) = shutTo q f i * q + f i) := fun i => by show _ = _; rfl
  have HV : Hid (shutN q n f = shutTo q f n) := rfl
  have HR := Lib.hid hr
  have HFL := Lib.hid hf
  have E0 := Lib.hid (ext_box w #[.int .i64 p, .int .i64 k, .slice ao len cap] 29)
  have k0 := (Blk.new w #[.int .i64 p, .int .i64 k, .slice ao len cap] 29).three
  clear hF hq hbig hf hr
  go_enter Tryd.func20, Tryd.ntmps20
  go_wp2_with fail
  refine Calls.mono (HS.out _) ?_
  rintro e w1 ⟨rfl, hx⟩
  have E1 := Lib.hid (E0.out.trans hx)
  clear hx k0
  go_wp2
  go_loopg [6, 7] n (fun r y x wr => ∃ i : Nat, i + r = n ∧ x = .int .i64 i ∧ y = .int .i64 (shutTo q f i : Nat) ∧ w1 = wr)
  case atStart => exact ⟨0, by omega, rfl, rfl, rfl⟩
  case round =>
    obtain ⟨i, hir, rfl, rfl, rfl⟩ := hrel
    cases gk with
    | zero =>
      obtain rfl : i = n := by omega
      obtain ⟨u, hu⟩ : ∃ u, shutTo q f i = u := ⟨_, rfl⟩
      have HU := Lib.hid hu
      rw [hu]
      clear hu
      go_wp2
      go_ret
      exact ⟨by rw [HV.out, HU.out]; rfl, E1.out⟩
    | succ r1 =>
      have hin : (i : Int) < (n : Int) := by omega
      have hin' : i < n := by omega
      obtain ⟨b, off, rfl, hb, hc⟩ := HR.out.int (by rw [tab_length]; omega)
      have t1 := (E1.out.cell hb).trans (hc i (by rw [tab_length]; exact hin'))
      rw [nth_tab _ _ _ hin'] at t1
      have h1 := HB.out i (by omega)
      have h2 := HB.out (i + 1) (by omega)
      have h3 := HFL.out i hin'
      have h4 := HST.out i
      obtain ⟨u, hu⟩ : ∃ u, shutTo q f i = u := ⟨_, rfl⟩
      obtain ⟨v, hv⟩ : ∃ v, shutTo q f (i + 1) = v := ⟨_, rfl⟩
      obtain ⟨x, hx⟩ : ∃ x, f i = x := ⟨_, rfl⟩
      rw [hu, hv, hx] at h4
      rw [hu] at h1 ⊢
      rw [hv] at h2
      rw [hx] at t1 h3
      obtain ⟨m, hm⟩ : ∃ m, u * q = m := ⟨_, rfl⟩
      have hm' : (u : Int) * (q : Int) = m := by rw [← hm, Int.natCast_mul]
      rw [hm] at h4
      have HVV : Hid (((m : Int) + x) = (shutTo q f (i + 1) : Nat)) := by show _ = _; rw [hv]; omega
      have hmx : m + x < 4097 := by omega
      clear hc hu hv hx hm h4 h2
      go_wp2
      go_roundg r1
      case measure => omega
      case rel => exact ⟨i + 1, by omega, by go_num, by rw [← HVV.out], rfl⟩

set_option maxHeartbeats 4000000 in
theorem added_any (p k n c : Nat) (ao vo : Option Addr) (len cap vcap : Nat) (low : List Int) (f : Nat → Nat) (w : World) (hF : IsField p k low) (hn1 : 1 ≤ n) (hn6 : n ≤ 6) (hbig : (p ^ k) ^ n ≤ 4096) (hc : c < 100000) (hf : ∀ j, j < n → f j < p ^ k) (hr : Reads w vo (ints (tab (fun j => ((f j : Nat) : Int)) n))) :
    Calls Tryd.prog 33 #[.agg #[.int .i64 p, .int .i64 k, .slice ao len cap], .int .i64 n, .int .i64 c, .slice vo n vcap] w fun e w' => e = .returned (.int .i64 (shutN (p ^ k) n (fun j => addF p k (opn (p ^ k) n c j) (f j)) : Nat)) ∧ Ext w w' := by
  have hp0 : 0 < p := by have := hF.p2; omega
  have hq0 : 0 < p ^ k := Nat.pow_pos hp0
  have h64 := hF.big
  have HOP : Hid (∀ w, _) := fun w => openOf_any p k n c ao len cap low w hF hn1 hn6 hc
  have HSU : Hid (∀ w a b, a < 128 → b < 128 → _) := fun w a b ha hb => sumOf_any p k a b ao len cap w hF.p2 hF.p61 hF.k1 hF.k6 h64 ha hb
  have HSH : Hid (∀ vo vcap W, Reads W vo (ints (tab (fun j => ((addF p k (opn (p ^ k) n c j) (f j) : Nat) : Int)) n)) → _) := fun vo vcap W h => shutOf_any p k n ao vo len cap vcap low (fun j => addF p k (opn (p ^ k) n c j) (f j)) W hF hn6 hbig (fun j _ => addF_lt hp0 _ _) h
  have HOL : Hid (∀ j, opn (p ^ k) n c j < 128) := fun j => by have := opn_lt (n := n) (c := c) (i := j) hq0; omega
  have HFL : Hid (∀ j, j < n → f j < 128) := fun j hj => by have := hf j hj; omega
  have HR := Lib.hid hr
  have E0 := Lib.hid (ext_box w #[.int .i64 p, .int .i64 k, .slice ao len cap] 29)
  have F0 := Lib.hid (Blk.new w #[.int .i64 p, .int .i64 k, .slice ao len cap] 29)
  have k0 := F0.out.three
  obtain ⟨G, hG⟩ : ∃ G : Nat → Nat, (fun j => addF p k (opn (p ^ k) n c j) (f j)) = G := ⟨_, rfl⟩
  obtain ⟨O, hO⟩ : ∃ O : Nat → Nat, (fun j => opn (p ^ k) n c j) = O := ⟨_, rfl⟩
  have HG : Hid (∀ j, addF p k (O j) (f j) = G j) := fun j => by show _ = _; rw [← hG, ← hO]
  have hSH2 : (∀ vo vcap W, Reads W vo (ints (tab (fun j => ((G j : Nat) : Int)) n)) → Calls Tryd.prog 20 #[.agg #[.int .i64 p, .int .i64 k, .slice ao len cap], .slice vo n vcap] W fun e w' => e = .returned (.int .i64 (shutN (p ^ k) n G : Nat)) ∧ Ext W w') := fun vo vcap W h => by
    have := HSH.out vo vcap W (by subst hG; exact h)
    rw [hG] at this; exact this
  have HSH2 := Lib.hid hSH2
  have HOP2 : Hid (∀ w, Calls Tryd.prog 34 #[.agg #[.int .i64 p, .int .i64 k, .slice ao len cap], .int .i64 n, .int .i64 c] w fun e w' => ∃ g cap', e = .returned (.slice (some ⟨g, 0, none⟩) n cap') ∧ OwnF w w' g n cap' (fun i => ((O i : Nat) : Int))) := fun w => by
    have := HOP.out w; subst hO; exact this
  have HOL2 : Hid (∀ j, O j < 128) := fun j => by subst hO; exact HOL.out j
  rw [hG]
  obtain ⟨res, hres⟩ : ∃ r, shutN (p ^ k) n G = r := ⟨_, rfl⟩
  rw [hres] at HSH2 ⊢
  clear hF hf hr hG hO HSH HOP HOL hSH2 hres hbig hq0 h64
  go_enter Tryd.func33, Tryd.ntmps33
  go_wp2_with fail
  refine Calls.mono (HOP2.out _) ?_
  rintro e w1 ⟨g, cg, rfl, ho⟩
  have E1 := Lib.hid (E0.out.trans ho.ext)
  have F1 := Lib.hid (F0.out.ext ho.ext)
  have HO := Lib.hid ho
  obtain ⟨w0, hw0⟩ : ∃ w0, w0 = w.alloc (.cells #[.int .i64 p, .int .i64 k, .slice ao len cap] 29) := ⟨_, rfl⟩
  rw [← hw0] at HO E0 F0
  clear ho k0 hw0
  go_wp2
  go_loopg [10] n (fun r x wr => ∃ i : Nat, i + r = n ∧ x = .int .i64 i ∧ OwnF w0 wr g n cg (fun j => ((if j < i then G j else O j : Nat) : Int)))
  case atStart => exact ⟨0, by omega, rfl, HO.out.congr fun j _ => by rw [if_neg (by omega)]⟩
  case round =>
    obtain ⟨i, hir, rfl, ho⟩ := hrel
    have HOW := Lib.hid ho
    have FW := Lib.hid (F0.out.ext ho.ext)
    clear ho HO
    cases gk with
    | zero =>
      obtain rfl : i = n := by omega
      have h1 := HOW.out.congr (f' := fun j => ((G j : Nat) : Int)) fun j hj => by rw [if_pos hj]
      have HC := Lib.hid (HSH2.out (some ⟨g, 0, none⟩) cg wr h1.reads)
      have EW := Lib.hid (E0.out.trans HOW.out.ext)
      have k1 := FW.out.three
      clear h1
      go_wp2_with fail
      refine Calls.mono HC.out ?_
      rintro e w9 ⟨rfl, hx⟩
      have E9 := Lib.hid (EW.out.trans hx)
      clear hx
      go_wp2
      go_ret
      exact ⟨rfl, E9.out⟩
    | succ r1 =>
      have hin : (i : Int) < (n : Int) := by omega
      have hin' : i < n := by omega
      obtain ⟨b, off, rfl, hb, hc⟩ := HR.out.int (by rw [tab_length]; omega)
      have t1 := ((E0.out.trans HOW.out.ext).cell hb).trans (hc i (by rw [tab_length]; exact hin'))
      rw [nth_tab _ _ _ hin'] at t1
      have t2 := HOW.out.at hin'
      rw [if_neg (by omega)] at t2
      have t0 := FW.out.three
      have HSUM := HSU.out wr.drew (O i) (f i) (HOL2.out i) (HFL.out i hin')
      rw [HG.out i] at HSUM
      obtain ⟨x, hx⟩ : ∃ x, O i = x := ⟨_, rfl⟩
      obtain ⟨y, hy⟩ : ∃ y, f i = y := ⟨_, rfl⟩
      obtain ⟨z, hz⟩ : ∃ z, G i = z := ⟨_, rfl⟩
      rw [hx, hy, hz] at HSUM
      rw [hx] at t2
      rw [hy] at t1
      have HSUM := Lib.hid HSUM
      have HZ := Lib.hid hz
      clear hc hx hy hz
      have HEN : ∀ (args : Array Value) (w : World), (callFunc 37 args).run Tryd.prog w = .ok (.enter 37 args) w := fun _ _ => rfl
      have HEN := Lib.hid HEN
      go_upto_region 5 with fail
      go_region_law (first | (refine step_callS (f := 37) (xs := #[.tmp 23, .tmp 27, .tmp 31]) (ats := #[29, 3, 3]) (args := #[.agg #[.int .i64 p, .int .i64 k, .slice ao len cap], .int .i64 x, .int .i64 y]) (R := fun w' => Ext wr.drew w') (.int .i64 z) ?_ ?_ HEN.out ?_ HSUM.out ?_; (next => rfl); (next => rfl); (next => simp [Act.eval]; done); intro w5 hx5; have HX5 := Lib.hid ((Ext.refl wr).drew.trans hx5); have HO5 := Lib.hid (HOW.out.carry HX5.out); have t5 := HO5.out.at hin'; have t6 := HO5.out.f i; clear hx5))
      all_goals
        go_wp2
        go_roundg r1
        case measure => omega
        case rel => exact ⟨i + 1, by omega, by go_num, (HO5.out.set hin' z).congr fun j hj => by
          unfold upd
          by_cases e : j = i
          · subst e; rw [if_pos rfl, if_pos (by omega), HZ.out]
          · rw [if_neg e]
            show ((if j < i then G j else O j : Nat) : Int) = _
            by_cases h : j < i
            · rw [if_pos h, if_pos (by omega)]
            · rw [if_neg h, if_neg (by omega)]⟩

end Go.Proofs.YthkafhmciapipaaDoor
