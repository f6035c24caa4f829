/- slices.Index and slices.Contains of ints. Conditions: as the theorems say. -/
import Derived.Test.YtnhdngnolepkcaaDoorJpihnipoceb
import Derived.Test.YtnhdngnolepkcaaDoorJmanplccnef
import Derived.Test.YtnhdngnolepkcaaDoorJpipkoabajk
namespace Go.Proofs.YtnhdngnolepkcaaDoor
open Go.RowKit

set_option maxHeartbeats 400000 in
theorem index_any (ao : Option Addr) (n cap : Nat) (xs : List Int) (v : Int) (w : World) (hn : xs.length = n) (hbig : n ≤ maxLen) (hr : Reads w ao (ints xs)) :
    Calls Tryd.prog 61 #[.slice ao n cap, .int .i64 v] w fun e w' => e = .returned (.int .i64 (idxFrom (fun x => v == x) xs 0)) ∧ w' = w := by
  unfold maxLen at hbig
  have HN := Lib.hid hn
  have HR := Lib.hid hr
  clear hn hr
  go_enter Tryd.func61, Tryd.ntmps61
  go_wp2
  go_loop [8] (fun i => ∃ k : Nat, k ≤ n ∧ i = .int .i64 k ∧ ∀ i, i < k → (v == nth xs i) = false) (fun i => n - (intOf i).toNat)
  case atStart => exact ⟨0, by omega, rfl, fun i hi => by omega⟩
  case round =>
    obtain ⟨k, hk, rfl, hall⟩ := hrel
    have HA := Lib.hid hall
    clear hall
    by_cases hlt : k < n
    · obtain ⟨b, off, rfl, hb, hc⟩ := Reads.int HR.out (by rw [HN.out]; omega)
      have hck := hc k (by rw [HN.out]; omega)
      clear hc
      cases hpx : (v == nth xs k) with
      | true =>
        have HX := Lib.hid hpx
        go_wp2
        go_ret
        exact ⟨by rw [idxFrom_hit (fun x => v == x) xs 0 k (by rw [HN.out]; omega) HX.out HA.out]; simp, rfl⟩
      | false =>
        have HX := Lib.hid hpx
        go_wp2
        go_round
        case rel => exact ⟨k + 1, by omega, by go_num, fun i hi => by
          rcases Nat.lt_succ_iff_lt_or_eq.1 hi with h | rfl
          · exact HA.out i h
          · exact HX.out⟩
        case measure => simp [intOf]; omega
    · go_wp2
      go_ret
      exact ⟨by rw [idxFrom_miss (fun x => v == x) xs 0 (fun i hi => HA.out i (by rw [HN.out] at hi; omega))]; simp, rfl⟩

theorem any_contains (xs : List Int) (v : Int) : xs.any (fun x => v == x) = xs.contains v := by
  induction xs with
  | nil => rfl
  | cons x xs ih => rw [List.any_cons, List.contains_cons, ih]

set_option maxHeartbeats 400000 in
theorem contains_any (ao : Option Addr) (n cap : Nat) (xs : List Int) (v : Int) (w : World) (hn : xs.length = n) (hbig : n ≤ maxLen) (hr : Reads w ao (ints xs)) :
    Calls Tryd.prog 60 #[.slice ao n cap, .int .i64 v] w fun e w' => e = .returned (.bool (xs.contains v)) ∧ w' = w := by
  have H := Lib.hid (index_any ao n cap xs v w hn hbig hr)
  have HA := Lib.hid (idxFrom_any (fun x => v == x) xs 0)
  have HB := Lib.hid (any_contains xs v)
  clear hn hbig hr
  generalize idxFrom (fun x => v == x) xs 0 = r at *
  go_enter Tryd.func60, Tryd.ntmps60
  go_wp2_with (go_at_call 61; refine H.out.mono ?_; rintro e w' ⟨rfl, rfl⟩)
  go_ret
  exact ⟨by rw [← HB.out, ← HA.out]; rfl, rfl⟩

end Go.Proofs.YtnhdngnolepkcaaDoor

/- What a room is in memory, and its tables while they are made. Plain but for the words of the walk. -/
namespace Go.Proofs.YtnhdngnolepkcaaDoor
open Go.RowKit

/-- The list of what a function gives at 0, 1, .. -/
def ltab (g : Nat → List Int) : Nat → List (List Int)
  | 0 => []
  | k + 1 => ltab g k ++ [g k]
theorem ltab_length (g : Nat → List Int) : ∀ k, (ltab g k).length = k
  | 0 => rfl
  | k + 1 => by rw [ltab, List.length_append, ltab_length g k]; rfl
theorem row_ltab (g : Nat → List Int) : ∀ k j, j < k → row (ltab g k) j = g j
  | k + 1, j, h => by
    rw [ltab]
    by_cases hj : j < k
    · rw [row_append_left _ _ _ (by rw [ltab_length]; exact hj), row_ltab g k j hj]
    · obtain rfl : j = k := by omega
      have := row_append_end (ltab g j) (g j)
      rwa [ltab_length] at this

/-- The tables of a field: products, sums, inverses (as the program finds them). -/
def mulR (p k : Nat) (low : List Int) (q a : Nat) : List Int := tab (fun b => (mulF p k (nth low) a b : Nat)) q
def addR (p k q a : Nat) : List Int := tab (fun b => (addF p k a b : Nat)) q
def invI (p k : Nat) (low : List Int) (q a : Nat) : Int := idxFrom (fun x => (1 : Int) == x) (mulR p k low q a) 0

/-- A room in memory. -/
structure RoomAt (w : World) (b : Nat) (p k : Nat) (low : List Int) (n : Nat) : Prop where
  lt : b < w.heap.size
  ex : ∃ (fo mo so io : Option Addr) (fc mc sc ic : Nat), Blk w b #[.int .i64 p, .int .i64 k, .slice fo k fc, .int .i64 n, .int .i64 (p ^ k : Nat), .slice mo (p ^ k) mc, .slice so (p ^ k) sc, .slice io (p ^ k) ic] 89 ∧
    ReadsL w mo (ltab (mulR p k low (p ^ k)) (p ^ k)) ∧ ReadsL w so (ltab (addR p k (p ^ k)) (p ^ k)) ∧ Reads w io (ints (tab (invI p k low (p ^ k)) (p ^ k)))
theorem RoomAt.ext {w w' : World} {b p k : Nat} {low : List Int} {n : Nat} (h : RoomAt w b p k low n) (hx : Ext w w') : RoomAt w' b p k low n := by
  obtain ⟨fo, mo, so, io, fc, mc, sc, ic, h1, h2, h3, h4⟩ := h.ex
  exact ⟨Nat.lt_of_lt_of_le h.lt hx.size, fo, mo, so, io, fc, mc, sc, ic, h1.ext hx, h2.ext hx, h3.ext hx, hx.reads h4⟩

/-- The three tables of a room that is being made: v, u of rows, x of ints; their blocks and those of their rows lie from B on, apart. -/
structure Tabs3 (w : World) (B : Nat) (mo : Option Addr) (i mc : Nat) (so : Option Addr) (j sc : Nat) (io : Option Addr) (l ic : Nat) (R S : List (List Int)) (V : List Int) : Prop where
  size : B ≤ w.heap.size
  mul : Tbl w (fun b => B ≤ b ∧ some b ≠ (Value.slice so j sc).ownBlock ∧ some b ≠ (Value.slice io l ic).ownBlock) B mo i mc R
  add : Tbl w (fun b => B ≤ b ∧ some b ≠ (Value.slice mo i mc).ownBlock ∧ some b ≠ (Value.slice io l ic).ownBlock) B so j sc S
  inv : RowOf 3 w B io l ic (ints V)
  ma : Apart (.slice mo i mc) (.slice so j sc)
  mi : Apart (.slice mo i mc) (.slice io l ic)
  ai : Apart (.slice so j sc) (.slice io l ic)

theorem Tabs3.nil (w : World) {B : Nat} (hB : B ≤ w.heap.size) : Tabs3 w B none 0 0 none 0 0 none 0 0 [] [] [] :=
  ⟨hB, Tbl.nil _ _ _, Tbl.nil _ _ _, RowOf.nil _ _ _, (fun b h => by cases h), (fun b h => by cases h), (fun b h => by cases h)⟩
theorem Tabs3.ext {w w' : World} {B : Nat} {mo so io : Option Addr} {i mc j sc l ic : Nat} {R S : List (List Int)} {V : List Int} (h : Tabs3 w B mo i mc so j sc io l ic R S V) (hx : Ext w w') : Tabs3 w' B mo i mc so j sc io l ic R S V :=
  ⟨Nat.le_trans h.size hx.size, h.mul.ext hx, h.add.ext hx, hx.row h.inv, h.ma, h.mi, h.ai⟩
theorem Tabs3.beside {w : World} {B : Nat} {mo so io : Option Addr} {i mc j sc l ic : Nat} {R S : List (List Int)} {V : List Int} (h : Tabs3 w B mo i mc so j sc io l ic R S V) (a : Addr) (ha : a.block < B) (u : Value) : Tabs3 (w.setCell a u) B mo i mc so j sc io l ic R S V :=
  ⟨by simpa [World.setCell] using h.size, h.mul.beside a ha (fun g => by have := g.1; omega) u, h.add.beside a ha (fun g => by have := g.1; omega) u, h.inv.beside a ha u, h.ma, h.mi, h.ai⟩

/-- A row is put behind the products. -/
theorem Tabs3.mulOn {w w' : World} {B : Nat} {mo so io : Option Addr} {i mc j sc l ic : Nat} {R S : List (List Int)} {V : List Int} (h : Tabs3 w B mo i mc so j sc io l ic R S V) {vs : List Value} {mo' : Option Addr} {mc' : Nat} {y : Value} {r : List Int}
    (hvs : RowOf 22 w B mo i mc vs ∧ Rows2X w (fun b => B ≤ b ∧ some b ≠ (Value.slice so j sc).ownBlock ∧ some b ≠ (Value.slice io l ic).ownBlock) (Value.slice mo i mc).ownBlock vs R)
    (hy : InnerX w (fun b => B ≤ b ∧ some b ≠ (Value.slice so j sc).ownBlock ∧ some b ≠ (Value.slice io l ic).ownBlock) (Value.slice mo i mc).ownBlock y r)
    (hrow : RowOf 22 w' B mo' (i + 1) mc' (vs ++ [y])) (hg : w.grownBy w' (Value.slice mo i mc).ownBlock)
    (hat : (Value.slice mo' (i + 1) mc').ownBlock = (Value.slice mo i mc).ownBlock ∨ (Value.slice mo' (i + 1) mc').ownBlock = some w.heap.size) :
    Tabs3 w' B mo' (i + 1) mc' so j sc io l ic (R ++ [r]) S V := by
  have hab := fun b hb => (h.add.block b hb).2
  have hib := fun b hb => (h.inv.block b hb).2
  refine ⟨Nat.le_trans h.size hg.size, ⟨_, hrow, ?_⟩, ?_, h.inv.grown hg h.mi, h.ma.next hat hab, h.mi.next hat hib, h.ai⟩
  · have h3 := hvs.2.snoc hy
    exact ⟨h3.1, fun j v hv => (h3.2 j v hv).grown hg hat⟩
  · obtain ⟨us, h1, h2⟩ := h.add
    refine ⟨us, h1.grown hg h.ma, h2.1, fun j v hv => (h2.2 j v hv).next hg fun b hb hlt => ⟨hb.2.1, hb.1, fun e => ?_, hb.2.2⟩⟩
    rcases hat with e' | e'
    · rw [e'] at e; exact hb.2.1 e
    · rw [e'] at e; simp at e; omega
theorem Tabs3.swap {w : World} {B : Nat} {mo so io : Option Addr} {i mc j sc l ic : Nat} {R S : List (List Int)} {V : List Int} (h : Tabs3 w B mo i mc so j sc io l ic R S V) : Tabs3 w B so j sc mo i mc io l ic S R V :=
  ⟨h.size, h.add, h.mul, h.inv, h.ma.symm, h.ai, h.mi⟩
/-- .. behind the inverses. -/
theorem Tabs3.invOn {w w' : World} {B : Nat} {mo so io : Option Addr} {i mc j sc l ic : Nat} {R S : List (List Int)} {V : List Int} (h : Tabs3 w B mo i mc so j sc io l ic R S V) {io' : Option Addr} {ic' : Nat} {y : Int}
    (hrow : RowOf 3 w' B io' (l + 1) ic' (ints V ++ [.int .i64 y])) (hg : w.grownBy w' (Value.slice io l ic).ownBlock)
    (hat : (Value.slice io' (l + 1) ic').ownBlock = (Value.slice io l ic).ownBlock ∨ (Value.slice io' (l + 1) ic').ownBlock = some w.heap.size) :
    Tabs3 w' B mo i mc so j sc io' (l + 1) ic' R S (V ++ [y]) := by
  have hab := fun b hb => (h.add.block b hb).2
  have hmb := fun b hb => (h.mul.block b hb).2
  have hne : ∀ b, b < w.heap.size → some b ≠ (Value.slice io l ic).ownBlock → some b ≠ (Value.slice io' (l + 1) ic').ownBlock := fun b hlt hb e => by
    rcases hat with e' | e'
    · rw [e'] at e; exact hb e
    · rw [e'] at e; simp at e; omega
  refine ⟨Nat.le_trans h.size hg.size, ?_, ?_, by simpa [ints_append, ints_one] using hrow, h.ma, (h.mi.symm.next hat hmb).symm, (h.ai.symm.next hat hab).symm⟩
  · obtain ⟨us, h1, h2⟩ := h.mul
    exact ⟨us, h1.grown hg h.mi.symm, h2.1, fun j v hv => (h2.2 j v hv).next hg fun b hb hlt => ⟨hb.2.2, hb.1, hb.2.1, hne b hlt hb.2.2⟩⟩
  · obtain ⟨us, h1, h2⟩ := h.add
    exact ⟨us, h1.grown hg h.ai.symm, h2.1, fun j v hv => (h2.2 j v hv).next hg fun b hb hlt => ⟨hb.2.2, hb.1, hb.2.1, hne b hlt hb.2.2⟩⟩

/-- An own row reads as a row of a table. -/
theorem RowOf.innerOf {e : TypeId} {w : World} {B : Nat} {ao : Option Addr} {n cap : Nat} {xs : List Int} (h : RowOf e w B ao n cap (ints xs)) (P : Nat → Prop) (x : Option Nat) (hP : ∀ b, B ≤ b → (Value.slice ao n cap).ownBlock = some b → P b ∧ some b ≠ x) (hn : n ≤ maxLen) : InnerX w P x (.slice ao n cap) xs := by
  have hl : xs.length = n := by have := h.length; rwa [ints_length] at this
  refine ⟨ao, cap, by rw [hl], by omega, ?_⟩
  by_cases h0 : 0 < n
  · obtain ⟨g, rfl, h1, h2, h3, _⟩ := h.opened h0
    obtain ⟨h5, h6⟩ := hP g h1 rfl
    exact .inr ⟨g, 0, rfl, h2, h5, h6, fun j u hu => by rw [Nat.zero_add]; exact h3 j u hu⟩
  · exact .inl (List.eq_nil_of_length_eq_zero (by omega))

end Go.Proofs.YtnhdngnolepkcaaDoor

/- What field.with answers at any field. Condition: the variable of primes holds them. -/
namespace Go.Proofs.YtnhdngnolepkcaaDoor
open Go.RowKit

/-- What is wrong with a field and elements. -/
def withFault (p k : Int) (low xs : List Int) : Int := if fieldFault p k low ≠ 0 then fieldFault p k low else if xs.any (badDg (ordF p k)) = true then 1 else 0
/-- What is answered. -/
def WithIs (p k : Int) (ao : Option Addr) (len cap : Nat) (low xs : List Int) (e : Ending) : Prop :=
  (withFault p k low xs ≠ 0 → e = .returned (.tuple #[.agg #[.int .i64 0, .int .i64 0, .slice none 0 0, .int .i64 0], .int .i64 (withFault p k low xs)])) ∧
  (withFault p k low xs = 0 → e = .returned (.tuple #[.agg #[.int .i64 p, .int .i64 k, .slice ao len cap, .int .i64 (ordF p k)], .int .i64 0]))
theorem withFault_bad {p k : Int} {low xs : List Int} (h : fieldFault p k low ≠ 0) : withFault p k low xs = fieldFault p k low := by unfold withFault; rw [if_pos h]
theorem withFault_ok {p k : Int} {low xs : List Int} (h : fieldFault p k low = 0) : withFault p k low xs = if xs.any (badDg (ordF p k)) = true then 1 else 0 := by unfold withFault; rw [if_neg (fun h' => h' h)]

/-- The world of an opening with elements. -/
theorem zero4 (w : World) (p k : Int) (ao : Option Addr) (len cap : Nat) : OpSt w ((w.alloc (.cells #[.int .i64 p, .int .i64 k, .slice ao len cap] 24)).alloc (.cells #[.int .i64 0, .int .i64 0, .slice none 0 0, .int .i64 0] 98)) p k ao len cap := OpSt.start w p k ao len cap

set_option maxHeartbeats 4000000 in
theorem with_any (p k : Int) (ao : Option Addr) (len cap : Nat) (low xs : List Int) (eo : Option Addr) (en ecap : Nat) (w : World) (hP : Primes w) (hl : low.length = len) (hr : Reads w ao (ints low)) (hel : xs.length = en) (hbig : en ≤ maxLen) (her : Reads w eo (ints xs)) :
    Calls Tryd.prog 72 #[.agg #[.int .i64 p, .int .i64 k, .slice ao len cap], .slice eo en ecap] w fun e w' => WithIs p k ao len cap low xs e ∧ Ext w w' := by
  unfold maxLen at hbig
  have H0 := Lib.hid (OpSt.start w p k ao len cap)
  have HO := Lib.hid (open_any p k ao len cap low _ (hP.ext H0.out.ext) hl (H0.out.ext.reads hr))
  have HEL := Lib.hid hel
  have HER := Lib.hid her
  obtain ⟨w0, hw0⟩ : ∃ w0, w0 = (w.alloc (.cells #[.int .i64 p, .int .i64 k, .slice ao len cap] 24)).alloc (.cells #[.int .i64 0, .int .i64 0, .slice none 0 0, .int .i64 0] 98) := ⟨_, rfl⟩
  rw [← hw0] at H0 HO
  clear hP hl hr hel her
  obtain ⟨c, hc⟩ : ∃ c, fieldFault p k low = c := ⟨_, rfl⟩
  have HC := Lib.hid hc
  by_cases h0 : c = 0
  · have HW : Hid (withFault p k low xs = if xs.any (badDg (ordF p k)) = true then 1 else 0) := withFault_ok (by rw [hc]; exact h0)
    obtain ⟨q, hq⟩ : ∃ q, ordF p k = q := ⟨_, rfl⟩
    have HQ := Lib.hid hq
    rw [hq] at HW
    clear hc
    go_enter Tryd.func72, Tryd.ntmps72
    go_wp2_with fail
    rw [← hw0]
    clear hw0
    refine Calls.mono HO.out ?_
    rintro e w1 ⟨hoi, hx⟩
    obtain rfl := hoi.2 (by rw [HC.out]; exact h0)
    rw [hq]
    have H1 := Lib.hid (H0.out.carry hx)
    clear hx hoi h0 hq
    have H2 : Hid (OpSt w (w1.alloc (.cells #[.int .i64 p, .int .i64 k, .slice ao len cap, .int .i64 q] 98)) p k ao len cap ∧ Blk (w1.alloc (.cells #[.int .i64 p, .int .i64 k, .slice ao len cap, .int .i64 q] 98)) w1.heap.size #[.int .i64 p, .int .i64 k, .slice ao len cap, .int .i64 q] 98) := ⟨H1.out.carry ((Ext.refl _).alloc _), Blk.new _ _ _⟩
    go_wp2
    obtain ⟨rb, hrb⟩ : ∃ rb, rb = w1.heap.size := ⟨_, rfl⟩
    obtain ⟨w2, hw2⟩ : ∃ w2, w2 = w1.alloc (.cells #[.int .i64 p, .int .i64 k, .slice ao len cap, .int .i64 q] 98) := ⟨_, rfl⟩
    rw [← hw2, ← hrb] at H2
    rw [← hw2, ← hrb]
    clear hw2 hrb
    go_loopw [21] (fun a wr => ∃ j : Nat, j ≤ en ∧ a = .int .i64 j ∧ wr = w2 ∧ ∀ i, i < j → badDg q (nth xs i) = false) (fun a _ => en - (intOf a).toNat)
    case atStart => exact ⟨0, by omega, rfl, rfl, fun i h => by omega⟩
    case round =>
      obtain ⟨j, hj, rfl, rfl, hall⟩ := hrel
      have HA := Lib.hid hall
      clear hall
      have HS := Lib.hid H2.out.1
      have HR := Lib.hid H2.out.2
      have hr1 := HS.out.rb.four
      have hr2 := HS.out.rb.f
      have hr3 := HR.out.four
      have HXX : ∀ (u0 u1 u2 u3 : Value), Hid (Ext w ((((wr.setCell ⟨w.heap.size + 1, 0, none⟩ u0).setCell ⟨w.heap.size + 1, 1, none⟩ u1).setCell ⟨w.heap.size + 1, 2, none⟩ u2).setCell ⟨w.heap.size + 1, 3, none⟩ u3)) := fun u0 u1 u2 u3 =>
        (((HS.out.ext.set (p := ⟨w.heap.size + 1, 0, none⟩) (by simp) _).set (p := ⟨w.heap.size + 1, 1, none⟩) (by simp) _).set (p := ⟨w.heap.size + 1, 2, none⟩) (by simp) _).set (p := ⟨w.heap.size + 1, 3, none⟩) (by simp) _
      by_cases hjk : j < en
      · obtain ⟨b, off, rfl, hb, hcc⟩ := Reads.int HER.out (by rw [HEL.out]; omega)
        have k1 := (HS.out.ext.cell hb).trans (hcc j (by rw [HEL.out]; exact hjk))
        have HMEM : Hid (nth xs j ∈ xs) := nth_mem xs j (by rw [HEL.out]; exact hjk)
        obtain ⟨x, hx⟩ : ∃ x, nth xs j = x := ⟨_, rfl⟩
        have HXE := Lib.hid hx
        rw [hx] at k1
        clear hx hcc
        by_cases hbad : badDg q x = true
        · have HB : Hid (withFault p k low xs = 1) := by show _ = _; rw [HW.out, if_pos (List.any_eq_true.2 ⟨_, HMEM.out, by rw [HXE.out]; exact hbad⟩)]
          have HRB := Lib.hid ((((HS.out.rb.set 0 (.int .i64 0)).set 1 (.int .i64 0)).set 2 (.slice none 0 0)).set 3 (.int .i64 0))
          have HXX2 := HXX (.int .i64 0) (.int .i64 0) (.slice none 0 0) (.int .i64 0)
          clear HXX
          have hcs : decide (x < 0) = true ∨ (decide (x < 0) = false ∧ decide ((q : Int) ≤ x) = true) := by
            unfold badDg at hbad
            rw [Bool.or_eq_true] at hbad
            by_cases h : x < 0
            · exact .inl (decide_eq_true h)
            · exact .inr ⟨decide_eq_false h, by rcases hbad with h' | h'; exact absurd (of_decide_eq_true h') h; exact h'⟩
          clear hbad
          rcases hcs with d1 | ⟨d1, d2⟩
          all_goals
            go_wp2
            have k9 := HRB.out.four
            exact bodyPost_ret (v := .tuple #[.agg #[.int .i64 0, .int .i64 0, .slice none 0 0, .int .i64 0], .int .i64 1]) (by simp [results, Tryd.results72, go_sem, k9]) rfl ⟨⟨fun _ => by rw [HB.out], fun h => by rw [HB.out] at h; cases h⟩, HXX2.out⟩
        · have hbf : badDg q x = false := by simpa using hbad
          have HB := Lib.hid hbf
          have d1 : decide (x < 0) = false ∧ decide ((q : Int) ≤ x) = false := by unfold badDg at hbf; rw [Bool.or_eq_false_iff] at hbf; exact hbf
          obtain ⟨d1, d2⟩ := d1
          clear hbf hbad HXX
          go_wp2
          exact ⟨⟨j + 1, by omega, by go_num, trivial, fun i hi => by
            rcases Nat.lt_succ_iff_lt_or_eq.1 hi with h | rfl
            · exact HA.out i h
            · rw [HXE.out]; exact HB.out⟩, by simp [intOf]; omega⟩
      · obtain rfl : en = j := by omega
        have HB : Hid (withFault p k low xs = 0) := by
          show _ = _
          rw [HW.out, if_neg]
          rw [List.any_eq_true]
          rintro ⟨x, hx, hb⟩
          obtain ⟨i, hi, rfl⟩ := mem_nth _ _ hx
          rw [HA.out i (by rw [HEL.out] at hi; exact hi)] at hb
          cases hb
        have HRB := Lib.hid ((((HS.out.rb.set 0 (.int .i64 p)).set 1 (.int .i64 k)).set 2 (.slice ao len cap)).set 3 (.int .i64 q))
        have HXX2 := HXX (.int .i64 p) (.int .i64 k) (.slice ao len cap) (.int .i64 q)
        clear HXX
        go_wp2
        have k9 := HRB.out.four
        exact bodyPost_ret (v := .tuple #[.agg #[.int .i64 p, .int .i64 k, .slice ao len cap, .int .i64 q], .int .i64 0]) (by simp [results, Tryd.results72, go_sem, k9]) rfl ⟨⟨fun h => absurd HB.out h, fun _ => by rw [HQ.out]⟩, HXX2.out⟩
  · have HW : Hid (withFault p k low xs = c) := by show _ = _; rw [withFault_bad (by rw [hc]; exact h0), hc]
    have b1 : (c != 0) = true := by rw [bne_iff_ne]; exact h0
    clear hc
    go_enter Tryd.func72, Tryd.ntmps72
    go_wp2_with fail
    rw [← hw0]
    clear hw0
    refine Calls.mono HO.out ?_
    rintro e w1 ⟨hoi, hx⟩
    obtain rfl := hoi.1 (by rw [HC.out]; exact h0)
    rw [HC.out]
    have H1 := Lib.hid ((H0.out.carry hx).carry ((Ext.refl w1).alloc (.cells #[.int .i64 0, .int .i64 0, .slice none 0 0, .int .i64 0] 98)))
    have H00 := Lib.hid h0
    clear hx hoi h0
    have hr1 := H1.out.rb.four
    have hr2 := H1.out.rb.f
    have HRB := Lib.hid ((((H1.out.rb.set 0 (.int .i64 0)).set 1 (.int .i64 0)).set 2 (.slice none 0 0)).set 3 (.int .i64 0))
    have HXX : Hid (Ext w _) := (((H1.out.ext.set (p := ⟨w.heap.size + 1, 0, none⟩) (by simp) (.int .i64 0)).set (p := ⟨w.heap.size + 1, 1, none⟩) (by simp) (.int .i64 0)).set (p := ⟨w.heap.size + 1, 2, none⟩) (by simp) (.slice none 0 0)).set (p := ⟨w.heap.size + 1, 3, none⟩) (by simp) (.int .i64 0)
    go_wp2
    have k9 := HRB.out.four
    exact bodyPost_ret (v := .tuple #[.agg #[.int .i64 0, .int .i64 0, .slice none 0 0, .int .i64 0], .int .i64 c]) (by simp [results, Tryd.results72, go_sem, k9]) rfl ⟨⟨fun _ => by rw [HW.out], fun h => absurd (HW.out.symm.trans h) H00.out⟩, HXX.out⟩

end Go.Proofs.YtnhdngnolepkcaaDoor
