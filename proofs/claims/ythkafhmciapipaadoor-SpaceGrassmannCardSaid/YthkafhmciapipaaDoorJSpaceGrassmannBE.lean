/- What is known of a list of ints that comes in as an argument. No conditions. -/
import Derived.Test.YthkafhmciapipaaDoorJSpaceGrassmannAA
import Derived.ProofKit
import Derived.OpenShut
import Derived.ShutString
import Derived.ChangeOld
import Derived.Deep.Slices
import Derived.Lib.SmallJoins
import Derived.Deep.Matrix
namespace Go.Proofs.YthkafhmciapipaaDoor
open Go.ChangeShapes Go.WideShapes Go.ChangeAt Go.RowKit

/-- A list of ints that came in. -/
structure IntsArg (w : World) (ao : Option Addr) (n cap : Nat) (xs : List Int) : Prop where
  len : xs.length = n
  big : n ≤ maxLen
  reads : Reads w ao (ints xs)
  rng : ∀ x ∈ xs, -9223372036854775808 ≤ x ∧ x ≤ 9223372036854775807

theorem spot_of_cell {w : World} {a : Addr} {v : Value} (h : w.cell? a = some v) : a = ⟨a.block, a.off, none⟩ := by
  obtain ⟨b, o, s⟩ := a
  unfold World.cell? at h
  cases s with
  | none => rfl
  | some k => simp at h; split at h <;> simp at h

theorem reads_of_add {w : World} {a : Addr} {xs : List Value} (h : ∀ i u, xs[i]? = some u → w.cell? (a.add i) = some u) : Reads w (some a) xs := by
  cases xs with
  | nil => exact .inl rfl
  | cons x xs =>
    have h0 := h 0 x rfl
    rw [show a.add 0 = a by simp [Addr.add]] at h0
    have ha := spot_of_cell h0
    have hb := World.block_lt_of_cell? w a h0
    refine .inr ⟨a.block, a.off, by rw [← ha], hb, fun j u hu => ?_⟩
    have := h j u hu
    rw [show a.add j = ⟨a.block, a.off + j, none⟩ by unfold Addr.add; split <;> rename_i hj; (rw [hj]; exact ha); rfl] at this
    exact this

theorem rng_of_wf {x : Int} (h : (Lit.int .i64 x).wf = true) : -9223372036854775808 ≤ x ∧ x ≤ 9223372036854775807 := by
  simpa [Lit.wf, IntKind.min, IntKind.max, IntKind.signed, IntKind.bits] using h

theorem intsArg_of_trod {H : Type} {enc : TypeId × Value → H} {W : World} {fuel : Nat} {v : Value} {x : DataW H × List MemPlace}
    (h : DataW.trod enc Tryd.prog W 0 (fun _ => true) true fuel 27 [v] = some x) : ∃ ao n cap xs, v = .slice ao n cap ∧ IntsArg W ao n cap xs := by
  rcases open_ints Tryd.underlying27 Tryd.underlying3 (by kernel_rfl) h with ⟨hcs, _⟩ | ⟨a, l, c, zs, hcs, _, hl, hm, hz, _, hcell, hwz⟩
  · obtain rfl : v = .slice none 0 0 := by simpa using hcs
    exact ⟨none, 0, 0, [], rfl, rfl, by decide, .inl rfl, by simp⟩
  · obtain rfl : v = .slice (some a) l c := by simpa using hcs
    have hz' : zs.length = c := by simpa using hz
    refine ⟨some a, l, c, zs.take l, rfl, by simp; omega, by omega, reads_of_add fun i u hu => ?_, fun n hn => rng_of_wf (hwz n (List.mem_of_mem_take hn))⟩
    have hi : i < l := by have := (List.getElem?_eq_some_iff.1 hu).1; simp [ints] at this; omega
    rw [hcell i (by omega)]
    rw [← hu]
    simp [ints, hi, List.getElem?_eq_getElem (show i < zs.length by omega)]

theorem open_intsArg {H : Type} {enc : TypeId × Value → H} {W : World} {base : Nat} {v : Value} {d : DataW H} {p : List MemPlace}
    (hv : Value.okWide Tryd.prog W .any base 27 v) (h : DataW.Trod enc Tryd.prog W 0 (fun _ => true) true 27 v d p) :
    ∃ ao n cap xs, v = .slice ao n cap ∧ IntsArg W ao n cap xs := by
  obtain ⟨a0, len0, cap0, rfl⟩ := okWide_slice Tryd.underlying27 hv
  obtain ⟨fuel, hf⟩ := h
  exact intsArg_of_trod (by simpa [Value.cells] using hf)

end Go.Proofs.YthkafhmciapipaaDoor

/- What is known of a field that comes in as an argument. No conditions. -/
namespace Go.Proofs.YthkafhmciapipaaDoor
open Go.ChangeShapes Go.WideShapes Go.ChangeAt Go.RowKit Go.Joins

theorem open_fieldArg {H : Type} {enc : TypeId × Value → H} {W : World} {base : Nat} {v : Value} {d : DataW H} {p : List MemPlace}
    (hv : Value.okWide Tryd.prog W .any base 29 v) (h : DataW.Trod enc Tryd.prog W 0 (fun _ => true) true 29 v d p) :
    ∃ (m k : Int) (ao : Option Addr) (n cap : Nat) (xs : List Int), v = .agg #[.int .i64 m, .int .i64 k, .slice ao n cap] ∧ IntsArg W ao n cap xs := by
  obtain ⟨c0, c1, c2, y0, y1, y2, m, rfl, rfl, rfl, h0, h1, h2⟩ := open_agg3 Tryd.underlying29 (by kernel_rfl) (by kernel_rfl) hv h
  obtain ⟨a, e0, _, _⟩ := DataW.trod_int Tryd.underlying3 h0
  obtain ⟨b, e1, _, _⟩ := DataW.trod_int Tryd.underlying3 h1
  obtain ⟨ao, n, cap, xs, rfl, hx⟩ := intsArg_of_trod h2
  simp at e0 e1
  subst e0 e1
  exact ⟨a, b, ao, n, cap, xs, rfl, hx⟩

end Go.Proofs.YthkafhmciapipaaDoor

/- What is known of a list of lists of ints that comes in as an argument. No conditions. -/
namespace Go.Proofs.YthkafhmciapipaaDoor
open Go.ChangeShapes Go.WideShapes Go.ChangeAt Go.RowKit

/-- A list of lists that came in. -/
structure ListsArg (w : World) (ao : Option Addr) (n cap : Nat) (xss : List (List Int)) : Prop where
  len : xss.length = n
  big : n ≤ maxLen
  reads : ReadsL w ao xss
  rng : ∀ xs ∈ xss, ∀ x ∈ xs, -9223372036854775808 ≤ x ∧ x ≤ 9223372036854775807

theorem open_listsArg {H : Type} {enc : TypeId × Value → H} {W : World} {base : Nat} {v : Value} {d : DataW H} {p : List MemPlace}
    (hv : Value.okWide Tryd.prog W .any base 30 v) (h : DataW.Trod enc Tryd.prog W 0 (fun _ => true) true 30 v d p) :
    ∃ ao n cap xss, v = .slice ao n cap ∧ ListsArg W ao n cap xss := by
  obtain ⟨a0, len0, cap0, rfl⟩ := okWide_slice Tryd.underlying30 hv
  obtain ⟨fuel, hf⟩ := h
  have hf' : DataW.trod enc Tryd.prog W 0 (fun _ => true) true fuel 30 [.slice a0 len0 cap0] = some (d, p) := by simpa [Value.cells] using hf
  rcases Go.Deep.open_int_rows Tryd.underlying30 Tryd.underlying27 Tryd.underlying3 (by kernel_rfl) (by kernel_rfl) hf' with ⟨hcs, _⟩ | ⟨a, len, cap, A, L, C, Z, hcs, _, hl, hm, _, hr⟩
  · obtain ⟨rfl, rfl, rfl⟩ : a0 = none ∧ len0 = 0 ∧ cap0 = 0 := by simpa using hcs
    exact ⟨none, 0, 0, [], rfl, rfl, by decide, ReadsL.nil _ _, by simp⟩
  · obtain ⟨rfl, rfl, rfl⟩ : a0 = some a ∧ len0 = len ∧ cap0 = cap := by simpa using hcs
    have hrow : ∀ r, r < len0 → row ((List.range len0).map fun r => (Z r).take (L r)) r = (Z r).take (L r) := fun r hr' => by
      rw [row_eq _ _ (by simpa using hr')]; simp
    refine ⟨some a, len0, cap0, (List.range len0).map fun r => (Z r).take (L r), rfl, by simp, by omega, ⟨(List.range len0).map fun r => .slice (A r) (L r) (C r), reads_of_add fun i u hu => ?_, by simp, fun j v hv => ?_⟩, fun xs hxs x hx => ?_⟩
    · have hi : i < len0 := by have := (List.getElem?_eq_some_iff.1 hu).1; simpa using this
      rw [(hr i (by omega)).1, ← hu]
      simp [hi]
    · have hj : j < len0 := by have := (List.getElem?_eq_some_iff.1 hv).1; simpa using this
      obtain ⟨h1, h2, h3, h4, h5, h6, h7⟩ := hr j (by omega)
      rw [hrow j hj]
      have hlen : ((Z j).take (L j)).length = L j := by simp; omega
      refine ⟨A j, C j, by rw [hlen]; simpa [hj] using hv.symm, ?_, by rw [hlen]; omega⟩
      rcases hA : A j with _ | a'
      · have := h6 hA
        have h0 : L j = 0 := by omega
        rw [h0]; exact .inl rfl
      · refine reads_of_add fun i u hu => ?_
        have hi : i < L j := by have := (List.getElem?_eq_some_iff.1 hu).1; simp [ints] at this; omega
        rw [(h7 a' hA).2 i (by omega), ← hu]
        simp [ints, hi, List.getElem?_eq_getElem (show i < (Z j).length by omega)]
    · obtain ⟨r, hr1, rfl⟩ := List.mem_map.1 hxs
      obtain ⟨h1, h2, h3, h4, h5, h6, h7⟩ := hr r (by have := List.mem_range.1 hr1; omega)
      exact rng_of_wf (h5 x (List.mem_of_mem_take hx))

end Go.Proofs.YthkafhmciapipaaDoor
