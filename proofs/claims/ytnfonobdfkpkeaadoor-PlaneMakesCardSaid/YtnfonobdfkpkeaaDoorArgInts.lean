/- What is known of a list of ints that comes in as an argument. No conditions. -/
import Derived.Test.YtnfonobdfkpkeaaDoorBase
import Derived.ProofKit
import Derived.OpenShut
import Derived.ShutString
import Derived.ChangeOld
import Derived.Deep.Slices
namespace Go.Proofs.YtnfonobdfkpkeaaDoor
set_option maxRecDepth 100000
open Go.ChangeShapes Go.WideShapes Go.ChangeAt Go.RowKit

/-- A list of ints that came in. -/
structure IntsArg (w : World) (ao : Option Addr) (n cap : Nat) (xs : List Int) : Prop where
  len : xs.length = n
  big : n ≤ maxLen
  reads : Reads w ao (ints xs)
  rng : ∀ x ∈ xs, -9223372036854775808 ≤ x ∧ x ≤ 9223372036854775807

theorem spot_of_cell {w : World} {a : Addr} {v : Value} (h : w.cell? a = some v) : a = ⟨a.block, a.off, none⟩ := by
  obtain ⟨b, o, s⟩ := a
  unfold World.cell? at h
  cases s with
  | none => rfl
  | some k => simp at h; split at h <;> simp at h

theorem reads_of_add {w : World} {a : Addr} {xs : List Value} (h : ∀ i u, xs[i]? = some u → w.cell? (a.add i) = some u) : Reads w (some a) xs := by
  cases xs with
  | nil => exact .inl rfl
  | cons x xs =>
    have h0 := h 0 x rfl
    rw [show a.add 0 = a by simp [Addr.add]] at h0
    have ha := spot_of_cell h0
    have hb := World.block_lt_of_cell? w a h0
    refine .inr ⟨a.block, a.off, by rw [← ha], hb, fun j u hu => ?_⟩
    have := h j u hu
    rw [show a.add j = ⟨a.block, a.off + j, none⟩ by unfold Addr.add; split <;> rename_i hj; (rw [hj]; exact ha); rfl] at this
    exact this

theorem rng_of_wf {x : Int} (h : (Lit.int .i64 x).wf = true) : -9223372036854775808 ≤ x ∧ x ≤ 9223372036854775807 := by
  simpa [Lit.wf, IntKind.min, IntKind.max, IntKind.signed, IntKind.bits] using h

theorem intsArg_of_trod {H : Type} {enc : TypeId × Value → H} {W : World} {fuel : Nat} {v : Value} {x : DataW H × List MemPlace}
    (h : DataW.trod enc Tryd.prog W 0 (fun _ => true) true fuel 22 [v] = some x) : ∃ ao n cap xs, v = .slice ao n cap ∧ IntsArg W ao n cap xs := by
  rcases open_ints Tryd.underlying22 Tryd.underlying3 (by kernel_rfl) h with ⟨hcs, _⟩ | ⟨a, l, c, zs, hcs, _, hl, hm, hz, _, hcell, hwz⟩
  · obtain rfl : v = .slice none 0 0 := by simpa using hcs
    exact ⟨none, 0, 0, [], rfl, rfl, by decide, .inl rfl, by simp⟩
  · obtain rfl : v = .slice (some a) l c := by simpa using hcs
    have hz' : zs.length = c := by simpa using hz
    refine ⟨some a, l, c, zs.take l, rfl, by simp; omega, by omega, reads_of_add fun i u hu => ?_, fun n hn => rng_of_wf (hwz n (List.mem_of_mem_take hn))⟩
    have hi : i < l := by have := (List.getElem?_eq_some_iff.1 hu).1; simp [ints] at this; omega
    rw [hcell i (by omega)]
    rw [← hu]
    simp [ints, hi, List.getElem?_eq_getElem (show i < zs.length by omega)]

theorem open_intsArg {H : Type} {enc : TypeId × Value → H} {W : World} {base : Nat} {v : Value} {d : DataW H} {p : List MemPlace}
    (hv : Value.okWide Tryd.prog W .any base 22 v) (h : DataW.Trod enc Tryd.prog W 0 (fun _ => true) true 22 v d p) :
    ∃ ao n cap xs, v = .slice ao n cap ∧ IntsArg W ao n cap xs := by
  obtain ⟨a0, len0, cap0, rfl⟩ := okWide_slice Tryd.underlying22 hv
  obtain ⟨fuel, hf⟩ := h
  exact intsArg_of_trod (by simpa [Value.cells] using hf)

end Go.Proofs.YtnfonobdfkpkeaaDoor
