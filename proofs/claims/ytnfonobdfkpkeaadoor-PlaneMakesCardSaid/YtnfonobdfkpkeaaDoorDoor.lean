/- What the row's condition gives the walks: the variable of primes. No other conditions. -/
import Derived.Test.YtnfonobdfkpkeaaDoorPoly
import Derived.Test.YtnfonobdfkpkeaaDoorRows
import Derived.ProofKit
import Derived.LaidMore
import Derived.OpenShut
import Derived.Lib.LaidTab
import Derived.LaidHandle
import Derived.MakeChecks
namespace Go.Proofs.YtnfonobdfkpkeaaDoor
open Go.RowKit

theorem gPrimes : Tryd.prog.globalNamed "parterre/field.primes" = some 0 := by kernel_rfl
theorem tPrimes : (Tryd.prog.globals[0]?).map (·.type) = some 71 := by kernel_rfl

/-- The list of the rows. -/
def laidL : List (String × DataW Unit) := [("parterre/field.primes", Rows.laid_parterre_field_primes)]
theorem laidL_tab : laidL = [("parterre/field.primes", Lib.tabData .i64 primesL)] := rfl

theorem primes_of_laid {W : World} (h : laidMetH Tryd.prog laidL W) : Primes W := by
  rw [MakeChecks.laidMetH_plain _ _ _ (by kernel_rfl), laidL_tab] at h
  have ht := Lib.tabIs_of_head gPrimes tPrimes Tryd.underlying71 Tryd.underlying3 (by kernel_rfl) (by kernel_rfl) h
  have hc : ∀ i, i < 18 → W.cell? ⟨0, i, none⟩ = some (.int .i64 (nth primesL i)) := fun i hi => by
    have := ht.cell gPrimes i (by simpa [primesL] using hi)
    exact this
  refine ⟨?_, hc⟩
  have h0 := hc 0 (by decide)
  unfold World.cell? at h0
  cases hb : W.heap[0]? with
  | none => simp [hb] at h0
  | some o => exact (Array.getElem?_eq_some_iff.1 hb).1

/-- The door's own heap meets the condition. -/
theorem door_met (os : Os) (args : Array Value) : laidMetH Tryd.prog laidL ((World.doorLaid Tryd.prog 400 os).forCall (fun _ _ => 0) ⟨#[], args, []⟩).memory :=
  laidMetH_of_parts3 (fuel := 8) (laidMet_of_run' 8 (by kernel_rfl) (by kernel_rfl)) (by kernel_rfl) (by kernel_rfl)

end Go.Proofs.YtnfonobdfkpkeaaDoor
