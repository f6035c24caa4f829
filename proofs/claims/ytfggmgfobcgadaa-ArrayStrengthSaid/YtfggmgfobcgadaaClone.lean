/- What slices.Clone answers at ints. Conditions: the list is not empty and can be read. -/
import Derived.Test.YtfggmgfobcgadaaBase
import Derived.Lib.SliceRun
namespace Go.Proofs.Ytfggmgfobcgadaa
open Go.RowKit

set_option maxHeartbeats 400000 in
theorem clone_any (b off n cap : Nat) (xs : List Int) (w : World) (hn : xs.length = n) (_h0 : 0 < n) (hbig : n ≤ 1099511627776) (hlt : b < w.heap.size) (hc : ∀ j u, (ints xs)[j]? = some u → w.cell? ⟨b, off + j, none⟩ = some u) :
    Calls Try.prog 41 #[.slice (some ⟨b, off, none⟩) n cap] w fun e w' =>
      ∃ ao' cap', e = .returned (.slice ao' n cap') ∧ RowOf 3 w' w.heap.size ao' n cap' (ints xs) ∧ Below w.heap.size w w' := by
  have HN := Lib.hid hn
  have HC : Hid (∀ j u, (ints xs)[j]? = some u → (w.alloc (.cells #[] 3)).cell? ⟨b, off + j, none⟩ = some u) := fun j u hu => by
    rw [World.cell?_alloc_past _ _ _ hlt]; exact hc j u hu
  have hq := Lib.run_eql_slice_nil (P := Try.prog) w 40 3 (some ⟨b, off, none⟩) n cap 0 0 Try.underlying40
  clear hn hc
  go_enter Try.func41, Try.ntmps41
  go_wp2_with (at_builtin; refine wpList_appList eInt rfl (.tmp 5) (.tmp 6) rfl w.heap.size rfl (RowOf.lit 3 w #[] (by decide)) rfl (by rw [ints_length]; exact HN.out) HC.out (ints_oneCell' xs) (by simp; omega) (by simp) ?_; intro ao' cap' w1 hr1 hg1 hb1)
  go_ret
  exact ⟨ao', cap', by simp, by simpa using hr1, hb1 _ _ ((Below.refl _ _).alloc (Nat.le_refl _) _) (Nat.le_refl _)⟩

end Go.Proofs.Ytfggmgfobcgadaa
