/- What slices.ContainsFunc answers at a list of rows none of which is meant. -/
import Derived.Test.YtkgdohoandfaeaaReadsL
import Derived.Deep.LoopGhost
namespace Go.Proofs.Ytkgdohoandfaeaa
open Go.RowKit
set_option linter.unusedVariables false

set_option maxHeartbeats 1000000 in
theorem indexFuncL_none (f : FuncId) (caps : Array Value) (ao : Option Addr) (n cap : Nat) (xss : List (List Int)) (w : World) (hn : xss.length = n) (hr : ReadsL w ao xss)
    (hp : ∀ i, i < n → ∀ a c w', Drawn w w' → Calls Try.prog f (#[.slice a (row xss i).length c] ++ caps) w' fun e w'' => e = .returned (.bool false) ∧ Drawn w' w'') (hbig : n ≤ maxLen) (henter : ∀ args w, (callFunc f args).run Try.prog w = .ok (.enter f args) w) :
    Calls Try.prog 33 #[.slice ao n cap, .func (.func f) #[] caps] w fun e w' => e = .returned (.int .i64 (-1)) ∧ Drawn w w' := by
  unfold maxLen at hbig
  have HN := Lib.hid hn
  have HP := Lib.hid hp
  have HR := Lib.hid hr
  clear hn hp hr
  go_enter Try.func33, Try.ntmps33
  go_wp2
  go_loopg [8] n (fun r i wr => ∃ k : Nat, k + r = n ∧ i = .int .i64 k ∧ Drawn w wr)
  case atStart => exact ⟨0, by omega, rfl, Drawn.refl _⟩
  case round =>
    obtain ⟨k, hk, rfl, hd⟩ := hrel
    have HD := Lib.hid hd
    clear hd
    cases gk with
    | zero =>
      obtain rfl : n = k := by omega
      go_wp2
      go_ret
      exact ⟨rfl, HD.out⟩
    | succ r1 =>
      have hkl : (k : Int) < (n : Int) := by omega
      have hkl' : k < n := by omega
      obtain ⟨b, off, rfl, hb, hc⟩ := HR.out.row (by rw [HN.out]; omega)
      obtain ⟨a, c, h1, h2, h3⟩ := hc k (by rw [HN.out]; exact hkl')
      have k0 := (HD.out.ext.cell hb).trans h1
      have HC := Lib.hid (HP.out k hkl' a c wr HD.out)
      clear hc h1 h2 h3
      go_wp2_with ((with_reducible refine Calls.mono HC.out ?_); rintro e w' ⟨rfl, hdd⟩; have HDD := Lib.hid hdd; clear hdd)
      go_roundg r1
      case measure => omega
      case rel => exact ⟨k + 1, by omega, by go_num, HD.out.trans HDD.out⟩

set_option maxHeartbeats 400000 in
theorem containsFuncL_none (f : FuncId) (caps : Array Value) (ao : Option Addr) (n cap : Nat) (xss : List (List Int)) (w : World) (hn : xss.length = n) (hr : ReadsL w ao xss)
    (hp : ∀ i, i < n → ∀ a c w', Drawn w w' → Calls Try.prog f (#[.slice a (row xss i).length c] ++ caps) w' fun e w'' => e = .returned (.bool false) ∧ Drawn w' w'') (hbig : n ≤ maxLen) (henter : ∀ args w, (callFunc f args).run Try.prog w = .ok (.enter f args) w) :
    Calls Try.prog 21 #[.slice ao n cap, .func (.func f) #[] caps] w fun e w' => e = .returned (.bool false) ∧ Drawn w w' := by
  have H := Lib.hid (indexFuncL_none f caps ao n cap xss w hn hr hp hbig henter)
  clear hn hr hp hbig henter
  go_enter Try.func21, Try.ntmps21
  go_wp2_with (go_at_call 33; refine H.out.mono ?_; rintro e w' ⟨rfl, hdd⟩)
  go_ret
  exact ⟨rfl, hdd⟩

end Go.Proofs.Ytkgdohoandfaeaa
