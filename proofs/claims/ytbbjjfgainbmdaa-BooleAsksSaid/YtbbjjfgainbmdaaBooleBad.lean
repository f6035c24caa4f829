/- What the functions of package boole answer where a list is no table. -/
import Derived.Test.YtbbjjfgainbmdaaAnfLaw
import Derived.Test.YtbbjjfgainbmdaaFar
namespace Go.Proofs.Ytbbjjfgainbmdaa
open Go.RowKit

theorem tbl_cases (xs : List Int) (n : Nat) (hn : xs.length = n) : (∀ k, k ≤ 8 → n ≠ 2 ^ k) ∨ (∃ k, k ≤ 8 ∧ n = 2 ^ k ∧ xs.any notBit = true) ∨ ∃ k, IsTable xs k := by
  by_cases h1 : ∃ k, k ≤ 8 ∧ n = 2 ^ k
  · obtain ⟨k, hk, hl⟩ := h1
    by_cases h2 : xs.any notBit = true
    · exact .inr (.inl ⟨k, hk, hl, h2⟩)
    · refine .inr (.inr ⟨k, hk, by omega, fun x hx => ?_⟩)
      by_cases h : x = 0 ∨ x = 1
      · exact h
      · exact absurd (List.any_eq_true.2 ⟨x, hx, notBit_true (fun e => h (.inl e)) (fun e => h (.inr e))⟩) h2
  · exact .inl fun k hk e => h1 ⟨k, hk, e⟩

/-- A list that is no table, and what is wrong. -/
structure BadTbl (ao : Option Addr) (n cap : Nat) (e : Int) (w : World) : Prop where
  anf : Calls Try.prog 16 #[.slice ao n cap] w fun en w' => en = .returned (.tuple #[.slice none 0 0, .int .i64 e]) ∧ Drawn w w'
  spec : Calls Try.prog 14 #[.slice ao n cap] w fun en w' => en = .returned (.tuple #[.slice none 0 0, .int .i64 e]) ∧ Drawn w w'
  check : Calls Try.prog 18 #[.slice ao n cap] w fun en w' => en = .returned (.tuple #[.int .i64 0, .int .i64 e]) ∧ Drawn w w'
  fault : Calls Try.prog 17 #[.slice ao n cap] w fun en w' => en = .returned (.int .i64 e) ∧ Drawn w w'

theorem bad_or (xs : List Int) (n : Nat) (hn : xs.length = n) : (∃ e : Int, e ≠ 0 ∧ ∀ (ao : Option Addr) (cap : Nat) (w : World), Reads w ao (ints xs) → BadTbl ao n cap e w) ∨ ∃ k, IsTable xs k := by
  rcases tbl_cases xs n hn with h | ⟨k, hk, hl, hx⟩ | h
  · exact .inl ⟨2, by omega, fun ao cap w hr => ⟨anf_len ao cap n w h, spectrum_len ao cap n w h, check_len ao cap n w h, tableFault_len ao cap n w h⟩⟩
  · exact .inl ⟨1, by omega, fun ao cap w hr => ⟨anf_bit ao cap xs n k w hn hk hl hx hr, spectrum_bit ao cap xs n k w hn hk hl hx hr, check_bit ao cap xs n k w hn hk hl hx hr, tableFault_bit ao cap xs n k w hn hk hl hx hr⟩⟩
  · exact .inr h

end Go.Proofs.Ytbbjjfgainbmdaa
