/- The numbers of Paley's graphs up to 24 places. Plain, no program. -/
import Derived.Test.YtdmplinncaffpaaDoorKnownTab
import Derived.Test.YtdmplinncaffpaaDoorPaleyGraph
namespace Go.Proofs.YtdmplinncaffpaaDoor
open Go.RowKit

def palJ (sq : List Int) (p k a b : Nat) : Bool := sq.any (palAdds p k a b)
theorem palJoin_eq (p k : Nat) (low : List Int) : palJoin p k low = palJ (sqUp (sqSeen p k low (p ^ k)) 64) p k := rfl
theorem sqSeen_one (p : Nat) (low : List Int) (m : Nat) : sqSeen p 1 low m = sqSeen p 1 [] m := by
  funext s
  unfold sqSeen
  congr 1

def palAll : Bool := (List.range 25).all fun p => (List.range 7).all fun k => !(decide (1 ≤ k) && primeF (p : Nat) && decide (p ^ k ≤ 24) && decide (p ^ k % 4 = 1)) || ((p == 5 && k == 1) || (p == 13 && k == 1) || (p == 17 && k == 1) || (p == 3 && k == 2))
theorem palAll_true : palAll = true := by decide +kernel
theorem paley_orders (p : Nat) (hp : p < 25) (k : Nat) (hk : k < 7) (h1 : 1 ≤ k) (h2 : primeF (p : Nat) = true) (h3 : p ^ k ≤ 24) (h4 : p ^ k % 4 = 1) : (p = 5 ∧ k = 1) ∨ (p = 13 ∧ k = 1) ∨ (p = 17 ∧ k = 1) ∨ (p = 3 ∧ k = 2) := by
  have h := palAll_true
  unfold palAll at h
  rw [List.all_eq_true] at h
  have h := h p (List.mem_range.2 hp)
  rw [List.all_eq_true] at h
  have h := h k (List.mem_range.2 hk)
  rw [decide_eq_true h1, h2, decide_eq_true h3, decide_eq_true h4] at h
  simp only [Bool.and_self, Bool.not_true, Bool.false_or, Bool.or_eq_true, Bool.and_eq_true, beq_iff_eq] at h
  omega
theorem sq5 : sqUp (sqSeen 5 1 [] 5) 64 = [1, 4] := by decide +kernel
theorem sq13 : sqUp (sqSeen 13 1 [] 13) 64 = [1, 3, 4, 9, 10, 12] := by decide +kernel
theorem sq17 : sqUp (sqSeen 17 1 [] 17) 64 = [1, 2, 4, 8, 9, 13, 15, 16] := by decide +kernel
theorem known5 : knownB 5 (palJ [1, 4] 5 1) 2 0 1 true = true := by decide +kernel
theorem known13 : knownB 13 (palJ [1, 3, 4, 9, 10, 12] 13 1) 6 2 3 true = true := by decide +kernel
theorem known17 : knownB 17 (palJ [1, 2, 4, 8, 9, 13, 15, 16] 17 1) 8 3 4 true = true := by decide +kernel
theorem known9 : ∀ c, c < 3 → ∀ d, d < 3 → irrF 3 2 (nth [(c : Nat), (d : Nat)]) = true → knownB 9 (palJ (sqUp (sqSeen 3 2 [(c : Nat), (d : Nat)] 9) 64) 3 2) 4 1 2 true = true := by decide +kernel

theorem paley_known {p k : Nat} {low : List Int} (hF : IsField p k low) (h24 : p ^ k ≤ 24) (h4 : p ^ k % 4 = 1) :
    KnownTab (p ^ k) (tab (flat (p ^ k) (joinCell (palJoin p k low))) (p ^ k * p ^ k)) (((p ^ k : Nat) - 1) / 2) (((p ^ k : Nat) - 5) / 4) (((p ^ k : Nat) - 1) / 4) True := by
  have hp : p < 25 := by
    have h1 : p ^ 1 ≤ p ^ k := Nat.pow_le_pow_right (by have := hF.p2; omega) hF.k1
    rw [Nat.pow_one] at h1
    omega
  rcases paley_orders p hp k (by have := hF.k6; omega) hF.k1 hF.prime h24 h4 with ⟨rfl, rfl⟩ | ⟨rfl, rfl⟩ | ⟨rfl, rfl⟩ | ⟨rfl, rfl⟩
  · have e : palJoin 5 1 low = palJ [1, 4] 5 1 := by rw [palJoin_eq, sqSeen_one]; exact congrArg (fun l => palJ l 5 1) sq5
    rw [e]
    have := known_of (by decide) (by decide) known5
    exact ⟨this.tab, this.sym, this.no, this.deg, this.near, fun _ => this.far rfl⟩
  · have e : palJoin 13 1 low = palJ [1, 3, 4, 9, 10, 12] 13 1 := by rw [palJoin_eq, sqSeen_one]; exact congrArg (fun l => palJ l 13 1) sq13
    rw [e]
    have := known_of (by decide) (by decide) known13
    exact ⟨this.tab, this.sym, this.no, this.deg, this.near, fun _ => this.far rfl⟩
  · have e : palJoin 17 1 low = palJ [1, 2, 4, 8, 9, 13, 15, 16] 17 1 := by rw [palJoin_eq, sqSeen_one]; exact congrArg (fun l => palJ l 17 1) sq17
    rw [e]
    have := known_of (by decide) (by decide) known17
    exact ⟨this.tab, this.sym, this.no, this.deg, this.near, fun _ => this.far rfl⟩
  · have hl := hF.len
    have hd := hF.dig
    have hi := hF.irr
    match low, hl with
    | [x, y], _ =>
      have h0 := hd 0
      have h1 := hd 1
      simp only [nth] at h0 h1
      obtain ⟨c, rfl⟩ : ∃ c : Nat, x = c := ⟨x.toNat, by simp at h0; omega⟩
      obtain ⟨d, rfl⟩ : ∃ d : Nat, y = d := ⟨y.toNat, by simp at h1; omega⟩
      have := known_of (by decide) (by decide) (known9 c (by simp at h0; omega) d (by simp at h1; omega) hi)
      exact ⟨this.tab, this.sym, this.no, this.deg, this.near, fun _ => this.far rfl⟩

end Go.Proofs.YtdmplinncaffpaaDoor
