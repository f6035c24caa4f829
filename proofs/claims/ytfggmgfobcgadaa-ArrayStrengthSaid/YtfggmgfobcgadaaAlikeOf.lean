/- What parterreref3.alike answers: in how many runs stands what stands in one, in some columns. -/
import Derived.Test.YtfggmgfobcgadaaRuns
import Derived.Test.YtfggmgfobcgadaaBlk
namespace Go.Proofs.Ytfggmgfobcgadaa
open Go.RowKit

/-- Two runs are alike in the first c columns of a list. -/
def SameOn (cs r r' : List Int) (c : Nat) : Prop := ∀ q, q < c → nth r (nth cs q).toNat = nth r' (nth cs q).toNat
open Classical in
/-- In how many of the first j runs. -/
noncomputable def cntOn (xss : List (List Int)) (cs r : List Int) : Nat → Nat
  | 0 => 0
  | j + 1 => cntOn xss cs r j + if SameOn cs r (row xss j) cs.length then 1 else 0
theorem cntOn_le (xss : List (List Int)) (cs r : List Int) : ∀ j, cntOn xss cs r j ≤ j
  | 0 => Nat.le_refl _
  | j + 1 => by rw [cntOn]; have := cntOn_le xss cs r j; split <;> omega

set_option maxHeartbeats 4000000 in
set_option maxRecDepth 100000 in
theorem alikeOf_any (s : Int) (i t : Nat) (ao co : Option Addr) (n cap ccap : Nat) (xss : List (List Int)) (cs : List Int) (w : World) (hl : xss.length = n) (hr : ReadsL w ao xss) (hR : IsRuns s xss) (hi : i < n) (hcl : cs.length = t) (ht : t ≤ 8) (hcr : Reads w co (ints cs))
    (hcs : ∀ q, q < t → 0 ≤ nth cs q ∧ nth cs q < (row xss 0).length) :
    Calls Try.prog 34 #[.slice ao n cap, .slice co t ccap, .int .i64 i] w fun e w' => e = .returned (.int .i64 (cntOn xss cs (row xss i) n)) ∧ Drawn w w' := by
  obtain ⟨b, off, rfl, hb, hc⟩ := hr.row (by have := hR.n1; omega)
  have HCC := Lib.hid hc
  have HL := Lib.hid hl
  have HR := Lib.hid hR
  have HCR := Lib.hid hcr
  have HCL := Lib.hid hcl
  have hk8 := hR.k8
  have h128 := hR.n128
  rw [hl] at h128
  obtain ⟨k, hk⟩ : ∃ k, (row xss 0).length = k := ⟨_, rfl⟩
  have HK := Lib.hid hk
  rw [hk] at hk8 hcs
  have HCS := Lib.hid hcs
  have hk1 := hR.k1
  rw [hk] at hk1
  have hlen := hR.len i (by rw [hl]; exact hi)
  rw [hk] at hlen
  obtain ⟨a1, q1, d1, r1, _⟩ := hc i (by rw [hl]; exact hi)
  obtain ⟨b1, o1, rfl, hb1, hc1⟩ := Reads.int r1 (by omega)
  rw [hlen] at d1
  have HC1 : Hid (∀ m, m < k → w.cell? ⟨b1, o1 + m, none⟩ = some (.int .i64 (nth (row xss i) m))) := fun m hm => hc1 m (by rw [hlen]; exact hm)
  obtain ⟨x, hx⟩ : ∃ x, row xss i = x := ⟨_, rfl⟩
  rw [hx] at HC1 ⊢
  clear hl hr hc hR hk hcr hcl hcs hlen r1 hc1 hx
  go_enter Try.func34, Try.ntmps34
  go_wp2
  go_loopw [7, 8] (fun y a wr => ∃ j : Nat, j ≤ n ∧ a = .int .i64 j ∧ y = .int .i64 (cntOn xss cs x j) ∧ Drawn w wr) (fun _ a _ => n - (intOf a).toNat)
  case atStart => exact ⟨0, by omega, rfl, rfl, Drawn.refl _⟩
  case round =>
    obtain ⟨j, hj, rfl, rfl, hd⟩ := hrel
    have HD := Lib.hid hd
    clear hd
    have hle := cntOn_le xss cs x j
    by_cases hjn : j < n
    · obtain ⟨a2, q2, d2, r2, _⟩ := HCC.out j (by rw [HL.out]; exact hjn)
      have hlen := HR.out.len j (by rw [HL.out]; exact hjn)
      rw [HK.out] at hlen
      rw [hlen] at d2
      obtain ⟨b2, o2, rfl, hb2, hc2⟩ := Reads.int r2 (by omega)
      have HC2 : Hid (∀ m, m < k → w.cell? ⟨b2, o2 + m, none⟩ = some (.int .i64 (nth (row xss j) m))) := fun m hm => hc2 m (by rw [hlen]; exact hm)
      have HSUC : Hid (cntOn xss cs x (j + 1) = cntOn xss cs x j + @ite Nat (SameOn cs x (row xss j) cs.length) (Classical.propDecidable _) 1 0) := rfl
      rw [HCL.out] at HSUC
      obtain ⟨y, hy⟩ : ∃ y, row xss j = y := ⟨_, rfl⟩
      rw [hy] at HC2 HSUC
      obtain ⟨cn, hcn⟩ : ∃ cn, cntOn xss cs x j = cn := ⟨_, rfl⟩
      rw [hcn] at hle HSUC ⊢
      clear hlen r2 hc2 hy hcn
      obtain ⟨wo, rfl⟩ : ∃ wo : World, wo = wr := ⟨_, rfl⟩
      go_wp2
      go_loopw [9, 10] (fun y' a wr => ∃ (c : Nat) (v : Bool), c ≤ t ∧ a = .int .i64 c ∧ y' = .bool v ∧ Drawn w wr ∧ (v = true ↔ SameOn cs x y c)) (fun _ a _ => t - (intOf a).toNat)
      case atStart => exact ⟨0, true, by omega, rfl, rfl, HD.out, by simp [SameOn]⟩
      case round =>
        obtain ⟨c, v, hct, rfl, rfl, hd, hv⟩ := hrel
        have HD2 := Lib.hid hd
        have HV := Lib.hid hv
        clear hd hv
        by_cases hcl : c < t
        · obtain ⟨b3, o3, rfl, hb3, hc3⟩ := Reads.int HCR.out (by rw [HCL.out]; omega)
          have e3 := (HD2.out.ext.cell hb3).trans (hc3 c (by rw [HCL.out]; exact hcl))
          have hmb := HCS.out c hcl
          have HSU : Hid (SameOn cs x y (c + 1) ↔ SameOn cs x y c ∧ nth x (nth cs c).toNat = nth y (nth cs c).toNat) := by
            show _ ↔ _
            constructor
            · exact fun h => ⟨fun q hq => h q (by omega), h c (by omega)⟩
            · rintro ⟨h1, h2⟩ q hq
              rcases Nat.lt_succ_iff_lt_or_eq.1 hq with h | rfl
              · exact h1 q h
              · exact h2
          obtain ⟨m, hm⟩ : ∃ m : Nat, nth cs c = m := ⟨(nth cs c).toNat, by omega⟩
          rw [hm] at e3 hmb HSU
          rw [Int.toNat_natCast] at HSU
          have hmk : m < k := by omega
          have e1 := (HD2.out.ext.cell hb1).trans (HC1.out m hmk)
          have e2 := (HD2.out.ext.cell hb2).trans (HC2.out m hmk)
          have f1 := (HD2.out.ext.cell hb).trans d1
          have f2 := (HD2.out.ext.cell hb).trans d2
          obtain ⟨p, hp⟩ : ∃ p, nth x m = p := ⟨_, rfl⟩
          obtain ⟨q, hq⟩ : ∃ q, nth y m = q := ⟨_, rfl⟩
          rw [hp] at e1 HSU
          rw [hq] at e2 HSU
          clear hmb hm hp hq hc3
          cases v with
          | true =>
            obtain ⟨z, hz⟩ : ∃ z, (p == q) = z := ⟨_, rfl⟩
            have HZ : Hid (z = true ↔ p = q) := by show _ ↔ _; rw [← hz, beq_iff_eq]
            go_wp2_with fail
            go_quiet (fail)
            go_wp2
            go_roundw
            case rel => exact ⟨c + 1, z, by omega, by go_num, by simp, HD2.out.trans (Drawn.drewN _ _), by rw [HSU.out, HZ.out, ← HV.out]; simp⟩
            case measure => simp [intOf] <;> omega
          | false =>
            go_wp2_with fail
            go_quiet (fail)
            go_wp2
            go_roundw
            case rel => exact ⟨c + 1, false, by omega, by go_num, rfl, HD2.out.trans (Drawn.drewN _ _), by rw [HSU.out, ← HV.out]; simp⟩
            case measure => simp [intOf] <;> omega
        · obtain rfl : t = c := by omega
          cases v with
          | true =>
            have HS1 : Hid (cntOn xss cs x (j + 1) = cn + 1) := by show _ = _; rw [HSUC.out, if_pos (HV.out.1 (by simp))]
            go_wp2
            go_roundw
            case rel => exact ⟨j + 1, by omega, by go_num, by rw [HS1.out]; simp, HD2.out⟩
            case measure => simp [intOf] <;> omega
          | false =>
            have HS1 : Hid (cntOn xss cs x (j + 1) = cn) := by show _ = _; rw [HSUC.out, if_neg (fun h => by have := HV.out.2 h; simp at this)]; simp
            go_wp2
            go_roundw
            case rel => exact ⟨j + 1, by omega, by go_num, by rw [HS1.out], HD2.out⟩
            case measure => simp [intOf] <;> omega
    · obtain rfl : n = j := by omega
      go_wp2
      go_ret
      exact ⟨rfl, HD.out⟩

end Go.Proofs.Ytfggmgfobcgadaa
