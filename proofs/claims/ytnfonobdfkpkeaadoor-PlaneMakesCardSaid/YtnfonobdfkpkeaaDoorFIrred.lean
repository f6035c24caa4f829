/- What field.irreducible answers. No conditions. -/
import Derived.Test.YtnfonobdfkpkeaaDoorFDivides
namespace Go.Proofs.YtnfonobdfkpkeaaDoor
open Go.RowKit

/-- No polynomial of degree n divides. -/
def noneF (p n k : Nat) (f : Nat → Int) (m : Nat) : Bool := (List.range m).all fun c => !divF p n k (upd (dgI p c) n 1) (upd f k 1)
/-- None of a lower degree than n. -/
def irrTo (p k : Nat) (f : Nat → Int) (n : Nat) : Bool := (List.range n).all fun i => decide (i = 0) || noneF p i k f (p ^ i)
/-- No product. -/
def irrF (p k : Nat) (f : Nat → Int) : Bool := irrTo p k f (k / 2 + 1)
theorem noneF_succ (p n k : Nat) (f : Nat → Int) (m : Nat) : noneF p n k f (m + 1) = (noneF p n k f m && !divF p n k (upd (dgI p m) n 1) (upd f k 1)) := by
  unfold noneF; rw [List.range_succ, List.all_append]; simp
theorem noneF_le {p n k : Nat} {f : Nat → Int} {m l : Nat} (h : noneF p n k f m = false) (hl : m ≤ l) : noneF p n k f l = false := by
  unfold noneF at h ⊢
  rw [List.all_eq_false] at h ⊢
  obtain ⟨c, hc, h⟩ := h
  exact ⟨c, List.mem_range.2 (Nat.lt_of_lt_of_le (List.mem_range.1 hc) hl), h⟩
theorem irrTo_succ (p k : Nat) (f : Nat → Int) (n : Nat) (hn : 1 ≤ n) : irrTo p k f (n + 1) = (irrTo p k f n && noneF p n k f (p ^ n)) := by
  unfold irrTo; rw [List.range_succ, List.all_append, List.all_cons, List.all_nil, decide_eq_false (by omega)]; simp
theorem irrTo_le {p k : Nat} {f : Nat → Int} {m l : Nat} (h : irrTo p k f m = false) (hl : m ≤ l) : irrTo p k f l = false := by
  unfold irrTo at h ⊢
  rw [List.all_eq_false] at h ⊢
  obtain ⟨c, hc, h⟩ := h
  exact ⟨c, List.mem_range.2 (Nat.lt_of_lt_of_le (List.mem_range.1 hc) hl), h⟩
theorem irrTo_one (p k : Nat) (f : Nat → Int) : irrTo p k f 1 = true := rfl
theorem upd_dig {p : Nat} {f : Nat → Int} (h : Dig p f) {j : Nat} {v : Int} (h0 : 0 ≤ v) (h1 : v < p) : Dig p (upd f j v) := fun m => by
  unfold upd; split
  · exact ⟨h0, h1⟩
  · exact h m
theorem Dig.succ {p : Nat} {f : Nat → Int} (h : Dig p f) : Dig (p + 1) f := fun m => by have := h m; omega

/-- A round's world. -/
structure IrSt (w wr : World) (f : Nat → Int) : Prop where
  ext : Ext w wr
  lp : Pol wr w.heap.size f

set_option maxHeartbeats 4000000 in
set_option maxRecDepth 100000 in
theorem irreducible_any (p k : Nat) (f : Nat → Int) (w : World) (h2 : 2 ≤ p) (h61 : p ≤ 61) (hk1 : 1 ≤ k) (hk : k ≤ 6) (h64 : p ^ k ≤ 64) (hf : Dig p f) :
    Calls Tryd.prog 37 #[.int .i64 p, .int .i64 k, .agg #[.int .i64 (f 0), .int .i64 (f 1), .int .i64 (f 2), .int .i64 (f 3), .int .i64 (f 4), .int .i64 (f 5), .int .i64 (f 6)]] w fun e w' => e = .returned (.bool (irrF p k f)) ∧ Ext w w' := by
  have H0 : Hid (IrSt w (w.alloc (.cells #[.int .i64 ((upd f k 1) 0), .int .i64 ((upd f k 1) 1), .int .i64 ((upd f k 1) 2), .int .i64 ((upd f k 1) 3), .int .i64 ((upd f k 1) 4), .int .i64 ((upd f k 1) 5), .int .i64 ((upd f k 1) 6)] 63)) (upd f k 1)) := ⟨(Ext.refl w).alloc _, Pol.new w (upd f k 1)⟩
  have HSET := Lib.hid (poly_set f k (by omega) 1)
  have s1 := (Pol.new w f).at k (by omega)
  have s2 := (Pol.new w f).f k
  have HF := Lib.hid (upd_dig hf (j := k) (v := 1) (by omega) (by omega))
  have hka : (0 : Int) ≤ (k : Int) := by omega
  have hkb : (k : Int) < 7 := by omega
  clear hf
  go_enter Tryd.func37, Tryd.ntmps37
  go_wp2
  rw [HSET.out]
  obtain ⟨w0, hw0⟩ : ∃ w0, w0 = w.alloc (.cells #[.int .i64 ((upd f k 1) 0), .int .i64 ((upd f k 1) 1), .int .i64 ((upd f k 1) 2), .int .i64 ((upd f k 1) 3), .int .i64 ((upd f k 1) 4), .int .i64 ((upd f k 1) 5), .int .i64 ((upd f k 1) 6)] 63) := ⟨_, rfl⟩
  rw [← hw0] at H0 ⊢
  clear hw0 s1 s2
  go_loopw [7] (fun a wr => ∃ n : Nat, 1 ≤ n ∧ n ≤ 4 ∧ a = .int .i64 n ∧ irrTo p k f n = true ∧ IrSt w wr (upd f k 1)) (fun a _ => 4 - (intOf a).toNat)
  case atStart => exact ⟨1, by omega, by omega, by go_num, irrTo_one p k f, H0.out⟩
  case round =>
    obtain ⟨n, hn1, hn4, rfl, hirr, hst⟩ := hrel
    have HS := Lib.hid hst
    have HI := Lib.hid hirr
    clear hst hirr H0
    by_cases hnk : 2 * n ≤ k
    · have bT : decide (2 * (n : Int) ≤ (k : Int)) = true := decide_eq_true (by omega)
      have hpn : p ^ n * p ^ n ≤ 64 := by
        rw [← Nat.pow_add]
        exact Nat.le_trans (Nat.pow_le_pow_right (by omega) (by omega)) h64
      have hpn8 : p ^ n ≤ 8 := by
        rcases Nat.lt_or_ge 8 (p ^ n) with h | h
        · have := Nat.mul_le_mul (show 9 ≤ p ^ n from h) (show 9 ≤ p ^ n from h); omega
        · exact h
      go_wp2
      go_loopw [8, 20] (fun m a wr => ∃ i M : Nat, i ≤ n ∧ a = .int .i64 i ∧ m = .int .i64 M ∧ M ≤ 64 ∧ Hid (M = p ^ i) ∧ IrSt w wr (upd f k 1)) (fun _ a _ => n - (intOf a).toNat)
      case atStart => exact ⟨0, 1, by omega, by go_num, by go_num, by omega, by show _ = _; simp, HS.out⟩
      case round =>
        obtain ⟨i, M, hi, rfl, rfl, hM, HM, hst⟩ := hrel
        have HS2 := Lib.hid hst
        clear hst
        by_cases hin : i < n
        · obtain ⟨R, hR⟩ : ∃ R, M * p = R := ⟨_, rfl⟩
          have hR' : (M : Int) * (p : Int) = R := by rw [← hR, Int.natCast_mul]
          have HRP : Hid (R = p ^ (i + 1)) := by show _ = _; rw [← hR, HM.out, Nat.pow_succ]
          have hRb : R ≤ 64 := by rw [HRP.out]; exact Nat.le_trans (Nat.pow_le_pow_right (by omega) (by omega)) h64
          clear hR
          go_wp2
          exact ⟨⟨i + 1, R, by omega, by go_num, rfl, hRb, HRP, HS2.out⟩, by simp [intOf]; omega⟩
        · obtain rfl : n = i := by omega
          have hM8 : M ≤ 8 := by rw [HM.out]; exact hpn8
          go_wp2
          go_loopw [27] (fun a wr => ∃ c : Nat, c ≤ M ∧ a = .int .i64 c ∧ noneF p n k f c = true ∧ IrSt w wr (upd f k 1)) (fun a _ => M - (intOf a).toNat)
          case atStart => exact ⟨0, by omega, by go_num, rfl, HS2.out⟩
          case round =>
            obtain ⟨c, hc, rfl, hnone, hst⟩ := hrel
            have HS3 := Lib.hid hst
            have HN := Lib.hid hnone
            clear hst hnone
            by_cases hcM : c < M
            · obtain ⟨D, hD⟩ : ∃ D, upd (dgI p c) n 1 = D := ⟨_, rfl⟩
              have HDD : Hid (Dig (p + 1) D) := by rw [← hD]; exact (upd_dig (dgI_dig (by omega) c) (by omega) (by omega)).succ
              obtain ⟨v, hv⟩ : ∃ v, divF p n k D (upd f k 1) = v := ⟨_, rfl⟩
              have HV : Hid (divF p n k (upd (dgI p c) n 1) (upd f k 1) = v) := by rw [hD]; exact hv
              have HDG := Lib.hid (digits_any p c wr h2 h61 (by omega))
              have hna : (0 : Int) ≤ (n : Int) := by omega
              have hnb : (n : Int) < 7 := by omega
              go_wp2_with fail
              refine Calls.mono HDG.out ?_
              rintro e w1 ⟨rfl, hx⟩
              have HX1 := Lib.hid (HS3.out.ext.trans hx)
              have HL1 := Lib.hid (HS3.out.lp.ext hx)
              have t1 := (Pol.new w1 (dgI p c)).at n (by omega)
              have t2 := (Pol.new w1 (dgI p c)).f n
              have hlt1 := HL1.out.lt
              have hset2 := poly_set (dgI p c) n (by omega) 1
              rw [hD] at hset2
              have HX2 : Hid (Ext w (w1.alloc (.cells #[.int .i64 (D 0), .int .i64 (D 1), .int .i64 (D 2), .int .i64 (D 3), .int .i64 (D 4), .int .i64 (D 5), .int .i64 (D 6)] 63))) := HX1.out.alloc _
              have HP1 := Lib.hid (Pol.new w1 D)
              have HL2 : Hid (Pol (w1.alloc (.cells #[.int .i64 (D 0), .int .i64 (D 1), .int .i64 (D 2), .int .i64 (D 3), .int .i64 (D 4), .int .i64 (D 5), .int .i64 (D 6)] 63)) w.heap.size (upd f k 1)) := HL1.out.alloc _
              have j1 := HP1.out.seven
              have j2 := HL2.out.seven
              have HDV := Lib.hid (divides_any p n k D (upd f k 1) (w1.alloc (.cells #[.int .i64 (D 0), .int .i64 (D 1), .int .i64 (D 2), .int .i64 (D 3), .int .i64 (D 4), .int .i64 (D 5), .int .i64 (D 6)] 63)) h2 h61 hn1 (by omega) hk HDD.out HF.out)
              rw [hv] at HDV
              clear hx hD hv
              go_wp2_with fail
              refine Calls.mono HDV.out ?_
              rintro e w2 ⟨rfl, hx⟩
              have HX3 := Lib.hid (HX2.out.trans hx)
              have HL3 := Lib.hid (HL2.out.ext hx)
              clear hx j1 j2 t1 t2 hset2 hlt1
              cases v with
              | true =>
                have hnf : noneF p n k f (c + 1) = false := by rw [noneF_succ, HV.out]; simp
                have HR : Hid (irrF p k f = false) := by
                  show _ = _
                  have h1 : noneF p n k f (p ^ n) = false := noneF_le hnf (by rw [← HM.out]; exact hcM)
                  unfold irrF
                  exact irrTo_le (m := n + 1) (by rw [irrTo_succ p k f n hn1, h1]; simp) (by omega)
                clear hnf
                go_wp2
                go_ret
                exact ⟨by rw [HR.out]; rfl, HX3.out⟩
              | false =>
                have HR : Hid (noneF p n k f (c + 1) = true) := by show _ = _; rw [noneF_succ, HV.out, HN.out]; rfl
                go_wp2
                exact ⟨⟨c + 1, by omega, by go_num, HR.out, HX3.out, HL3.out⟩, by simp [intOf]; omega⟩
            · obtain rfl : M = c := by omega
              go_wp2
              exact ⟨⟨n + 1, by omega, by omega, by go_num, by rw [irrTo_succ p k f n hn1, HI.out, ← HM.out, HN.out]; rfl, HS3.out⟩, by simp [intOf]; omega⟩
    · have bT : decide (2 * (n : Int) ≤ (k : Int)) = false := decide_eq_false (by omega)
      go_wp2
      go_ret
      exact ⟨by
        have h : irrF p k f = true := by
          unfold irrF
          cases hc : irrTo p k f (k / 2 + 1) with
          | true => rfl
          | false => have := irrTo_le hc (show k / 2 + 1 ≤ n by omega); rw [HI.out] at this; cases this
        rw [h]; rfl, HS.out.ext⟩

end Go.Proofs.YtnfonobdfkpkeaaDoor
