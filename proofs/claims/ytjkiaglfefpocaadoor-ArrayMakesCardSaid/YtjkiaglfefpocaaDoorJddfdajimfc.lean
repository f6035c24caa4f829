/- What field.divides answers: long division, digit by digit. No conditions. -/
import Derived.Test.YtjkiaglfefpocaaDoorJfndenepjfj
import Derived.Outline
import Derived.Deep.MidRow
namespace Go.Proofs.YtjkiaglfefpocaaDoor
open Go.RowKit

/-- One step of a division: from the place t on down. -/
def dvIn (p n t : Nat) (d f : Nat → Int) (i m : Nat) : Int := if t - n ≤ m ∧ m < t - n + i then (f m + (p - f t) * d (m - (t - n))) % p else f m
/-- .. a whole one. -/
def dvStep (p n t : Nat) (d f : Nat → Int) (m : Nat) : Int := dvIn p n t d f (n + 1) m
/-- Some steps. -/
def dvS (p n k : Nat) (d f : Nat → Int) : Nat → Nat → Int
  | 0 => f
  | c + 1 => dvStep p n (k - c) d (dvS p n k d f c)
/-- Is nothing left? -/
def allZ (g : Nat → Int) : Bool := g 0 == 0 && (g 1 == 0 && (g 2 == 0 && (g 3 == 0 && (g 4 == 0 && (g 5 == 0 && g 6 == 0)))))
def divF (p n k : Nat) (d f : Nat → Int) : Bool := allZ (dvS p n k d f (k + 1 - n))

theorem dvIn_zero (p n t : Nat) (d f : Nat → Int) (m : Nat) : dvIn p n t d f 0 m = f m := by unfold dvIn; rw [if_neg (by omega)]
theorem dvIn_succ {p n t : Nat} {d f : Nat → Int} {i : Nat} (m : Nat) : dvIn p n t d f (i + 1) m = upd (dvIn p n t d f i) (t - n + i) ((f (t - n + i) + (p - f t) * d i) % p) m := by
  unfold upd
  by_cases e : m = t - n + i
  · rw [if_pos e]
    unfold dvIn
    rw [if_pos (by omega), e, show t - n + i - (t - n) = i by omega]
  · rw [if_neg e]
    unfold dvIn
    by_cases h : t - n ≤ m ∧ m < t - n + i
    · rw [if_pos h, if_pos (by omega)]
    · rw [if_neg h, if_neg (by omega)]
/-- All places are digits. -/
def Dig (p : Nat) (f : Nat → Int) : Prop := ∀ m, 0 ≤ f m ∧ f m < p
theorem Dig.in_ {p n t : Nat} {d f : Nat → Int} (h : Dig p f) (hp : 0 < p) (i : Nat) : Dig p (dvIn p n t d f i) := fun m => by
  unfold dvIn
  split
  · exact ⟨Int.emod_nonneg _ (by omega), Int.emod_lt_of_pos _ (by omega)⟩
  · exact h m
theorem Dig.s {p n k : Nat} {d f : Nat → Int} (h : Dig p f) (hp : 0 < p) : ∀ c, Dig p (dvS p n k d f c)
  | 0 => h
  | c + 1 => (Dig.s h hp c).in_ hp (n + 1)
theorem dgI_dig {p : Nat} (hp : 0 < p) (a : Nat) : Dig p (dgI p a) := fun m => by
  have := dgt_lt hp a m
  unfold dgI; omega

/-- A round's world. -/
structure DvSt (w wr : World) (d f : Nat → Int) : Prop where
  ext : Ext w wr
  dp : Pol wr w.heap.size d
  ap : Pol wr (w.heap.size + 1) f
theorem DvSt.drew {w wr : World} {d f : Nat → Int} (h : DvSt w wr d f) : DvSt w wr.drew d f := ⟨h.ext.drew, h.dp.drew, h.ap.drew⟩
theorem DvSt.congr {w wr : World} {d f g : Nat → Int} (h : DvSt w wr d f) (he : ∀ m, m < 7 → f m = g m) : DvSt w wr d g := ⟨h.ext, h.dp, h.ap.congr he⟩
theorem DvSt.set {w wr : World} {d f : Nat → Int} (h : DvSt w wr d f) {j : Nat} (hj : j < 7) (v : Int) : DvSt w (wr.setCell ⟨w.heap.size + 1, j, none⟩ (.int .i64 v)) d (upd f j v) :=
  ⟨h.ext.set (by simp) _, h.dp.beside _ (by simp) _, h.ap.set j hj v⟩

set_option maxHeartbeats 1000000 in
theorem eq_zero7 (a0 a1 a2 a3 a4 a5 a6 : Int) (w : World) : (Op.equalIn 10000 105 (.agg #[.int .i64 a0, .int .i64 a1, .int .i64 a2, .int .i64 a3, .int .i64 a4, .int .i64 a5, .int .i64 a6]) (.agg #[.int .i64 0, .int .i64 0, .int .i64 0, .int .i64 0, .int .i64 0, .int .i64 0, .int .i64 0])).run Tryd.prog w = .ok (a0 == 0 && (a1 == 0 && (a2 == 0 && (a3 == 0 && (a4 == 0 && (a5 == 0 && a6 == 0)))))) w := by
  have u3 := Tryd.underlying3
  have a3' := Tryd.isAgg3
  have z3 := Tryd.sizeOf3
  rw [show (10000 : Nat) = 9999 + 1 from rfl, Op.equalIn]
  simp only [Sem.run_bind, run_underlying Tryd.underlying105, Result.andThen_ok]
  simp only [Std.Legacy.Range.forIn_eq_forIn_range', Std.Legacy.Range.size, Nat.sub_zero, Nat.add_sub_cancel, Nat.div_one, List.range'_succ, List.range'_zero, List.forIn_cons, List.forIn_nil]
  go_simp
  by_cases h0 : a0 = 0
  · by_cases h1 : a1 = 0
    · by_cases h2 : a2 = 0
      · by_cases h3 : a3 = 0
        · by_cases h4 : a4 = 0
          · by_cases h5 : a5 = 0
            · by_cases h6 : a6 = 0
              · simp [h0, h1, h2, h3, h4, h5, h6]
              · simp [h0, h1, h2, h3, h4, h5, h6]
            · simp [h0, h1, h2, h3, h4, h5]
          · simp [h0, h1, h2, h3, h4]
        · simp [h0, h1, h2, h3]
      · simp [h0, h1, h2]
    · simp [h0, h1]
  · simp [h0]

set_option maxHeartbeats 4000000 in
set_option maxRecDepth 100000 in
theorem divides_any (p n k : Nat) (d f : Nat → Int) (w : World) (h2 : 2 ≤ p) (h61 : p ≤ 61) (hn : 1 ≤ n) (hnk : n ≤ k) (hk : k ≤ 6) (hd : Dig (p + 1) d) (hf : Dig p f) :
    Calls Tryd.prog 81 #[.int .i64 p, .agg #[.int .i64 (d 0), .int .i64 (d 1), .int .i64 (d 2), .int .i64 (d 3), .int .i64 (d 4), .int .i64 (d 5), .int .i64 (d 6)], .int .i64 n, .agg #[.int .i64 (f 0), .int .i64 (f 1), .int .i64 (f 2), .int .i64 (f 3), .int .i64 (f 4), .int .i64 (f 5), .int .i64 (f 6)], .int .i64 k] w fun e w' => e = .returned (.bool (divF p n k d f)) ∧ Ext w w' := by
  have H0 : Hid (DvSt w ((w.alloc (.cells #[.int .i64 (d 0), .int .i64 (d 1), .int .i64 (d 2), .int .i64 (d 3), .int .i64 (d 4), .int .i64 (d 5), .int .i64 (d 6)] 105)).alloc (.cells #[.int .i64 (f 0), .int .i64 (f 1), .int .i64 (f 2), .int .i64 (f 3), .int .i64 (f 4), .int .i64 (f 5), .int .i64 (f 6)] 105)) d f) :=
    ⟨((Ext.refl w).alloc _).alloc _, (Pol.new w d).alloc _, Pol.new' (w.alloc (.cells #[.int .i64 (d 0), .int .i64 (d 1), .int .i64 (d 2), .int .i64 (d 3), .int .i64 (d 4), .int .i64 (d 5), .int .i64 (d 6)] 105)) f (b := w.heap.size + 1) (by rw [World.size_alloc])⟩
  have HD := Lib.hid hd
  have HF := Lib.hid hf
  clear hd hf
  go_enter Tryd.func81, Tryd.ntmps81
  go_wp2
  obtain ⟨w0, hw0⟩ : ∃ w0, w0 = (w.alloc (.cells #[.int .i64 (d 0), .int .i64 (d 1), .int .i64 (d 2), .int .i64 (d 3), .int .i64 (d 4), .int .i64 (d 5), .int .i64 (d 6)] 105)).alloc (.cells #[.int .i64 (f 0), .int .i64 (f 1), .int .i64 (f 2), .int .i64 (f 3), .int .i64 (f 4), .int .i64 (f 5), .int .i64 (f 6)] 105) := ⟨_, rfl⟩
  rw [← hw0] at H0 ⊢
  clear hw0
  go_loopw [11] (fun t wr => ∃ T c : Nat, t = .int .i64 T ∧ T + c = k ∧ n ≤ T + 1 ∧ DvSt w wr d (dvS p n k d f c)) (fun t _ => (intOf t + 1).toNat)
  case atStart => exact ⟨k, 0, rfl, by omega, by omega, H0.out⟩
  case round =>
    obtain ⟨t, c, rfl, hT, hTn, hst⟩ := hrel
    have HS := Lib.hid hst
    clear hst H0
    by_cases hlt : n ≤ t
    · have bT : decide (n ≤ t) = true := decide_eq_true hlt
      obtain ⟨wo, rfl⟩ : ∃ wo : World, wo = wr := ⟨_, rfl⟩
      have hkc : k - c = t := by omega
      obtain ⟨g, hg⟩ : ∃ g, dvS p n k d f c = g := ⟨_, rfl⟩
      have HG : Hid (Dig p g) := by rw [← hg]; exact HF.out.s (by omega) c
      have HNX : Hid (dvS p n k d f (c + 1) = dvStep p n t d g) := by show _ = _; rw [← hg, ← hkc]; rfl
      rw [hg] at HS
      have k1 := HS.out.ap.at t (by omega)
      obtain ⟨x, hx⟩ : ∃ x, g t = x := ⟨_, rfl⟩
      have hxb := HG.out t
      rw [hx] at k1 hxb
      have HXE := Lib.hid hx
      clear hg hx hkc
      go_wp2
      have H1 : Hid (DvSt w wo d (dvIn p n t d g 0)) := HS.out.congr fun m _ => (dvIn_zero p n t d g m).symm
      go_loopw [26] (fun a wr => ∃ i : Nat, i ≤ n + 1 ∧ a = .int .i64 i ∧ DvSt w wr d (dvIn p n t d g i)) (fun a _ => n + 1 - (intOf a).toNat)
      case atStart => exact ⟨0, by omega, rfl, H1.out⟩
      case round =>
        obtain ⟨i, hi, rfl, hst⟩ := hrel
        have HS2 := Lib.hid hst
        clear hst H1
        by_cases hin : i < n + 1
        · obtain ⟨q, hq⟩ : ∃ q, t - n + i = q := ⟨_, rfl⟩
          have hq' : (t : Int) - n + i = q := by omega
          have hq7 : q < 7 := by omega
          have hqa : (0 : Int) ≤ (q : Int) := by omega
          have hqb : (q : Int) < 7 := by omega
          have hia : (0 : Int) ≤ (i : Int) := by omega
          have hib : (i : Int) < 7 := by omega
          have k2 := HS2.out.ap.at q hq7
          have k3 := HS2.out.ap.f q
          have k4 := HS2.out.dp.at i (by omega)
          have hyE : dvIn p n t d g i q = g q := by unfold dvIn; rw [if_neg (by omega)]
          rw [hyE] at k2
          have hyb := HG.out q
          have hdb := HD.out i
          have HNE : Hid (DvSt w (wr.setCell ⟨w.heap.size + 1, q, none⟩ (.int .i64 ((g q + (p - x) * d i) % p))) d (dvIn p n t d g (i + 1))) := (HS2.out.set hq7 _).congr fun m _ => by
            rw [dvIn_succ, hq, HXE.out]
          obtain ⟨y, hy⟩ : ∃ y, g q = y := ⟨_, rfl⟩
          obtain ⟨e, he⟩ : ∃ e, d i = e := ⟨_, rfl⟩
          rw [hy] at k2 HNE hyb
          rw [he] at k4 HNE hdb
          obtain ⟨hyb1, hyb2⟩ := hyb
          obtain ⟨hdb1, hdb2⟩ := hdb
          obtain ⟨hxb1, hxb2⟩ := hxb
          have hm1 : 0 ≤ ((p : Int) - x) * e := Int.mul_nonneg (by omega) (by omega)
          have hm2 : ((p : Int) - x) * e ≤ 61 * 62 := Int.mul_le_mul (by omega) (by omega) (by omega) (by omega)
          obtain ⟨z, hz⟩ : ∃ z, ((p : Int) - x) * e = z := ⟨_, rfl⟩
          rw [hz] at hm1 hm2 HNE
          clear hy he hyE hq
          obtain ⟨wq, rfl⟩ : ∃ wq : World, wq = wr := ⟨_, rfl⟩
          go_wp2
          go_region
          all_goals
            go_wp2
            exact ⟨⟨i + 1, by omega, by go_num, HNE.out.drew⟩, by simp [intOf]; omega⟩
        · obtain rfl : i = n + 1 := by omega
          have HN : Hid (DvSt w wr d (dvS p n k d f (c + 1))) := by rw [HNX.out]; exact HS2.out
          go_wp2
          exact ⟨⟨t - 1, c + 1, by rw [show ((t - 1 : Nat) : Int) = (t : Int) - 1 by omega], by omega, by omega, HN.out⟩, by simp [intOf] <;> omega⟩
    · have bT : decide (n ≤ t) = false := decide_eq_false hlt
      have hc : k + 1 - n = c := by omega
      have HV : Hid (divF p n k d f = allZ (dvS p n k d f c)) := by show _ = _; unfold divF; rw [hc]
      have k1 := HS.out.ap.seven
      have hq := eq_zero7
      go_wp2
      go_ret
      exact ⟨by rw [HV.out]; rfl, HS.out.ext⟩

end Go.Proofs.YtjkiaglfefpocaaDoor

/- What field.irreducible answers. No conditions. -/
namespace Go.Proofs.YtjkiaglfefpocaaDoor
open Go.RowKit

/-- No polynomial of degree n divides. -/
def noneF (p n k : Nat) (f : Nat → Int) (m : Nat) : Bool := (List.range m).all fun c => !divF p n k (upd (dgI p c) n 1) (upd f k 1)
/-- None of a lower degree than n. -/
def irrTo (p k : Nat) (f : Nat → Int) (n : Nat) : Bool := (List.range n).all fun i => decide (i = 0) || noneF p i k f (p ^ i)
/-- No product. -/
def irrF (p k : Nat) (f : Nat → Int) : Bool := irrTo p k f (k / 2 + 1)
theorem noneF_succ (p n k : Nat) (f : Nat → Int) (m : Nat) : noneF p n k f (m + 1) = (noneF p n k f m && !divF p n k (upd (dgI p m) n 1) (upd f k 1)) := by
  unfold noneF; rw [List.range_succ, List.all_append]; simp
theorem noneF_le {p n k : Nat} {f : Nat → Int} {m l : Nat} (h : noneF p n k f m = false) (hl : m ≤ l) : noneF p n k f l = false := by
  unfold noneF at h ⊢
  rw [List.all_eq_false] at h ⊢
  obtain ⟨c, hc, h⟩ := h
  exact ⟨c, List.mem_range.2 (Nat.lt_of_lt_of_le (List.mem_range.1 hc) hl), h⟩
theorem irrTo_succ (p k : Nat) (f : Nat → Int) (n : Nat) (hn : 1 ≤ n) : irrTo p k f (n + 1) = (irrTo p k f n && noneF p n k f (p ^ n)) := by
  unfold irrTo; rw [List.range_succ, List.all_append, List.all_cons, List.all_nil, decide_eq_false (by omega)]; simp
theorem irrTo_le {p k : Nat} {f : Nat → Int} {m l : Nat} (h : irrTo p k f m = false) (hl : m ≤ l) : irrTo p k f l = false := by
  unfold irrTo at h ⊢
  rw [List.all_eq_false] at h ⊢
  obtain ⟨c, hc, h⟩ := h
  exact ⟨c, List.mem_range.2 (Nat.lt_of_lt_of_le (List.mem_range.1 hc) hl), h⟩
theorem irrTo_one (p k : Nat) (f : Nat → Int) : irrTo p k f 1 = true := rfl
theorem upd_dig {p : Nat} {f : Nat → Int} (h : Dig p f) {j : Nat} {v : Int} (h0 : 0 ≤ v) (h1 : v < p) : Dig p (upd f j v) := fun m => by
  unfold upd; split
  · exact ⟨h0, h1⟩
  · exact h m
theorem Dig.succ {p : Nat} {f : Nat → Int} (h : Dig p f) : Dig (p + 1) f := fun m => by have := h m; omega

/-- A round's world. -/
structure IrSt (w wr : World) (f : Nat → Int) : Prop where
  ext : Ext w wr
  lp : Pol wr w.heap.size f

set_option maxHeartbeats 4000000 in
set_option maxRecDepth 100000 in
theorem irreducible_any (p k : Nat) (f : Nat → Int) (w : World) (h2 : 2 ≤ p) (h61 : p ≤ 61) (hk1 : 1 ≤ k) (hk : k ≤ 6) (h64 : p ^ k ≤ 64) (hf : Dig p f) :
    Calls Tryd.prog 76 #[.int .i64 p, .int .i64 k, .agg #[.int .i64 (f 0), .int .i64 (f 1), .int .i64 (f 2), .int .i64 (f 3), .int .i64 (f 4), .int .i64 (f 5), .int .i64 (f 6)]] w fun e w' => e = .returned (.bool (irrF p k f)) ∧ Ext w w' := by
  have H0 : Hid (IrSt w (w.alloc (.cells #[.int .i64 ((upd f k 1) 0), .int .i64 ((upd f k 1) 1), .int .i64 ((upd f k 1) 2), .int .i64 ((upd f k 1) 3), .int .i64 ((upd f k 1) 4), .int .i64 ((upd f k 1) 5), .int .i64 ((upd f k 1) 6)] 105)) (upd f k 1)) := ⟨(Ext.refl w).alloc _, Pol.new w (upd f k 1)⟩
  have HSET := Lib.hid (poly_set f k (by omega) 1)
  have s1 := (Pol.new w f).at k (by omega)
  have s2 := (Pol.new w f).f k
  have HF := Lib.hid (upd_dig hf (j := k) (v := 1) (by omega) (by omega))
  have hka : (0 : Int) ≤ (k : Int) := by omega
  have hkb : (k : Int) < 7 := by omega
  clear hf
  go_enter Tryd.func76, Tryd.ntmps76
  go_wp2
  rw [HSET.out]
  obtain ⟨w0, hw0⟩ : ∃ w0, w0 = w.alloc (.cells #[.int .i64 ((upd f k 1) 0), .int .i64 ((upd f k 1) 1), .int .i64 ((upd f k 1) 2), .int .i64 ((upd f k 1) 3), .int .i64 ((upd f k 1) 4), .int .i64 ((upd f k 1) 5), .int .i64 ((upd f k 1) 6)] 105) := ⟨_, rfl⟩
  rw [← hw0] at H0 ⊢
  clear hw0 s1 s2
  go_loopw [7] (fun a wr => ∃ n : Nat, 1 ≤ n ∧ n ≤ 4 ∧ a = .int .i64 n ∧ irrTo p k f n = true ∧ IrSt w wr (upd f k 1)) (fun a _ => 4 - (intOf a).toNat)
  case atStart => exact ⟨1, by omega, by omega, by go_num, irrTo_one p k f, H0.out⟩
  case round =>
    obtain ⟨n, hn1, hn4, rfl, hirr, hst⟩ := hrel
    have HS := Lib.hid hst
    have HI := Lib.hid hirr
    clear hst hirr H0
    by_cases hnk : 2 * n ≤ k
    · have bT : decide (2 * (n : Int) ≤ (k : Int)) = true := decide_eq_true (by omega)
      have hpn : p ^ n * p ^ n ≤ 64 := by
        rw [← Nat.pow_add]
        exact Nat.le_trans (Nat.pow_le_pow_right (by omega) (by omega)) h64
      have hpn8 : p ^ n ≤ 8 := by
        rcases Nat.lt_or_ge 8 (p ^ n) with h | h
        · have := Nat.mul_le_mul (show 9 ≤ p ^ n from h) (show 9 ≤ p ^ n from h); omega
        · exact h
      go_wp2
      go_loopw [8, 20] (fun m a wr => ∃ i M : Nat, i ≤ n ∧ a = .int .i64 i ∧ m = .int .i64 M ∧ M ≤ 64 ∧ Hid (M = p ^ i) ∧ IrSt w wr (upd f k 1)) (fun _ a _ => n - (intOf a).toNat)
      case atStart => exact ⟨0, 1, by omega, by go_num, by go_num, by omega, by show _ = _; simp, HS.out⟩
      case round =>
        obtain ⟨i, M, hi, rfl, rfl, hM, HM, hst⟩ := hrel
        have HS2 := Lib.hid hst
        clear hst
        by_cases hin : i < n
        · obtain ⟨R, hR⟩ : ∃ R, M * p = R := ⟨_, rfl⟩
          have hR' : (M : Int) * (p : Int) = R := by rw [← hR, Int.natCast_mul]
          have HRP : Hid (R = p ^ (i + 1)) := by show _ = _; rw [← hR, HM.out, Nat.pow_succ]
          have hRb : R ≤ 64 := by rw [HRP.out]; exact Nat.le_trans (Nat.pow_le_pow_right (by omega) (by omega)) h64
          clear hR
          go_wp2
          exact ⟨⟨i + 1, R, by omega, by go_num, rfl, hRb, HRP, HS2.out⟩, by simp [intOf]; omega⟩
        · obtain rfl : n = i := by omega
          have hM8 : M ≤ 8 := by rw [HM.out]; exact hpn8
          go_wp2
          go_loopw [27] (fun a wr => ∃ c : Nat, c ≤ M ∧ a = .int .i64 c ∧ noneF p n k f c = true ∧ IrSt w wr (upd f k 1)) (fun a _ => M - (intOf a).toNat)
          case atStart => exact ⟨0, by omega, by go_num, rfl, HS2.out⟩
          case round =>
            obtain ⟨c, hc, rfl, hnone, hst⟩ := hrel
            have HS3 := Lib.hid hst
            have HN := Lib.hid hnone
            clear hst hnone
            by_cases hcM : c < M
            · obtain ⟨D, hD⟩ : ∃ D, upd (dgI p c) n 1 = D := ⟨_, rfl⟩
              have HDD : Hid (Dig (p + 1) D) := by rw [← hD]; exact (upd_dig (dgI_dig (by omega) c) (by omega) (by omega)).succ
              obtain ⟨v, hv⟩ : ∃ v, divF p n k D (upd f k 1) = v := ⟨_, rfl⟩
              have HV : Hid (divF p n k (upd (dgI p c) n 1) (upd f k 1) = v) := by rw [hD]; exact hv
              have HDG := Lib.hid (digits_any p c wr h2 h61 (by omega))
              have hna : (0 : Int) ≤ (n : Int) := by omega
              have hnb : (n : Int) < 7 := by omega
              go_wp2_with fail
              refine Calls.mono HDG.out ?_
              rintro e w1 ⟨rfl, hx⟩
              have HX1 := Lib.hid (HS3.out.ext.trans hx)
              have HL1 := Lib.hid (HS3.out.lp.ext hx)
              have t1 := (Pol.new w1 (dgI p c)).at n (by omega)
              have t2 := (Pol.new w1 (dgI p c)).f n
              have hlt1 := HL1.out.lt
              have hset2 := poly_set (dgI p c) n (by omega) 1
              rw [hD] at hset2
              have HX2 : Hid (Ext w (w1.alloc (.cells #[.int .i64 (D 0), .int .i64 (D 1), .int .i64 (D 2), .int .i64 (D 3), .int .i64 (D 4), .int .i64 (D 5), .int .i64 (D 6)] 105))) := HX1.out.alloc _
              have HP1 := Lib.hid (Pol.new w1 D)
              have HL2 : Hid (Pol (w1.alloc (.cells #[.int .i64 (D 0), .int .i64 (D 1), .int .i64 (D 2), .int .i64 (D 3), .int .i64 (D 4), .int .i64 (D 5), .int .i64 (D 6)] 105)) w.heap.size (upd f k 1)) := HL1.out.alloc _
              have j1 := HP1.out.seven
              have j2 := HL2.out.seven
              have HDV := Lib.hid (divides_any p n k D (upd f k 1) (w1.alloc (.cells #[.int .i64 (D 0), .int .i64 (D 1), .int .i64 (D 2), .int .i64 (D 3), .int .i64 (D 4), .int .i64 (D 5), .int .i64 (D 6)] 105)) h2 h61 hn1 (by omega) hk HDD.out HF.out)
              rw [hv] at HDV
              clear hx hD hv
              go_wp2_with fail
              refine Calls.mono HDV.out ?_
              rintro e w2 ⟨rfl, hx⟩
              have HX3 := Lib.hid (HX2.out.trans hx)
              have HL3 := Lib.hid (HL2.out.ext hx)
              clear hx j1 j2 t1 t2 hset2 hlt1
              cases v with
              | true =>
                have hnf : noneF p n k f (c + 1) = false := by rw [noneF_succ, HV.out]; simp
                have HR : Hid (irrF p k f = false) := by
                  show _ = _
                  have h1 : noneF p n k f (p ^ n) = false := noneF_le hnf (by rw [← HM.out]; exact hcM)
                  unfold irrF
                  exact irrTo_le (m := n + 1) (by rw [irrTo_succ p k f n hn1, h1]; simp) (by omega)
                clear hnf
                go_wp2
                go_ret
                exact ⟨by rw [HR.out]; rfl, HX3.out⟩
              | false =>
                have HR : Hid (noneF p n k f (c + 1) = true) := by show _ = _; rw [noneF_succ, HV.out, HN.out]; rfl
                go_wp2
                exact ⟨⟨c + 1, by omega, by go_num, HR.out, HX3.out, HL3.out⟩, by simp [intOf]; omega⟩
            · obtain rfl : M = c := by omega
              go_wp2
              exact ⟨⟨n + 1, by omega, by omega, by go_num, by rw [irrTo_succ p k f n hn1, HI.out, ← HM.out, HN.out]; rfl, HS3.out⟩, by simp [intOf]; omega⟩
    · have bT : decide (2 * (n : Int) ≤ (k : Int)) = false := decide_eq_false (by omega)
      go_wp2
      go_ret
      exact ⟨by
        have h : irrF p k f = true := by
          unfold irrF
          cases hc : irrTo p k f (k / 2 + 1) with
          | true => rfl
          | false => have := irrTo_le hc (show k / 2 + 1 ≤ n by omega); rw [HI.out] at this; cases this
        rw [h]; rfl, HS.out.ext⟩

end Go.Proofs.YtjkiaglfefpocaaDoor

/- What field.isPrime and field.order answer. Condition: the variable of primes holds them. -/
namespace Go.Proofs.YtjkiaglfefpocaaDoor
open Go.RowKit

def primeF (p : Int) : Bool := primesL.contains p
theorem primes_range {w : World} (h : Primes w) : w.rangeAt 0 0 (ints primesL) := fun j v hv => by
  have hj : j < 18 := by have := (List.getElem?_eq_some_iff.1 hv).1; exact this
  rw [Nat.zero_add, h.2 j hj, ← hv, ints_get primesL j hj]
theorem prime_hit {p : Int} {k : Nat} (hk : k < 18) (h : p = nth primesL k) : primeF p = true := by
  unfold primeF; rw [List.contains_iff_mem, h]; exact nth_mem _ _ hk
theorem prime_miss {p : Int} (h : ∀ i, i < 18 → p ≠ nth primesL i) : primeF p = false := by
  unfold primeF
  cases hc : primesL.contains p with
  | false => rfl
  | true =>
    obtain ⟨k, hk, e⟩ := mem_nth _ _ (List.contains_iff_mem.1 hc)
    exact absurd e.symm (h k hk)

theorem index_prime : ∀ k : Nat, k < 18 → ∀ w, (Instr.index 111 (.agg (ints primesL).toArray) (.int .i64 (k : Int))).run Tryd.prog w = .ok (.int .i64 (nth primesL k)) w
  | 0, _ => fun _ => by kernel_rfl
  | 1, _ => fun _ => by kernel_rfl
  | 2, _ => fun _ => by kernel_rfl
  | 3, _ => fun _ => by kernel_rfl
  | 4, _ => fun _ => by kernel_rfl
  | 5, _ => fun _ => by kernel_rfl
  | 6, _ => fun _ => by kernel_rfl
  | 7, _ => fun _ => by kernel_rfl
  | 8, _ => fun _ => by kernel_rfl
  | 9, _ => fun _ => by kernel_rfl
  | 10, _ => fun _ => by kernel_rfl
  | 11, _ => fun _ => by kernel_rfl
  | 12, _ => fun _ => by kernel_rfl
  | 13, _ => fun _ => by kernel_rfl
  | 14, _ => fun _ => by kernel_rfl
  | 15, _ => fun _ => by kernel_rfl
  | 16, _ => fun _ => by kernel_rfl
  | 17, _ => fun _ => by kernel_rfl
  | n + 18, h => absurd h (by omega)

set_option maxHeartbeats 1000000 in
theorem primeF_any (p : Int) (w : World) (hP : Primes w) :
    Calls Tryd.prog 80 #[.int .i64 p] w fun e w' => e = .returned (.bool (primeF p)) ∧ w = w' := by
  have HR := Lib.hid (primes_range hP)
  clear hP
  go_enter Tryd.func80, Tryd.ntmps80
  go_wp2_with ((with_reducible refine wpList_load_mid rfl 111 (.global 0) rfl 0 0 rfl (ints primesL) (.array 18 3) HR.out Tryd.underlying111 rfl (by kernel_rfl) ?_))
  have HI : Hid (∀ k : Nat, k < 18 → ∀ w, (Instr.index 111 (.agg (ints primesL).toArray) (.int .i64 (k : Int))).run Tryd.prog w = .ok (.int .i64 (nth primesL k)) w) := index_prime
  generalize (ints primesL).toArray = A at HI ⊢
  go_loop [6] (fun a => ∃ k : Nat, k ≤ 18 ∧ a = .int .i64 k ∧ ∀ i, i < k → p ≠ nth primesL i) (fun a => 18 - (intOf a).toNat)
  case atStart => exact ⟨0, by omega, rfl, fun i h => by omega⟩
  case round =>
    obtain ⟨k, hk, rfl, hall⟩ := hrel
    have HA := Lib.hid hall
    clear hall
    by_cases hlt : k < 18
    · have hi := HI.out k hlt
      obtain ⟨x, hx⟩ : ∃ x, nth primesL k = x := ⟨_, rfl⟩
      have HX := Lib.hid hx
      rw [hx] at hi
      clear hx
      by_cases hpx : p = x
      · have b1 : (p == x) = true := by rw [beq_iff_eq]; exact hpx
        have HP := Lib.hid (prime_hit hlt (hpx.trans HX.out.symm))
        clear hpx
        go_wp2
        go_ret
        exact ⟨by rw [HP.out]; rfl, rfl⟩
      · have b1 : (p == x) = false := by rw [beq_eq_false_iff_ne]; exact hpx
        have HP := Lib.hid hpx
        clear hpx
        go_wp2
        go_round
        case rel => exact ⟨k + 1, by omega, by go_num, fun i hi => by
          rcases Nat.lt_succ_iff_lt_or_eq.1 hi with h | rfl
          · exact HA.out i h
          · rw [HX.out]; exact HP.out⟩
        case measure => simp [intOf]; omega
    · have HP : Hid (primeF p = false) := prime_miss fun i hi => HA.out i (by omega)
      go_wp2
      go_ret
      exact ⟨by rw [HP.out]; rfl, rfl⟩

end Go.Proofs.YtjkiaglfefpocaaDoor
