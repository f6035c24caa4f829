/- What field.divides answers: long division, digit by digit. No conditions. -/
import Derived.Test.YtnfonobdfkpkeaaDoorFDigits
namespace Go.Proofs.YtnfonobdfkpkeaaDoor
open Go.RowKit

/-- One step of a division: from the place t on down. -/
def dvIn (p n t : Nat) (d f : Nat → Int) (i m : Nat) : Int := if t - n ≤ m ∧ m < t - n + i then (f m + (p - f t) * d (m - (t - n))) % p else f m
/-- .. a whole one. -/
def dvStep (p n t : Nat) (d f : Nat → Int) (m : Nat) : Int := dvIn p n t d f (n + 1) m
/-- Some steps. -/
def dvS (p n k : Nat) (d f : Nat → Int) : Nat → Nat → Int
  | 0 => f
  | c + 1 => dvStep p n (k - c) d (dvS p n k d f c)
/-- Is nothing left? -/
def allZ (g : Nat → Int) : Bool := g 0 == 0 && (g 1 == 0 && (g 2 == 0 && (g 3 == 0 && (g 4 == 0 && (g 5 == 0 && g 6 == 0)))))
def divF (p n k : Nat) (d f : Nat → Int) : Bool := allZ (dvS p n k d f (k + 1 - n))

theorem dvIn_zero (p n t : Nat) (d f : Nat → Int) (m : Nat) : dvIn p n t d f 0 m = f m := by unfold dvIn; rw [if_neg (by omega)]
theorem dvIn_succ {p n t : Nat} {d f : Nat → Int} {i : Nat} (m : Nat) : dvIn p n t d f (i + 1) m = upd (dvIn p n t d f i) (t - n + i) ((f (t - n + i) + (p - f t) * d i) % p) m := by
  unfold upd
  by_cases e : m = t - n + i
  · rw [if_pos e]
    unfold dvIn
    rw [if_pos (by omega), e, show t - n + i - (t - n) = i by omega]
  · rw [if_neg e]
    unfold dvIn
    by_cases h : t - n ≤ m ∧ m < t - n + i
    · rw [if_pos h, if_pos (by omega)]
    · rw [if_neg h, if_neg (by omega)]
/-- All places are digits. -/
def Dig (p : Nat) (f : Nat → Int) : Prop := ∀ m, 0 ≤ f m ∧ f m < p
theorem Dig.in_ {p n t : Nat} {d f : Nat → Int} (h : Dig p f) (hp : 0 < p) (i : Nat) : Dig p (dvIn p n t d f i) := fun m => by
  unfold dvIn
  split
  · exact ⟨Int.emod_nonneg _ (by omega), Int.emod_lt_of_pos _ (by omega)⟩
  · exact h m
theorem Dig.s {p n k : Nat} {d f : Nat → Int} (h : Dig p f) (hp : 0 < p) : ∀ c, Dig p (dvS p n k d f c)
  | 0 => h
  | c + 1 => (Dig.s h hp c).in_ hp (n + 1)
theorem dgI_dig {p : Nat} (hp : 0 < p) (a : Nat) : Dig p (dgI p a) := fun m => by
  have := dgt_lt hp a m
  unfold dgI; omega

/-- A round's world. -/
structure DvSt (w wr : World) (d f : Nat → Int) : Prop where
  ext : Ext w wr
  dp : Pol wr w.heap.size d
  ap : Pol wr (w.heap.size + 1) f
theorem DvSt.drew {w wr : World} {d f : Nat → Int} (h : DvSt w wr d f) : DvSt w wr.drew d f := ⟨h.ext.drew, h.dp.drew, h.ap.drew⟩
theorem DvSt.congr {w wr : World} {d f g : Nat → Int} (h : DvSt w wr d f) (he : ∀ m, m < 7 → f m = g m) : DvSt w wr d g := ⟨h.ext, h.dp, h.ap.congr he⟩
theorem DvSt.set {w wr : World} {d f : Nat → Int} (h : DvSt w wr d f) {j : Nat} (hj : j < 7) (v : Int) : DvSt w (wr.setCell ⟨w.heap.size + 1, j, none⟩ (.int .i64 v)) d (upd f j v) :=
  ⟨h.ext.set (by simp) _, h.dp.beside _ (by simp) _, h.ap.set j hj v⟩

set_option maxHeartbeats 1000000 in
theorem eq_zero7 (a0 a1 a2 a3 a4 a5 a6 : Int) (w : World) : (Op.equalIn 10000 63 (.agg #[.int .i64 a0, .int .i64 a1, .int .i64 a2, .int .i64 a3, .int .i64 a4, .int .i64 a5, .int .i64 a6]) (.agg #[.int .i64 0, .int .i64 0, .int .i64 0, .int .i64 0, .int .i64 0, .int .i64 0, .int .i64 0])).run Tryd.prog w = .ok (a0 == 0 && (a1 == 0 && (a2 == 0 && (a3 == 0 && (a4 == 0 && (a5 == 0 && a6 == 0)))))) w := by
  have u3 := Tryd.underlying3
  have a3' := Tryd.isAgg3
  have z3 := Tryd.sizeOf3
  rw [show (10000 : Nat) = 9999 + 1 from rfl, Op.equalIn]
  simp only [Sem.run_bind, run_underlying Tryd.underlying63, Result.andThen_ok]
  simp only [Std.Legacy.Range.forIn_eq_forIn_range', Std.Legacy.Range.size, Nat.sub_zero, Nat.add_sub_cancel, Nat.div_one, List.range'_succ, List.range'_zero, List.forIn_cons, List.forIn_nil]
  go_simp
  by_cases h0 : a0 = 0
  · by_cases h1 : a1 = 0
    · by_cases h2 : a2 = 0
      · by_cases h3 : a3 = 0
        · by_cases h4 : a4 = 0
          · by_cases h5 : a5 = 0
            · by_cases h6 : a6 = 0
              · simp [h0, h1, h2, h3, h4, h5, h6]
              · simp [h0, h1, h2, h3, h4, h5, h6]
            · simp [h0, h1, h2, h3, h4, h5]
          · simp [h0, h1, h2, h3, h4]
        · simp [h0, h1, h2, h3]
      · simp [h0, h1, h2]
    · simp [h0, h1]
  · simp [h0]

set_option maxHeartbeats 4000000 in
set_option maxRecDepth 100000 in
theorem divides_any (p n k : Nat) (d f : Nat → Int) (w : World) (h2 : 2 ≤ p) (h61 : p ≤ 61) (hn : 1 ≤ n) (hnk : n ≤ k) (hk : k ≤ 6) (hd : Dig (p + 1) d) (hf : Dig p f) :
    Calls Tryd.prog 39 #[.int .i64 p, .agg #[.int .i64 (d 0), .int .i64 (d 1), .int .i64 (d 2), .int .i64 (d 3), .int .i64 (d 4), .int .i64 (d 5), .int .i64 (d 6)], .int .i64 n, .agg #[.int .i64 (f 0), .int .i64 (f 1), .int .i64 (f 2), .int .i64 (f 3), .int .i64 (f 4), .int .i64 (f 5), .int .i64 (f 6)], .int .i64 k] w fun e w' => e = .returned (.bool (divF p n k d f)) ∧ Ext w w' := by
  have H0 : Hid (DvSt w ((w.alloc (.cells #[.int .i64 (d 0), .int .i64 (d 1), .int .i64 (d 2), .int .i64 (d 3), .int .i64 (d 4), .int .i64 (d 5), .int .i64 (d 6)] 63)).alloc (.cells #[.int .i64 (f 0), .int .i64 (f 1), .int .i64 (f 2), .int .i64 (f 3), .int .i64 (f 4), .int .i64 (f 5), .int .i64 (f 6)] 63)) d f) :=
    ⟨((Ext.refl w).alloc _).alloc _, (Pol.new w d).alloc _, Pol.new' (w.alloc (.cells #[.int .i64 (d 0), .int .i64 (d 1), .int .i64 (d 2), .int .i64 (d 3), .int .i64 (d 4), .int .i64 (d 5), .int .i64 (d 6)] 63)) f (b := w.heap.size + 1) (by rw [World.size_alloc])⟩
  have HD := Lib.hid hd
  have HF := Lib.hid hf
  clear hd hf
  go_enter Tryd.func39, Tryd.ntmps39
  go_wp2
  obtain ⟨w0, hw0⟩ : ∃ w0, w0 = (w.alloc (.cells #[.int .i64 (d 0), .int .i64 (d 1), .int .i64 (d 2), .int .i64 (d 3), .int .i64 (d 4), .int .i64 (d 5), .int .i64 (d 6)] 63)).alloc (.cells #[.int .i64 (f 0), .int .i64 (f 1), .int .i64 (f 2), .int .i64 (f 3), .int .i64 (f 4), .int .i64 (f 5), .int .i64 (f 6)] 63) := ⟨_, rfl⟩
  rw [← hw0] at H0 ⊢
  clear hw0
  go_loopw [11] (fun t wr => ∃ T c : Nat, t = .int .i64 T ∧ T + c = k ∧ n ≤ T + 1 ∧ DvSt w wr d (dvS p n k d f c)) (fun t _ => (intOf t + 1).toNat)
  case atStart => exact ⟨k, 0, rfl, by omega, by omega, H0.out⟩
  case round =>
    obtain ⟨t, c, rfl, hT, hTn, hst⟩ := hrel
    have HS := Lib.hid hst
    clear hst H0
    by_cases hlt : n ≤ t
    · have bT : decide (n ≤ t) = true := decide_eq_true hlt
      obtain ⟨wo, rfl⟩ : ∃ wo : World, wo = wr := ⟨_, rfl⟩
      have hkc : k - c = t := by omega
      obtain ⟨g, hg⟩ : ∃ g, dvS p n k d f c = g := ⟨_, rfl⟩
      have HG : Hid (Dig p g) := by rw [← hg]; exact HF.out.s (by omega) c
      have HNX : Hid (dvS p n k d f (c + 1) = dvStep p n t d g) := by show _ = _; rw [← hg, ← hkc]; rfl
      rw [hg] at HS
      have k1 := HS.out.ap.at t (by omega)
      obtain ⟨x, hx⟩ : ∃ x, g t = x := ⟨_, rfl⟩
      have hxb := HG.out t
      rw [hx] at k1 hxb
      have HXE := Lib.hid hx
      clear hg hx hkc
      go_wp2
      have H1 : Hid (DvSt w wo d (dvIn p n t d g 0)) := HS.out.congr fun m _ => (dvIn_zero p n t d g m).symm
      go_loopw [26] (fun a wr => ∃ i : Nat, i ≤ n + 1 ∧ a = .int .i64 i ∧ DvSt w wr d (dvIn p n t d g i)) (fun a _ => n + 1 - (intOf a).toNat)
      case atStart => exact ⟨0, by omega, rfl, H1.out⟩
      case round =>
        obtain ⟨i, hi, rfl, hst⟩ := hrel
        have HS2 := Lib.hid hst
        clear hst H1
        by_cases hin : i < n + 1
        · obtain ⟨q, hq⟩ : ∃ q, t - n + i = q := ⟨_, rfl⟩
          have hq' : (t : Int) - n + i = q := by omega
          have hq7 : q < 7 := by omega
          have hqa : (0 : Int) ≤ (q : Int) := by omega
          have hqb : (q : Int) < 7 := by omega
          have hia : (0 : Int) ≤ (i : Int) := by omega
          have hib : (i : Int) < 7 := by omega
          have k2 := HS2.out.ap.at q hq7
          have k3 := HS2.out.ap.f q
          have k4 := HS2.out.dp.at i (by omega)
          have hyE : dvIn p n t d g i q = g q := by unfold dvIn; rw [if_neg (by omega)]
          rw [hyE] at k2
          have hyb := HG.out q
          have hdb := HD.out i
          have HNE : Hid (DvSt w (wr.setCell ⟨w.heap.size + 1, q, none⟩ (.int .i64 ((g q + (p - x) * d i) % p))) d (dvIn p n t d g (i + 1))) := (HS2.out.set hq7 _).congr fun m _ => by
            rw [dvIn_succ, hq, HXE.out]
          obtain ⟨y, hy⟩ : ∃ y, g q = y := ⟨_, rfl⟩
          obtain ⟨e, he⟩ : ∃ e, d i = e := ⟨_, rfl⟩
          rw [hy] at k2 HNE hyb
          rw [he] at k4 HNE hdb
          obtain ⟨hyb1, hyb2⟩ := hyb
          obtain ⟨hdb1, hdb2⟩ := hdb
          obtain ⟨hxb1, hxb2⟩ := hxb
          have hm1 : 0 ≤ ((p : Int) - x) * e := Int.mul_nonneg (by omega) (by omega)
          have hm2 : ((p : Int) - x) * e ≤ 61 * 62 := Int.mul_le_mul (by omega) (by omega) (by omega) (by omega)
          obtain ⟨z, hz⟩ : ∃ z, ((p : Int) - x) * e = z := ⟨_, rfl⟩
          rw [hz] at hm1 hm2 HNE
          clear hy he hyE hq
          obtain ⟨wq, rfl⟩ : ∃ wq : World, wq = wr := ⟨_, rfl⟩
          go_wp2
          go_region
          all_goals
            go_wp2
            exact ⟨⟨i + 1, by omega, by go_num, HNE.out.drew⟩, by simp [intOf]; omega⟩
        · obtain rfl : i = n + 1 := by omega
          have HN : Hid (DvSt w wr d (dvS p n k d f (c + 1))) := by rw [HNX.out]; exact HS2.out
          go_wp2
          exact ⟨⟨t - 1, c + 1, by rw [show ((t - 1 : Nat) : Int) = (t : Int) - 1 by omega], by omega, by omega, HN.out⟩, by simp [intOf] <;> omega⟩
    · have bT : decide (n ≤ t) = false := decide_eq_false hlt
      have hc : k + 1 - n = c := by omega
      have HV : Hid (divF p n k d f = allZ (dvS p n k d f c)) := by show _ = _; unfold divF; rw [hc]
      have k1 := HS.out.ap.seven
      have hq := eq_zero7
      go_wp2
      go_ret
      exact ⟨by rw [HV.out]; rfl, HS.out.ext⟩

end Go.Proofs.YtnfonobdfkpkeaaDoor
