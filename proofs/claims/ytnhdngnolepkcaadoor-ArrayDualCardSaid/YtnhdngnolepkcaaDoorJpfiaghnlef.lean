/- Blocks of seven ints: the digits of an element. No conditions. -/
import Derived.Test.YtnhdngnolepkcaaDoorJpoobehflpg
import Derived.Test.YtnhdngnolepkcaaDoorJnlgceahhnj
import Derived.BigRegion
import Derived.Outline
namespace Go.Proofs.YtnhdngnolepkcaaDoor
open Go.RowKit

/-- A block of seven ints. -/
def Pol (w : World) (b : Nat) (f : Nat → Int) : Prop := Blk w b #[.int .i64 (f 0), .int .i64 (f 1), .int .i64 (f 2), .int .i64 (f 3), .int .i64 (f 4), .int .i64 (f 5), .int .i64 (f 6)] 105
theorem Pol.at {w : World} {b : Nat} {f : Nat → Int} (h : Pol w b f) : ∀ j, j < 7 → w.cell? ⟨b, j, none⟩ = some (.int .i64 (f j))
  | 0, _ => h.c 0 _ rfl
  | 1, _ => h.c 1 _ rfl
  | 2, _ => h.c 2 _ rfl
  | 3, _ => h.c 3 _ rfl
  | 4, _ => h.c 4 _ rfl
  | 5, _ => h.c 5 _ rfl
  | 6, _ => h.c 6 _ rfl
theorem Pol.f {w : World} {b : Nat} {f : Nat → Int} (h : Pol w b f) (j : Nat) : w.frozen? ⟨b, j, none⟩ = false := Blk.f h j
theorem Pol.lt {w : World} {b : Nat} {f : Nat → Int} (h : Pol w b f) : b < w.heap.size := Blk.lt h
theorem Pol.ext {w w' : World} {b : Nat} {f : Nat → Int} (h : Pol w b f) (hx : Ext w w') : Pol w' b f := Blk.ext h hx
theorem Pol.drewN {w : World} {b : Nat} {f : Nat → Int} (h : Pol w b f) (n : Nat) : Pol (w.drewN n) b f := h
theorem Pol.drew {w : World} {b : Nat} {f : Nat → Int} (h : Pol w b f) : Pol w.drew b f := h
theorem Pol.alloc {w : World} {b : Nat} {f : Nat → Int} (h : Pol w b f) (o : Obj) : Pol (w.alloc o) b f := Blk.alloc h o
theorem Pol.beside {w : World} {b : Nat} {f : Nat → Int} (h : Pol w b f) (a : Addr) (ha : a.block ≠ b) (v : Value) : Pol (w.setCell a v) b f := Blk.beside h a ha v
theorem Pol.new (w : World) (f : Nat → Int) : Pol (w.alloc (.cells #[.int .i64 (f 0), .int .i64 (f 1), .int .i64 (f 2), .int .i64 (f 3), .int .i64 (f 4), .int .i64 (f 5), .int .i64 (f 6)] 105)) w.heap.size f := Blk.new w _ _
theorem Pol.new' (w : World) (f : Nat → Int) {b : Nat} (hb : b = w.heap.size) : Pol (w.alloc (.cells #[.int .i64 (f 0), .int .i64 (f 1), .int .i64 (f 2), .int .i64 (f 3), .int .i64 (f 4), .int .i64 (f 5), .int .i64 (f 6)] 105)) b f := Blk.new' w _ _ hb
theorem Pol.congr {w : World} {b : Nat} {f g : Nat → Int} (h : Pol w b f) (he : ∀ i, i < 7 → f i = g i) : Pol w b g := by
  unfold Pol
  rw [← he 0 (by omega), ← he 1 (by omega), ← he 2 (by omega), ← he 3 (by omega), ← he 4 (by omega), ← he 5 (by omega), ← he 6 (by omega)]
  exact h
theorem Pol.set {w : World} {b : Nat} {f : Nat → Int} (h : Pol w b f) (j : Nat) (hj : j < 7) (v : Int) : Pol (w.setCell ⟨b, j, none⟩ (.int .i64 v)) b (upd f j v) := by
  have h1 := Blk.set h j (.int .i64 v)
  have e : (#[.int .i64 (f 0), .int .i64 (f 1), .int .i64 (f 2), .int .i64 (f 3), .int .i64 (f 4), .int .i64 (f 5), .int .i64 (f 6)] : Array Value).setIfInBounds j (.int .i64 v) = #[.int .i64 ((upd f j v) 0), .int .i64 ((upd f j v) 1), .int .i64 ((upd f j v) 2), .int .i64 ((upd f j v) 3), .int .i64 ((upd f j v) 4), .int .i64 ((upd f j v) 5), .int .i64 ((upd f j v) 6)] := by
    match j, hj with
    | 0, _ => rfl
    | 1, _ => rfl
    | 2, _ => rfl
    | 3, _ => rfl
    | 4, _ => rfl
    | 5, _ => rfl
    | 6, _ => rfl
  rw [e] at h1
  exact h1
theorem Pol.seven {w : World} {b : Nat} {f : Nat → Int} (h : Pol w b f) : w.cell? ⟨b, 0, none⟩ = some (.int .i64 (f 0)) ∧ w.cell? ⟨b, 1, none⟩ = some (.int .i64 (f 1)) ∧ w.cell? ⟨b, 2, none⟩ = some (.int .i64 (f 2)) ∧
    w.cell? ⟨b, 3, none⟩ = some (.int .i64 (f 3)) ∧ w.cell? ⟨b, 4, none⟩ = some (.int .i64 (f 4)) ∧ w.cell? ⟨b, 5, none⟩ = some (.int .i64 (f 5)) ∧ w.cell? ⟨b, 6, none⟩ = some (.int .i64 (f 6)) :=
  ⟨h.at 0 (by omega), h.at 1 (by omega), h.at 2 (by omega), h.at 3 (by omega), h.at 4 (by omega), h.at 5 (by omega), h.at 6 (by omega)⟩

theorem Pol.stored {w : World} {b : Nat} {f : Nat → Int} (h : Pol w b f) (g : Nat → Int) :
    Pol (((((((w.setCell ⟨b, 0, none⟩ (.int .i64 (g 0))).setCell ⟨b, 1, none⟩ (.int .i64 (g 1))).setCell ⟨b, 2, none⟩ (.int .i64 (g 2))).setCell ⟨b, 3, none⟩ (.int .i64 (g 3))).setCell ⟨b, 4, none⟩ (.int .i64 (g 4))).setCell ⟨b, 5, none⟩ (.int .i64 (g 5))).setCell ⟨b, 6, none⟩ (.int .i64 (g 6))) b g := by
  refine (((((((h.set 0 (by omega) (g 0)).set 1 (by omega) (g 1)).set 2 (by omega) (g 2)).set 3 (by omega) (g 3)).set 4 (by omega) (g 4)).set 5 (by omega) (g 5)).set 6 (by omega) (g 6)).congr fun i hi => ?_
  match i, hi with
  | 0, _ => rfl
  | 1, _ => rfl
  | 2, _ => rfl
  | 3, _ => rfl
  | 4, _ => rfl
  | 5, _ => rfl
  | 6, _ => rfl
theorem Ext.stored {a w : World} (h : Ext a w) {b : Nat} (hb : a.heap.size ≤ b) (v0 v1 v2 v3 v4 v5 v6 : Value) :
    Ext a (((((((w.setCell ⟨b, 0, none⟩ v0).setCell ⟨b, 1, none⟩ v1).setCell ⟨b, 2, none⟩ v2).setCell ⟨b, 3, none⟩ v3).setCell ⟨b, 4, none⟩ v4).setCell ⟨b, 5, none⟩ v5).setCell ⟨b, 6, none⟩ v6) :=
  ((((((h.set (p := ⟨b, 0, none⟩) hb _).set (p := ⟨b, 1, none⟩) hb _).set (p := ⟨b, 2, none⟩) hb _).set (p := ⟨b, 3, none⟩) hb _).set (p := ⟨b, 4, none⟩) hb _).set (p := ⟨b, 5, none⟩) hb _).set (p := ⟨b, 6, none⟩) hb _

theorem poly_set (f : Nat → Int) (j : Nat) (hj : j < 7) (v : Int) : ([.int .i64 (f 0), .int .i64 (f 1), .int .i64 (f 2), .int .i64 (f 3), .int .i64 (f 4), .int .i64 (f 5), .int .i64 (f 6)].set j (.int .i64 v) : List Value).toArray = #[.int .i64 ((upd f j v) 0), .int .i64 ((upd f j v) 1), .int .i64 ((upd f j v) 2), .int .i64 ((upd f j v) 3), .int .i64 ((upd f j v) 4), .int .i64 ((upd f j v) 5), .int .i64 ((upd f j v) 6)] := by
  match j, hj with
  | 0, _ => rfl
  | 1, _ => rfl
  | 2, _ => rfl
  | 3, _ => rfl
  | 4, _ => rfl
  | 5, _ => rfl
  | 6, _ => rfl

/-- The primes. -/
def primesL : List Int := [2, 3, 5, 7, 11, 13, 17, 19, 23, 29, 31, 37, 41, 43, 47, 53, 59, 61]
/-- The variable that holds them. -/
def Primes (w : World) : Prop := 0 < w.heap.size ∧ ∀ i, i < 18 → w.cell? ⟨0, i, none⟩ = some (.int .i64 (nth primesL i))
theorem Primes.ext {w w' : World} (h : Primes w) (hx : Ext w w') : Primes w' := ⟨Nat.lt_of_lt_of_le h.1 hx.size, fun i hi => (hx.cell h.1).trans (h.2 i hi)⟩

end Go.Proofs.YtnhdngnolepkcaaDoor

/- What field.digits answers. No conditions. -/
namespace Go.Proofs.YtnhdngnolepkcaaDoor
open Go.RowKit

/-- The digits, as a polynomial. -/
def dgI (p a i : Nat) : Int := (dgt p a i : Nat)
/-- Some of them. -/
def dgU (p a j i : Nat) : Int := if i < j then dgI p a i else 0
theorem dgU_succ (p a j i : Nat) : dgU p a (j + 1) i = upd (dgU p a j) j (dgt p a j : Nat) i := by
  unfold upd dgU dgI
  by_cases e : i = j
  · subst e; rw [if_pos (by omega), if_pos rfl]
  · rw [if_neg e]
    by_cases h : i < j
    · rw [if_pos (by omega), if_pos h]
    · rw [if_neg (by omega), if_neg h]

/-- A round's world. -/
structure DgSt (w wr : World) (p a j : Nat) : Prop where
  ext : Ext w wr
  res : Pol wr w.heap.size (fun _ => 0)
  out : Pol wr (w.heap.size + 1) (dgU p a j)
theorem DgSt.next {w wr : World} {p a j : Nat} (h : DgSt w wr p a j) (hj : j < 7) : DgSt w (wr.setCell ⟨w.heap.size + 1, j, none⟩ (.int .i64 (dgt p a j : Nat))) p a (j + 1) :=
  ⟨h.ext.set (by simp) _, h.res.beside _ (by simp) _, (h.out.set j hj _).congr fun i _ => (dgU_succ p a j i).symm⟩
theorem DgSt.drew {w wr : World} {p a j : Nat} (h : DgSt w wr p a j) : DgSt w wr.drew p a j := ⟨h.ext.drew, h.res.drew, h.out.drew⟩

set_option maxHeartbeats 4000000 in
theorem digits_any (p a : Nat) (w : World) (h2 : 2 ≤ p) (h61 : p ≤ 61) (ha : a < 128) :
    Calls Tryd.prog 77 #[.int .i64 p, .int .i64 a] w fun e w' => e = .returned (.agg #[.int .i64 ((dgI p a) 0), .int .i64 ((dgI p a) 1), .int .i64 ((dgI p a) 2), .int .i64 ((dgI p a) 3), .int .i64 ((dgI p a) 4), .int .i64 ((dgI p a) 5), .int .i64 ((dgI p a) 6)]) ∧ Ext w w' := by
  have H0 : Hid (DgSt w ((w.alloc (.cells #[.int .i64 0, .int .i64 0, .int .i64 0, .int .i64 0, .int .i64 0, .int .i64 0, .int .i64 0] 105)).alloc (.cells #[.int .i64 0, .int .i64 0, .int .i64 0, .int .i64 0, .int .i64 0, .int .i64 0, .int .i64 0] 105)) p a 0) :=
    ⟨((Ext.refl w).alloc _).alloc _, Pol.alloc (Pol.new w (fun _ => 0)) _, Pol.congr (f := fun _ => 0) (Pol.new' (w.alloc (.cells #[.int .i64 0, .int .i64 0, .int .i64 0, .int .i64 0, .int .i64 0, .int .i64 0, .int .i64 0] 105)) (fun _ => 0) (b := w.heap.size + 1) (by rw [World.size_alloc])) fun i _ => by show (0 : Int) = dgU p a 0 i; unfold dgU; rw [if_neg (by omega)]⟩
  go_enter Tryd.func77, Tryd.ntmps77
  go_wp2
  obtain ⟨w0, hw0⟩ : ∃ w0, w0 = (w.alloc (.cells #[.int .i64 0, .int .i64 0, .int .i64 0, .int .i64 0, .int .i64 0, .int .i64 0, .int .i64 0] 105)).alloc (.cells #[.int .i64 0, .int .i64 0, .int .i64 0, .int .i64 0, .int .i64 0, .int .i64 0, .int .i64 0] 105) := ⟨_, rfl⟩
  rw [← hw0] at H0 ⊢
  clear hw0
  go_loopw [1, 6] (fun n i wr => ∃ j A : Nat, j ≤ 7 ∧ i = .int .i64 j ∧ n = .int .i64 A ∧ A < 128 ∧ Hid (A = a / p ^ j) ∧ DgSt w wr p a j) (fun n _ _ => (intOf n).toNat)
  case atStart => exact ⟨0, a, by omega, rfl, rfl, ha, by show _ = _; simp, H0.out⟩
  case round =>
    obtain ⟨j, A, hj, rfl, rfl, hA, HA, hst⟩ := hrel
    have HS := Lib.hid hst
    clear hst H0
    by_cases hA0 : 0 < A
    · have hj7 : j < 7 := by
        rcases Nat.lt_or_ge j 7 with h | h
        · exact h
        · exfalso
          have h1 : 2 ^ 7 ≤ p ^ j := Nat.le_trans (Nat.pow_le_pow_left h2 7) (Nat.pow_le_pow_right (by omega) h)
          have h3 := HA.out
          rw [Nat.div_eq_of_lt (by omega)] at h3
          omega
      obtain ⟨d, hd⟩ : ∃ d, A % p = d := ⟨_, rfl⟩
      obtain ⟨B, hB⟩ : ∃ B, A / p = B := ⟨_, rfl⟩
      have hd' : (A : Int) % p = d := by rw [← hd]; simp
      have hB' : (A : Int) / p = B := by rw [← hB]; simp
      have hBA : B < A := by rw [← hB]; exact Nat.div_lt_self hA0 h2
      have HB : Hid (B = a / p ^ (j + 1)) := by show _ = _; rw [← hB, HA.out, Nat.div_div_eq_div_mul, Nat.pow_succ]
      have HN : Hid (DgSt w (wr.setCell ⟨w.heap.size + 1, j, none⟩ (.int .i64 (d : Nat))) p a (j + 1)) := by
        rw [← hd, HA.out]; exact HS.out.next hj7
      have k1 := HS.out.out.at j hj7
      have k2 := HS.out.out.f j
      have hp1 : (0 : Int) ≤ (j : Int) := by omega
      have hp2 : (j : Int) < 7 := by omega
      clear hd hB
      obtain ⟨wo, rfl⟩ : ∃ wo : World, wo = wr := ⟨_, rfl⟩
      go_wp2
      go_region
      all_goals
        go_wp2
        exact ⟨⟨j + 1, B, by omega, by go_num, rfl, by omega, HB, HN.out.drew⟩, by simp [intOf]; omega⟩
    · obtain rfl : A = 0 := by omega
      have HF : Hid (Pol wr (w.heap.size + 1) (dgI p a)) := HS.out.out.congr fun i hi => by
        unfold dgU
        by_cases h : i < j
        · rw [if_pos h]
        · rw [if_neg h]
          unfold dgI dgt
          have h1 := HA.out
          have h3 : a / p ^ i = 0 := by
            have : a < p ^ j := by
              rcases Nat.lt_or_ge a (p ^ j) with h4 | h4
              · exact h4
              · have := Nat.div_pos h4 (Nat.pow_pos (by omega)); omega
            exact Nat.div_eq_of_lt (Nat.lt_of_lt_of_le this (Nat.pow_le_pow_right (by omega) (by omega)))
          rw [h3]; simp
      have k1 := HF.out.seven
      have k2 := HS.out.res.seven
      have k3 := HS.out.res.f
      have HR := Lib.hid (HS.out.res.stored (dgI p a))
      have HX : Hid (Ext w _) := HS.out.ext.stored (b := w.heap.size) (Nat.le_refl _) (.int .i64 (dgI p a 0)) (.int .i64 (dgI p a 1)) (.int .i64 (dgI p a 2)) (.int .i64 (dgI p a 3)) (.int .i64 (dgI p a 4)) (.int .i64 (dgI p a 5)) (.int .i64 (dgI p a 6))
      go_wp2
      have k4 := HR.out.seven
      exact bodyPost_ret (v := .agg #[.int .i64 ((dgI p a) 0), .int .i64 ((dgI p a) 1), .int .i64 ((dgI p a) 2), .int .i64 ((dgI p a) 3), .int .i64 ((dgI p a) 4), .int .i64 ((dgI p a) 5), .int .i64 ((dgI p a) 6)]) (by simp [results, Tryd.results77, go_sem, k4]) rfl ⟨rfl, HX.out⟩

end Go.Proofs.YtnhdngnolepkcaaDoor

/- What field.divides answers: long division, digit by digit. No conditions. -/
namespace Go.Proofs.YtnhdngnolepkcaaDoor
open Go.RowKit

/-- One step of a division: from the place t on down. -/
def dvIn (p n t : Nat) (d f : Nat → Int) (i m : Nat) : Int := if t - n ≤ m ∧ m < t - n + i then (f m + (p - f t) * d (m - (t - n))) % p else f m
/-- .. a whole one. -/
def dvStep (p n t : Nat) (d f : Nat → Int) (m : Nat) : Int := dvIn p n t d f (n + 1) m
/-- Some steps. -/
def dvS (p n k : Nat) (d f : Nat → Int) : Nat → Nat → Int
  | 0 => f
  | c + 1 => dvStep p n (k - c) d (dvS p n k d f c)
/-- Is nothing left? -/
def allZ (g : Nat → Int) : Bool := g 0 == 0 && (g 1 == 0 && (g 2 == 0 && (g 3 == 0 && (g 4 == 0 && (g 5 == 0 && g 6 == 0)))))
def divF (p n k : Nat) (d f : Nat → Int) : Bool := allZ (dvS p n k d f (k + 1 - n))

theorem dvIn_zero (p n t : Nat) (d f : Nat → Int) (m : Nat) : dvIn p n t d f 0 m = f m := by unfold dvIn; rw [if_neg (by omega)]
theorem dvIn_succ {p n t : Nat} {d f : Nat → Int} {i : Nat} (m : Nat) : dvIn p n t d f (i + 1) m = upd (dvIn p n t d f i) (t - n + i) ((f (t - n + i) + (p - f t) * d i) % p) m := by
  unfold upd
  by_cases e : m = t - n + i
  · rw [if_pos e]
    unfold dvIn
    rw [if_pos (by omega), e, show t - n + i - (t - n) = i by omega]
  · rw [if_neg e]
    unfold dvIn
    by_cases h : t - n ≤ m ∧ m < t - n + i
    · rw [if_pos h, if_pos (by omega)]
    · rw [if_neg h, if_neg (by omega)]
/-- All places are digits. -/
def Dig (p : Nat) (f : Nat → Int) : Prop := ∀ m, 0 ≤ f m ∧ f m < p
theorem Dig.in_ {p n t : Nat} {d f : Nat → Int} (h : Dig p f) (hp : 0 < p) (i : Nat) : Dig p (dvIn p n t d f i) := fun m => by
  unfold dvIn
  split
  · exact ⟨Int.emod_nonneg _ (by omega), Int.emod_lt_of_pos _ (by omega)⟩
  · exact h m
theorem Dig.s {p n k : Nat} {d f : Nat → Int} (h : Dig p f) (hp : 0 < p) : ∀ c, Dig p (dvS p n k d f c)
  | 0 => h
  | c + 1 => (Dig.s h hp c).in_ hp (n + 1)
theorem dgI_dig {p : Nat} (hp : 0 < p) (a : Nat) : Dig p (dgI p a) := fun m => by
  have := dgt_lt hp a m
  unfold dgI; omega

/-- A round's world. -/
structure DvSt (w wr : World) (d f : Nat → Int) : Prop where
  ext : Ext w wr
  dp : Pol wr w.heap.size d
  ap : Pol wr (w.heap.size + 1) f
theorem DvSt.drew {w wr : World} {d f : Nat → Int} (h : DvSt w wr d f) : DvSt w wr.drew d f := ⟨h.ext.drew, h.dp.drew, h.ap.drew⟩
theorem DvSt.congr {w wr : World} {d f g : Nat → Int} (h : DvSt w wr d f) (he : ∀ m, m < 7 → f m = g m) : DvSt w wr d g := ⟨h.ext, h.dp, h.ap.congr he⟩
theorem DvSt.set {w wr : World} {d f : Nat → Int} (h : DvSt w wr d f) {j : Nat} (hj : j < 7) (v : Int) : DvSt w (wr.setCell ⟨w.heap.size + 1, j, none⟩ (.int .i64 v)) d (upd f j v) :=
  ⟨h.ext.set (by simp) _, h.dp.beside _ (by simp) _, h.ap.set j hj v⟩

set_option maxHeartbeats 1000000 in
theorem eq_zero7 (a0 a1 a2 a3 a4 a5 a6 : Int) (w : World) : (Op.equalIn 10000 105 (.agg #[.int .i64 a0, .int .i64 a1, .int .i64 a2, .int .i64 a3, .int .i64 a4, .int .i64 a5, .int .i64 a6]) (.agg #[.int .i64 0, .int .i64 0, .int .i64 0, .int .i64 0, .int .i64 0, .int .i64 0, .int .i64 0])).run Tryd.prog w = .ok (a0 == 0 && (a1 == 0 && (a2 == 0 && (a3 == 0 && (a4 == 0 && (a5 == 0 && a6 == 0)))))) w := by
  have u3 := Tryd.underlying3
  have a3' := Tryd.isAgg3
  have z3 := Tryd.sizeOf3
  rw [show (10000 : Nat) = 9999 + 1 from rfl, Op.equalIn]
  simp only [Sem.run_bind, run_underlying Tryd.underlying105, Result.andThen_ok]
  simp only [Std.Legacy.Range.forIn_eq_forIn_range', Std.Legacy.Range.size, Nat.sub_zero, Nat.add_sub_cancel, Nat.div_one, List.range'_succ, List.range'_zero, List.forIn_cons, List.forIn_nil]
  go_simp
  by_cases h0 : a0 = 0
  · by_cases h1 : a1 = 0
    · by_cases h2 : a2 = 0
      · by_cases h3 : a3 = 0
        · by_cases h4 : a4 = 0
          · by_cases h5 : a5 = 0
            · by_cases h6 : a6 = 0
              · simp [h0, h1, h2, h3, h4, h5, h6]
              · simp [h0, h1, h2, h3, h4, h5, h6]
            · simp [h0, h1, h2, h3, h4, h5]
          · simp [h0, h1, h2, h3, h4]
        · simp [h0, h1, h2, h3]
      · simp [h0, h1, h2]
    · simp [h0, h1]
  · simp [h0]

set_option maxHeartbeats 4000000 in
set_option maxRecDepth 100000 in
theorem divides_any (p n k : Nat) (d f : Nat → Int) (w : World) (h2 : 2 ≤ p) (h61 : p ≤ 61) (hn : 1 ≤ n) (hnk : n ≤ k) (hk : k ≤ 6) (hd : Dig (p + 1) d) (hf : Dig p f) :
    Calls Tryd.prog 81 #[.int .i64 p, .agg #[.int .i64 (d 0), .int .i64 (d 1), .int .i64 (d 2), .int .i64 (d 3), .int .i64 (d 4), .int .i64 (d 5), .int .i64 (d 6)], .int .i64 n, .agg #[.int .i64 (f 0), .int .i64 (f 1), .int .i64 (f 2), .int .i64 (f 3), .int .i64 (f 4), .int .i64 (f 5), .int .i64 (f 6)], .int .i64 k] w fun e w' => e = .returned (.bool (divF p n k d f)) ∧ Ext w w' := by
  have H0 : Hid (DvSt w ((w.alloc (.cells #[.int .i64 (d 0), .int .i64 (d 1), .int .i64 (d 2), .int .i64 (d 3), .int .i64 (d 4), .int .i64 (d 5), .int .i64 (d 6)] 105)).alloc (.cells #[.int .i64 (f 0), .int .i64 (f 1), .int .i64 (f 2), .int .i64 (f 3), .int .i64 (f 4), .int .i64 (f 5), .int .i64 (f 6)] 105)) d f) :=
    ⟨((Ext.refl w).alloc _).alloc _, (Pol.new w d).alloc _, Pol.new' (w.alloc (.cells #[.int .i64 (d 0), .int .i64 (d 1), .int .i64 (d 2), .int .i64 (d 3), .int .i64 (d 4), .int .i64 (d 5), .int .i64 (d 6)] 105)) f (b := w.heap.size + 1) (by rw [World.size_alloc])⟩
  have HD := Lib.hid hd
  have HF := Lib.hid hf
  clear hd hf
  go_enter Tryd.func81, Tryd.ntmps81
  go_wp2
  obtain ⟨w0, hw0⟩ : ∃ w0, w0 = (w.alloc (.cells #[.int .i64 (d 0), .int .i64 (d 1), .int .i64 (d 2), .int .i64 (d 3), .int .i64 (d 4), .int .i64 (d 5), .int .i64 (d 6)] 105)).alloc (.cells #[.int .i64 (f 0), .int .i64 (f 1), .int .i64 (f 2), .int .i64 (f 3), .int .i64 (f 4), .int .i64 (f 5), .int .i64 (f 6)] 105) := ⟨_, rfl⟩
  rw [← hw0] at H0 ⊢
  clear hw0
  go_loopw [11] (fun t wr => ∃ T c : Nat, t = .int .i64 T ∧ T + c = k ∧ n ≤ T + 1 ∧ DvSt w wr d (dvS p n k d f c)) (fun t _ => (intOf t + 1).toNat)
  case atStart => exact ⟨k, 0, rfl, by omega, by omega, H0.out⟩
  case round =>
    obtain ⟨t, c, rfl, hT, hTn, hst⟩ := hrel
    have HS := Lib.hid hst
    clear hst H0
    by_cases hlt : n ≤ t
    · have bT : decide (n ≤ t) = true := decide_eq_true hlt
      obtain ⟨wo, rfl⟩ : ∃ wo : World, wo = wr := ⟨_, rfl⟩
      have hkc : k - c = t := by omega
      obtain ⟨g, hg⟩ : ∃ g, dvS p n k d f c = g := ⟨_, rfl⟩
      have HG : Hid (Dig p g) := by rw [← hg]; exact HF.out.s (by omega) c
      have HNX : Hid (dvS p n k d f (c + 1) = dvStep p n t d g) := by show _ = _; rw [← hg, ← hkc]; rfl
      rw [hg] at HS
      have k1 := HS.out.ap.at t (by omega)
      obtain ⟨x, hx⟩ : ∃ x, g t = x := ⟨_, rfl⟩
      have hxb := HG.out t
      rw [hx] at k1 hxb
      have HXE := Lib.hid hx
      clear hg hx hkc
      go_wp2
      have H1 : Hid (DvSt w wo d (dvIn p n t d g 0)) := HS.out.congr fun m _ => (dvIn_zero p n t d g m).symm
      go_loopw [26] (fun a wr => ∃ i : Nat, i ≤ n + 1 ∧ a = .int .i64 i ∧ DvSt w wr d (dvIn p n t d g i)) (fun a _ => n + 1 - (intOf a).toNat)
      case atStart => exact ⟨0, by omega, rfl, H1.out⟩
      case round =>
        obtain ⟨i, hi, rfl, hst⟩ := hrel
        have HS2 := Lib.hid hst
        clear hst H1
        by_cases hin : i < n + 1
        · obtain ⟨q, hq⟩ : ∃ q, t - n + i = q := ⟨_, rfl⟩
          have hq' : (t : Int) - n + i = q := by omega
          have hq7 : q < 7 := by omega
          have hqa : (0 : Int) ≤ (q : Int) := by omega
          have hqb : (q : Int) < 7 := by omega
          have hia : (0 : Int) ≤ (i : Int) := by omega
          have hib : (i : Int) < 7 := by omega
          have k2 := HS2.out.ap.at q hq7
          have k3 := HS2.out.ap.f q
          have k4 := HS2.out.dp.at i (by omega)
          have hyE : dvIn p n t d g i q = g q := by unfold dvIn; rw [if_neg (by omega)]
          rw [hyE] at k2
          have hyb := HG.out q
          have hdb := HD.out i
          have HNE : Hid (DvSt w (wr.setCell ⟨w.heap.size + 1, q, none⟩ (.int .i64 ((g q + (p - x) * d i) % p))) d (dvIn p n t d g (i + 1))) := (HS2.out.set hq7 _).congr fun m _ => by
            rw [dvIn_succ, hq, HXE.out]
          obtain ⟨y, hy⟩ : ∃ y, g q = y := ⟨_, rfl⟩
          obtain ⟨e, he⟩ : ∃ e, d i = e := ⟨_, rfl⟩
          rw [hy] at k2 HNE hyb
          rw [he] at k4 HNE hdb
          obtain ⟨hyb1, hyb2⟩ := hyb
          obtain ⟨hdb1, hdb2⟩ := hdb
          obtain ⟨hxb1, hxb2⟩ := hxb
          have hm1 : 0 ≤ ((p : Int) - x) * e := Int.mul_nonneg (by omega) (by omega)
          have hm2 : ((p : Int) - x) * e ≤ 61 * 62 := Int.mul_le_mul (by omega) (by omega) (by omega) (by omega)
          obtain ⟨z, hz⟩ : ∃ z, ((p : Int) - x) * e = z := ⟨_, rfl⟩
          rw [hz] at hm1 hm2 HNE
          clear hy he hyE hq
          obtain ⟨wq, rfl⟩ : ∃ wq : World, wq = wr := ⟨_, rfl⟩
          go_wp2
          go_region
          all_goals
            go_wp2
            exact ⟨⟨i + 1, by omega, by go_num, HNE.out.drew⟩, by simp [intOf]; omega⟩
        · obtain rfl : i = n + 1 := by omega
          have HN : Hid (DvSt w wr d (dvS p n k d f (c + 1))) := by rw [HNX.out]; exact HS2.out
          go_wp2
          exact ⟨⟨t - 1, c + 1, by rw [show ((t - 1 : Nat) : Int) = (t : Int) - 1 by omega], by omega, by omega, HN.out⟩, by simp [intOf] <;> omega⟩
    · have bT : decide (n ≤ t) = false := decide_eq_false hlt
      have hc : k + 1 - n = c := by omega
      have HV : Hid (divF p n k d f = allZ (dvS p n k d f c)) := by show _ = _; unfold divF; rw [hc]
      have k1 := HS.out.ap.seven
      have hq := eq_zero7
      go_wp2
      go_ret
      exact ⟨by rw [HV.out]; rfl, HS.out.ext⟩

end Go.Proofs.YtnhdngnolepkcaaDoor
