/- What hada.Paley answers. -/
import Derived.Test.YtkdbdlkkjkiijaaSylvester
import Derived.Test.YtkdbdlkkjkiijaaTabs
import Derived.Outline
namespace Go.Proofs.Ytkdbdlkkjkiijaa
open Go.RowKit

/-- Is a number a square of one of the first ones behind 0? -/
def sqTo (p k x : Nat) : Bool := (List.range k).any fun n => n * n % p == x && n != 0
theorem sqTo_succ (p k x : Nat) (hk : 0 < k) : sqTo p (k + 1) x = if x = k * k % p then true else sqTo p k x := by
  unfold sqTo
  rw [List.range_succ, List.any_append]
  by_cases h : x = k * k % p
  · subst h; simp; right; omega
  · simp [h]; intro h2; exact absurd h2.symm h
/-- Paley's cells. -/
def palCell (p i j : Nat) : Int := if i = 0 ∨ j = 0 then sgB (i == 0) else sgB (i == j || sqTo p p ((j + p - i) % p))

/-- A row of truth values. -/
def bools (f : Nat → Bool) (n : Nat) : Array Value := ((List.range n).map fun q => Value.bool (f q)).toArray
theorem bools_get (f : Nat → Bool) (n j : Nat) (h : j < n) : (bools f n)[j]? = some (.bool (f j)) := by simp [bools, h]
theorem bools_set (f : Nat → Bool) (n j : Nat) (b : Bool) : (bools f n).setIfInBounds j (.bool b) = bools (fun q => if q = j then b else f q) n := by
  unfold bools
  apply Array.ext
  · simp
  · intro i h1 h2
    simp at h1 h2 ⊢
    rw [List.getElem_set]
    by_cases e : j = i
    · rw [if_pos e, if_pos e.symm]
    · rw [if_neg e, if_neg (Ne.symm e)]; simp
theorem bools_congr (f g : Nat → Bool) (n : Nat) (h : ∀ q, q < n → f q = g q) : bools f n = bools g n := by
  unfold bools
  congr 1
  apply List.map_congr_left
  intro q hq
  rw [h q (List.mem_range.1 hq)]

set_option maxHeartbeats 400000 in
theorem pal1_any (p i j sb pb : Nat) (w : World) (hp : 1 ≤ p) (hp2 : p ≤ 23) (hi : i ≤ p) (hj : j ≤ p) (hs : Blk w sb (bools (sqTo p p) 23) 53) (hpb : Blk w pb #[.int .i64 p] 3) :
    Calls Try.prog 33 #[.int .i64 i, .int .i64 j, .pointer (some ⟨sb, 0, none⟩), .pointer (some ⟨pb, 0, none⟩)] w fun e w' => e = .returned (.int .i64 (palCell p i j)) ∧ w = w' := by
  by_cases h0 : i = 0
  · have HV : Hid (palCell p i j = 1) := by show _ = _; unfold palCell; rw [if_pos (.inl h0), h0]; rfl
    have b1 : ((i : Int) == 0) = true := by rw [h0]; rfl
    clear h0
    go_enter Try.func33, Try.ntmps33
    go_wp2_with (go_at_call 31; refine (sign_any true _).mono ?_; rintro e w' ⟨rfl, rfl⟩)
    go_ret
    exact ⟨by rw [HV.out]; rfl, rfl⟩
  · have b1 : ((i : Int) == 0) = false := by rw [beq_eq_false_iff_ne]; omega
    by_cases h1 : j = 0
    · have HV : Hid (palCell p i j = -1) := by
        show _ = _; unfold palCell; rw [if_pos (.inr h1)]
        rw [show (i == 0) = false by rw [beq_eq_false_iff_ne]; omega]; rfl
      have b2 : ((j : Int) == 0) = true := by rw [h1]; rfl
      clear h1 h0
      go_enter Try.func33, Try.ntmps33
      go_wp2_with (go_at_call 31; refine (sign_any false _).mono ?_; rintro e w' ⟨rfl, rfl⟩)
      go_ret
      exact ⟨by rw [HV.out]; rfl, rfl⟩
    · have b2 : ((j : Int) == 0) = false := by rw [beq_eq_false_iff_ne]; omega
      by_cases h2 : i = j
      · have HV : Hid (palCell p i j = 1) := by
          show _ = _; unfold palCell; rw [if_neg (by omega), h2]; simp [sgB]
        have b3 : ((i : Int) == (j : Int)) = true := by rw [h2]; simp
        clear h0 h1 h2
        go_enter Try.func33, Try.ntmps33
        go_wp2_with (go_at_call 31; refine (sign_any true _).mono ?_; rintro e w' ⟨rfl, rfl⟩)
        go_ret
        exact ⟨by rw [HV.out]; rfl, rfl⟩
      · have HV : Hid (palCell p i j = sgB (sqTo p p ((j + p - i) % p))) := by
          show _ = _; unfold palCell; rw [if_neg (by omega), show (i == j) = false by rw [beq_eq_false_iff_ne]; exact h2]; rfl
        have b3 : ((i : Int) == (j : Int)) = false := by rw [beq_eq_false_iff_ne]; omega
        have b3' : (i == j) = false := by rw [beq_eq_false_iff_ne]; exact h2
        have hm : (j + p - i) % p < p := Nat.mod_lt _ hp
        have hmi : ((j : Int) - i + p) % p = ((j + p - i) % p : Nat) := by
          rw [Int.natCast_emod]; congr 1; omega
        obtain ⟨m, hmm⟩ : ∃ m, (j + p - i) % p = m := ⟨_, rfl⟩
        rw [hmm] at hm hmi HV
        have k1 := hs.c m _ (bools_get (sqTo p p) 23 m (by omega))
        have k2 := hpb.one
        obtain ⟨v, hv⟩ : ∃ v, sqTo p p m = v := ⟨_, rfl⟩
        rw [hv] at k1 HV
        clear h0 h1 h2 hs hpb hmm hv
        go_enter Try.func33, Try.ntmps33
        go_wp2_with (go_at_call 31; refine (sign_any v _).mono ?_; rintro e w' ⟨rfl, rfl⟩)
        go_ret
        exact ⟨by rw [HV.out]; rfl, rfl⟩

set_option maxHeartbeats 400000 in
theorem paley_range (p : Int) (w : World) (hp : p < 1 ∨ 23 < p) :
    Calls Try.prog 21 #[.int .i64 p] w fun e w' => e = .returned (.tuple #[.agg #[.int .i64 0, .slice none 0 0], .int .i64 1]) ∧ Ext w w' := by
  rcases hp with hp | hp
  · have b1 : decide (p < 1) = true := decide_eq_true hp
    go_enter Try.func21, Try.ntmps21
    go_wp2
    exact bodyPost_ret (v := .tuple #[.agg #[.int .i64 0, .slice none 0 0], .int .i64 1]) (by simp [results, Try.results21, go_sem]) rfl ⟨rfl, ((Ext.refl _).alloc _).alloc _⟩
  · have b1 : decide (p < 1) = false := decide_eq_false (by omega)
    have b2 : decide (23 < p) = true := decide_eq_true hp
    go_enter Try.func21, Try.ntmps21
    go_wp2
    exact bodyPost_ret (v := .tuple #[.agg #[.int .i64 0, .slice none 0 0], .int .i64 1]) (by simp [results, Try.results21, go_sem]) rfl ⟨rfl, ((Ext.refl _).alloc _).alloc _⟩

set_option maxHeartbeats 400000 in
theorem paley_none (p : Nat) (w : World) (hp : 1 ≤ p) (hp2 : p ≤ 23) (h3 : p ≠ 3) (h7 : p ≠ 7) (h11 : p ≠ 11) (h19 : p ≠ 19) (h23 : p ≠ 23) :
    Calls Try.prog 21 #[.int .i64 p] w fun e w' => e = .returned (.tuple #[.agg #[.int .i64 0, .slice none 0 0], .int .i64 4]) ∧ Ext w w' := by
  have b1 : decide ((p : Int) < 1) = false := decide_eq_false (by omega)
  have b2 : decide (23 < (p : Int)) = false := decide_eq_false (by omega)
  have c1 : ((p : Int) != 3) = true := by rw [bne_iff_ne]; omega
  have c2 : ((p : Int) != 7) = true := by rw [bne_iff_ne]; omega
  have c3 : ((p : Int) != 11) = true := by rw [bne_iff_ne]; omega
  have c4 : ((p : Int) != 19) = true := by rw [bne_iff_ne]; omega
  have c5 : ((p : Int) != 23) = true := by rw [bne_iff_ne]; omega
  clear h3 h7 h11 h19 h23
  go_enter Try.func21, Try.ntmps21
  go_wp2
  exact bodyPost_ret (v := .tuple #[.agg #[.int .i64 0, .slice none 0 0], .int .i64 4]) (by simp [results, Try.results21, go_sem]) rfl ⟨rfl, ((Ext.refl _).alloc _).alloc _⟩

theorem enter_pal1 : ∀ args w, (callFunc 33 args).run Try.prog w = .ok (.enter 33 args) w := fun _ _ => rfl

/-- The world that stands when the squares are counted. -/
def palW (w : World) (p : Nat) : World := ((w.alloc (.cells #[.int .i64 p] 3)).alloc (.cells #[.int .i64 0, .slice none 0 0] 24)).alloc
  (.cells #[.bool false, .bool false, .bool false, .bool false, .bool false, .bool false, .bool false, .bool false, .bool false, .bool false, .bool false, .bool false, .bool false, .bool false, .bool false, .bool false, .bool false, .bool false, .bool false, .bool false, .bool false, .bool false, .bool false] 53)
/-- The worlds in which they are. -/
structure PalSt (w wr : World) (p k : Nat) : Prop where
  ext : Ext w wr
  pb : Blk wr w.heap.size #[.int .i64 p] 3
  res : Blk wr (w.heap.size + 1) #[.int .i64 0, .slice none 0 0] 24
  sq : Blk wr (w.heap.size + 1 + 1) (bools (sqTo p k) 23) 53
theorem palSt_start (w : World) (p : Nat) : PalSt w (palW w p) p 1 := by
  refine ⟨(((Ext.refl w).alloc _).alloc _).alloc _, ((Blk.new _ _ _).alloc _).alloc _, (Blk.new' _ _ _ (by simp)).alloc _, ?_⟩
  have h : bools (sqTo p 1) 23 = bools (fun _ => false) 23 := bools_congr _ _ _ fun q _ => by simp [sqTo]
  rw [h]
  exact Blk.new' _ _ _ (by simp)
theorem PalSt.set {w wr : World} {p k m : Nat} (h : PalSt w wr p k) (hk : 0 < k) (hm : m = k * k % p) : PalSt w (wr.setCell ⟨w.heap.size + 1 + 1, m, none⟩ (.bool true)) p (k + 1) := by
  refine ⟨h.ext.set (by simp; omega) _, h.pb.beside _ (by simp; omega) _, h.res.beside _ (by simp) _, ?_⟩
  have := h.sq.set m (.bool true)
  rw [bools_set] at this
  rw [bools_congr (sqTo p (k + 1)) _ 23 (fun q _ => sqTo_succ p k q hk), ← hm]
  exact this
theorem cellOn_pal {w wr : World} {p : Nat} (h : PalSt w wr p p) (hp : 1 ≤ p) (hp2 : p ≤ 23) :
    CellOn 33 #[.pointer (some ⟨w.heap.size + 1 + 1, 0, none⟩), .pointer (some ⟨w.heap.size, 0, none⟩)] (p + 1) (palCell p) wr := by
  intro i j hi hj w' hb
  exact (pal1_any p i j _ _ w' hp hp2 (by omega) (by omega) (h.sq.ext hb) (h.pb.ext hb)).mono fun e w'' ⟨he, hw⟩ => ⟨he, hw ▸ Drawn.refl _⟩

set_option maxRecDepth 100000 in
set_option maxHeartbeats 1000000 in
theorem paley_ok (p : Nat) (w : World) (hp : p = 3 ∨ p = 7 ∨ p = 11 ∨ p = 19 ∨ p = 23) :
    Calls Try.prog 21 #[.int .i64 p] w fun e w' =>
      ∃ ao cap, e = .returned (.tuple #[.agg #[.int .i64 ((p : Int) + 1), .slice ao ((p + 1) * (p + 1)) cap], .int .i64 0]) ∧ RowOf 3 w' w.heap.size ao ((p + 1) * (p + 1)) cap (ints (tab (flat (p + 1) (palCell p)) ((p + 1) * (p + 1)))) ∧ Ext w w' := by
  have hp1 : 1 ≤ p := by omega
  have hp2 : p ≤ 23 := by omega
  have H0 := Lib.hid (palSt_start w p)
  rcases hp with hp | hp | hp | hp | hp
  · have c0 : ((p : Int) != 3) = false := by rw [hp]; rfl
    clear hp
    go_enter Try.func21, Try.ntmps21
    go_wp2
    obtain ⟨wA, hA⟩ : ∃ wA, wA = ((w.alloc (.cells #[.int .i64 p] 3)).alloc (.cells #[.int .i64 0, .slice none 0 0] 24)).alloc (.cells #[.bool false, .bool false, .bool false, .bool false, .bool false, .bool false, .bool false, .bool false, .bool false, .bool false, .bool false, .bool false, .bool false, .bool false, .bool false, .bool false, .bool false, .bool false, .bool false, .bool false, .bool false, .bool false, .bool false] 53) := ⟨_, rfl⟩
    have H1 : Hid (PalSt w wA p 1) := by rw [hA]; exact H0.out
    rw [← hA]
    clear hA H0
    go_loopw [5] (fun a wr => ∃ k : Nat, k + 1 ≤ p ∧ a = .int .i64 ((k : Int) + 1) ∧ PalSt w wr p (k + 1)) (fun a _ => p - (intOf a).toNat)
    case atStart => exact ⟨0, by omega, rfl, H1.out⟩
    case round =>
      obtain ⟨k, hk, rfl, hst⟩ := hrel
      have H1 := Lib.hid hst
      clear hst
      by_cases hlt : k + 1 < p
      · have hsq : (k + 1) * (k + 1) ≤ 529 := Nat.mul_le_mul (show k + 1 ≤ 23 by omega) (show k + 1 ≤ 23 by omega)
        obtain ⟨s, hs⟩ : ∃ s : Nat, s = (k + 1) * (k + 1) := ⟨_, rfl⟩
        have hs' : ((k : Int) + 1) * ((k : Int) + 1) = s := by rw [hs]; simp
        rw [← hs] at hsq
        have hm : s % p < p := Nat.mod_lt _ (by omega)
        have hm' : (s : Int) % p = (s % p : Nat) := by simp
        have HM : Hid (∃ m, m = s % p) := ⟨_, rfl⟩
        obtain ⟨m, hmm⟩ : ∃ m, m = s % p := ⟨_, rfl⟩
        rw [← hmm] at hm hm'
        have H2 : Hid (PalSt w (wr.setCell ⟨w.heap.size + 1 + 1, m, none⟩ (.bool true)) p (k + 1 + 1)) := H1.out.set (by omega) (by rw [hmm, hs])
        have k0 := H1.out.pb.one
        have k1 := H1.out.sq.c m _ (bools_get _ 23 m (by omega))
        have k2 := H1.out.sq.f m
        clear hs hmm HM
        go_wp2
        go_roundw
        case rel => exact ⟨k + 1, by omega, by go_num, H2.out⟩
        case measure => simp [intOf]; omega
      · have hkp : k + 1 = p := by omega
        rw [hkp] at H1
        have k0 := H1.out.pb.one
        have k1 := H1.out.res.two
        have hf := filled_any 33 #[.pointer (some ⟨w.heap.size + 1 + 1, 0, none⟩), .pointer (some ⟨w.heap.size, 0, none⟩)] (p + 1) (palCell p) wr (by omega) (cellOn_pal H1.out (by omega) (by omega)) enter_pal1
        rw [show ((p + 1 : Nat) : Int) = (p : Int) + 1 by simp] at hf
        have HF := Lib.hid hf
        clear hf hkp
        go_wp2_with fail
        refine Calls.mono HF.out ?_
        rintro e w1 ⟨ao, cap, rfl, hrow, hx⟩
        have X1 := Lib.hid (H1.out.res.ext hx)
        have k2 := X1.out.two
        have k3 := X1.out.f 0
        have k4 := X1.out.f 1
        have HR := Lib.hid (RowOf.mono hrow H1.out.res.lt)
        have HE := Lib.hid (H1.out.ext.trans hx)
        clear hrow hx k0 k1
        obtain ⟨N, hN⟩ : ∃ N, N = (p + 1) * (p + 1) := ⟨_, rfl⟩
        rw [← hN] at HR
        rw [← hN]
        have HNN := Lib.hid hN
        clear hN
        go_wp2
        have HRB := Lib.hid ((X1.out.set 0 (.int .i64 ((p : Int) + 1))).set 1 (.slice ao N cap))
        have e0 := HRB.out.c 0 (.int .i64 ((p : Int) + 1)) rfl
        have e1 := HRB.out.c 1 (.slice ao N cap) rfl
        refine bodyPost_ret (v := .tuple #[.agg #[.int .i64 ((p : Int) + 1), .slice ao N cap], .int .i64 0]) (by simp [results, Try.results21, go_sem, e0, e1]) rfl ⟨ao, cap, by rw [HNN.out], ?_, ?_⟩
        · rw [← HNN.out]; exact ((HR.out.beside ⟨w.heap.size + 1, 0, none⟩ (by simp) _).beside ⟨w.heap.size + 1, 1, none⟩ (by simp) _).mono (by omega)
        · exact (HE.out.set (p := ⟨w.heap.size + 1, 0, none⟩) (by simp) _).set (p := ⟨w.heap.size + 1, 1, none⟩) (by simp) _
  · have c0 : ((p : Int) != 3) = true := by rw [hp]; rfl
    have c1 : ((p : Int) != 7) = false := by rw [hp]; rfl
    clear hp
    go_enter Try.func21, Try.ntmps21
    go_wp2
    obtain ⟨wA, hA⟩ : ∃ wA, wA = ((w.alloc (.cells #[.int .i64 p] 3)).alloc (.cells #[.int .i64 0, .slice none 0 0] 24)).alloc (.cells #[.bool false, .bool false, .bool false, .bool false, .bool false, .bool false, .bool false, .bool false, .bool false, .bool false, .bool false, .bool false, .bool false, .bool false, .bool false, .bool false, .bool false, .bool false, .bool false, .bool false, .bool false, .bool false, .bool false] 53) := ⟨_, rfl⟩
    have H1 : Hid (PalSt w wA p 1) := by rw [hA]; exact H0.out
    rw [← hA]
    clear hA H0
    go_loopw [5] (fun a wr => ∃ k : Nat, k + 1 ≤ p ∧ a = .int .i64 ((k : Int) + 1) ∧ PalSt w wr p (k + 1)) (fun a _ => p - (intOf a).toNat)
    case atStart => exact ⟨0, by omega, rfl, H1.out⟩
    case round =>
      obtain ⟨k, hk, rfl, hst⟩ := hrel
      have H1 := Lib.hid hst
      clear hst
      by_cases hlt : k + 1 < p
      · have hsq : (k + 1) * (k + 1) ≤ 529 := Nat.mul_le_mul (show k + 1 ≤ 23 by omega) (show k + 1 ≤ 23 by omega)
        obtain ⟨s, hs⟩ : ∃ s : Nat, s = (k + 1) * (k + 1) := ⟨_, rfl⟩
        have hs' : ((k : Int) + 1) * ((k : Int) + 1) = s := by rw [hs]; simp
        rw [← hs] at hsq
        have hm : s % p < p := Nat.mod_lt _ (by omega)
        have hm' : (s : Int) % p = (s % p : Nat) := by simp
        have HM : Hid (∃ m, m = s % p) := ⟨_, rfl⟩
        obtain ⟨m, hmm⟩ : ∃ m, m = s % p := ⟨_, rfl⟩
        rw [← hmm] at hm hm'
        have H2 : Hid (PalSt w (wr.setCell ⟨w.heap.size + 1 + 1, m, none⟩ (.bool true)) p (k + 1 + 1)) := H1.out.set (by omega) (by rw [hmm, hs])
        have k0 := H1.out.pb.one
        have k1 := H1.out.sq.c m _ (bools_get _ 23 m (by omega))
        have k2 := H1.out.sq.f m
        clear hs hmm HM
        go_wp2
        go_roundw
        case rel => exact ⟨k + 1, by omega, by go_num, H2.out⟩
        case measure => simp [intOf]; omega
      · have hkp : k + 1 = p := by omega
        rw [hkp] at H1
        have k0 := H1.out.pb.one
        have k1 := H1.out.res.two
        have hf := filled_any 33 #[.pointer (some ⟨w.heap.size + 1 + 1, 0, none⟩), .pointer (some ⟨w.heap.size, 0, none⟩)] (p + 1) (palCell p) wr (by omega) (cellOn_pal H1.out (by omega) (by omega)) enter_pal1
        rw [show ((p + 1 : Nat) : Int) = (p : Int) + 1 by simp] at hf
        have HF := Lib.hid hf
        clear hf hkp
        go_wp2_with fail
        refine Calls.mono HF.out ?_
        rintro e w1 ⟨ao, cap, rfl, hrow, hx⟩
        have X1 := Lib.hid (H1.out.res.ext hx)
        have k2 := X1.out.two
        have k3 := X1.out.f 0
        have k4 := X1.out.f 1
        have HR := Lib.hid (RowOf.mono hrow H1.out.res.lt)
        have HE := Lib.hid (H1.out.ext.trans hx)
        clear hrow hx k0 k1
        obtain ⟨N, hN⟩ : ∃ N, N = (p + 1) * (p + 1) := ⟨_, rfl⟩
        rw [← hN] at HR
        rw [← hN]
        have HNN := Lib.hid hN
        clear hN
        go_wp2
        have HRB := Lib.hid ((X1.out.set 0 (.int .i64 ((p : Int) + 1))).set 1 (.slice ao N cap))
        have e0 := HRB.out.c 0 (.int .i64 ((p : Int) + 1)) rfl
        have e1 := HRB.out.c 1 (.slice ao N cap) rfl
        refine bodyPost_ret (v := .tuple #[.agg #[.int .i64 ((p : Int) + 1), .slice ao N cap], .int .i64 0]) (by simp [results, Try.results21, go_sem, e0, e1]) rfl ⟨ao, cap, by rw [HNN.out], ?_, ?_⟩
        · rw [← HNN.out]; exact ((HR.out.beside ⟨w.heap.size + 1, 0, none⟩ (by simp) _).beside ⟨w.heap.size + 1, 1, none⟩ (by simp) _).mono (by omega)
        · exact (HE.out.set (p := ⟨w.heap.size + 1, 0, none⟩) (by simp) _).set (p := ⟨w.heap.size + 1, 1, none⟩) (by simp) _
  · have c0 : ((p : Int) != 3) = true := by rw [hp]; rfl
    have c1 : ((p : Int) != 7) = true := by rw [hp]; rfl
    have c2 : ((p : Int) != 11) = false := by rw [hp]; rfl
    clear hp
    go_enter Try.func21, Try.ntmps21
    go_wp2
    obtain ⟨wA, hA⟩ : ∃ wA, wA = ((w.alloc (.cells #[.int .i64 p] 3)).alloc (.cells #[.int .i64 0, .slice none 0 0] 24)).alloc (.cells #[.bool false, .bool false, .bool false, .bool false, .bool false, .bool false, .bool false, .bool false, .bool false, .bool false, .bool false, .bool false, .bool false, .bool false, .bool false, .bool false, .bool false, .bool false, .bool false, .bool false, .bool false, .bool false, .bool false] 53) := ⟨_, rfl⟩
    have H1 : Hid (PalSt w wA p 1) := by rw [hA]; exact H0.out
    rw [← hA]
    clear hA H0
    go_loopw [5] (fun a wr => ∃ k : Nat, k + 1 ≤ p ∧ a = .int .i64 ((k : Int) + 1) ∧ PalSt w wr p (k + 1)) (fun a _ => p - (intOf a).toNat)
    case atStart => exact ⟨0, by omega, rfl, H1.out⟩
    case round =>
      obtain ⟨k, hk, rfl, hst⟩ := hrel
      have H1 := Lib.hid hst
      clear hst
      by_cases hlt : k + 1 < p
      · have hsq : (k + 1) * (k + 1) ≤ 529 := Nat.mul_le_mul (show k + 1 ≤ 23 by omega) (show k + 1 ≤ 23 by omega)
        obtain ⟨s, hs⟩ : ∃ s : Nat, s = (k + 1) * (k + 1) := ⟨_, rfl⟩
        have hs' : ((k : Int) + 1) * ((k : Int) + 1) = s := by rw [hs]; simp
        rw [← hs] at hsq
        have hm : s % p < p := Nat.mod_lt _ (by omega)
        have hm' : (s : Int) % p = (s % p : Nat) := by simp
        have HM : Hid (∃ m, m = s % p) := ⟨_, rfl⟩
        obtain ⟨m, hmm⟩ : ∃ m, m = s % p := ⟨_, rfl⟩
        rw [← hmm] at hm hm'
        have H2 : Hid (PalSt w (wr.setCell ⟨w.heap.size + 1 + 1, m, none⟩ (.bool true)) p (k + 1 + 1)) := H1.out.set (by omega) (by rw [hmm, hs])
        have k0 := H1.out.pb.one
        have k1 := H1.out.sq.c m _ (bools_get _ 23 m (by omega))
        have k2 := H1.out.sq.f m
        clear hs hmm HM
        go_wp2
        go_roundw
        case rel => exact ⟨k + 1, by omega, by go_num, H2.out⟩
        case measure => simp [intOf]; omega
      · have hkp : k + 1 = p := by omega
        rw [hkp] at H1
        have k0 := H1.out.pb.one
        have k1 := H1.out.res.two
        have hf := filled_any 33 #[.pointer (some ⟨w.heap.size + 1 + 1, 0, none⟩), .pointer (some ⟨w.heap.size, 0, none⟩)] (p + 1) (palCell p) wr (by omega) (cellOn_pal H1.out (by omega) (by omega)) enter_pal1
        rw [show ((p + 1 : Nat) : Int) = (p : Int) + 1 by simp] at hf
        have HF := Lib.hid hf
        clear hf hkp
        go_wp2_with fail
        refine Calls.mono HF.out ?_
        rintro e w1 ⟨ao, cap, rfl, hrow, hx⟩
        have X1 := Lib.hid (H1.out.res.ext hx)
        have k2 := X1.out.two
        have k3 := X1.out.f 0
        have k4 := X1.out.f 1
        have HR := Lib.hid (RowOf.mono hrow H1.out.res.lt)
        have HE := Lib.hid (H1.out.ext.trans hx)
        clear hrow hx k0 k1
        obtain ⟨N, hN⟩ : ∃ N, N = (p + 1) * (p + 1) := ⟨_, rfl⟩
        rw [← hN] at HR
        rw [← hN]
        have HNN := Lib.hid hN
        clear hN
        go_wp2
        have HRB := Lib.hid ((X1.out.set 0 (.int .i64 ((p : Int) + 1))).set 1 (.slice ao N cap))
        have e0 := HRB.out.c 0 (.int .i64 ((p : Int) + 1)) rfl
        have e1 := HRB.out.c 1 (.slice ao N cap) rfl
        refine bodyPost_ret (v := .tuple #[.agg #[.int .i64 ((p : Int) + 1), .slice ao N cap], .int .i64 0]) (by simp [results, Try.results21, go_sem, e0, e1]) rfl ⟨ao, cap, by rw [HNN.out], ?_, ?_⟩
        · rw [← HNN.out]; exact ((HR.out.beside ⟨w.heap.size + 1, 0, none⟩ (by simp) _).beside ⟨w.heap.size + 1, 1, none⟩ (by simp) _).mono (by omega)
        · exact (HE.out.set (p := ⟨w.heap.size + 1, 0, none⟩) (by simp) _).set (p := ⟨w.heap.size + 1, 1, none⟩) (by simp) _
  · have c0 : ((p : Int) != 3) = true := by rw [hp]; rfl
    have c1 : ((p : Int) != 7) = true := by rw [hp]; rfl
    have c2 : ((p : Int) != 11) = true := by rw [hp]; rfl
    have c3 : ((p : Int) != 19) = false := by rw [hp]; rfl
    clear hp
    go_enter Try.func21, Try.ntmps21
    go_wp2
    obtain ⟨wA, hA⟩ : ∃ wA, wA = ((w.alloc (.cells #[.int .i64 p] 3)).alloc (.cells #[.int .i64 0, .slice none 0 0] 24)).alloc (.cells #[.bool false, .bool false, .bool false, .bool false, .bool false, .bool false, .bool false, .bool false, .bool false, .bool false, .bool false, .bool false, .bool false, .bool false, .bool false, .bool false, .bool false, .bool false, .bool false, .bool false, .bool false, .bool false, .bool false] 53) := ⟨_, rfl⟩
    have H1 : Hid (PalSt w wA p 1) := by rw [hA]; exact H0.out
    rw [← hA]
    clear hA H0
    go_loopw [5] (fun a wr => ∃ k : Nat, k + 1 ≤ p ∧ a = .int .i64 ((k : Int) + 1) ∧ PalSt w wr p (k + 1)) (fun a _ => p - (intOf a).toNat)
    case atStart => exact ⟨0, by omega, rfl, H1.out⟩
    case round =>
      obtain ⟨k, hk, rfl, hst⟩ := hrel
      have H1 := Lib.hid hst
      clear hst
      by_cases hlt : k + 1 < p
      · have hsq : (k + 1) * (k + 1) ≤ 529 := Nat.mul_le_mul (show k + 1 ≤ 23 by omega) (show k + 1 ≤ 23 by omega)
        obtain ⟨s, hs⟩ : ∃ s : Nat, s = (k + 1) * (k + 1) := ⟨_, rfl⟩
        have hs' : ((k : Int) + 1) * ((k : Int) + 1) = s := by rw [hs]; simp
        rw [← hs] at hsq
        have hm : s % p < p := Nat.mod_lt _ (by omega)
        have hm' : (s : Int) % p = (s % p : Nat) := by simp
        have HM : Hid (∃ m, m = s % p) := ⟨_, rfl⟩
        obtain ⟨m, hmm⟩ : ∃ m, m = s % p := ⟨_, rfl⟩
        rw [← hmm] at hm hm'
        have H2 : Hid (PalSt w (wr.setCell ⟨w.heap.size + 1 + 1, m, none⟩ (.bool true)) p (k + 1 + 1)) := H1.out.set (by omega) (by rw [hmm, hs])
        have k0 := H1.out.pb.one
        have k1 := H1.out.sq.c m _ (bools_get _ 23 m (by omega))
        have k2 := H1.out.sq.f m
        clear hs hmm HM
        go_wp2
        go_roundw
        case rel => exact ⟨k + 1, by omega, by go_num, H2.out⟩
        case measure => simp [intOf]; omega
      · have hkp : k + 1 = p := by omega
        rw [hkp] at H1
        have k0 := H1.out.pb.one
        have k1 := H1.out.res.two
        have hf := filled_any 33 #[.pointer (some ⟨w.heap.size + 1 + 1, 0, none⟩), .pointer (some ⟨w.heap.size, 0, none⟩)] (p + 1) (palCell p) wr (by omega) (cellOn_pal H1.out (by omega) (by omega)) enter_pal1
        rw [show ((p + 1 : Nat) : Int) = (p : Int) + 1 by simp] at hf
        have HF := Lib.hid hf
        clear hf hkp
        go_wp2_with fail
        refine Calls.mono HF.out ?_
        rintro e w1 ⟨ao, cap, rfl, hrow, hx⟩
        have X1 := Lib.hid (H1.out.res.ext hx)
        have k2 := X1.out.two
        have k3 := X1.out.f 0
        have k4 := X1.out.f 1
        have HR := Lib.hid (RowOf.mono hrow H1.out.res.lt)
        have HE := Lib.hid (H1.out.ext.trans hx)
        clear hrow hx k0 k1
        obtain ⟨N, hN⟩ : ∃ N, N = (p + 1) * (p + 1) := ⟨_, rfl⟩
        rw [← hN] at HR
        rw [← hN]
        have HNN := Lib.hid hN
        clear hN
        go_wp2
        have HRB := Lib.hid ((X1.out.set 0 (.int .i64 ((p : Int) + 1))).set 1 (.slice ao N cap))
        have e0 := HRB.out.c 0 (.int .i64 ((p : Int) + 1)) rfl
        have e1 := HRB.out.c 1 (.slice ao N cap) rfl
        refine bodyPost_ret (v := .tuple #[.agg #[.int .i64 ((p : Int) + 1), .slice ao N cap], .int .i64 0]) (by simp [results, Try.results21, go_sem, e0, e1]) rfl ⟨ao, cap, by rw [HNN.out], ?_, ?_⟩
        · rw [← HNN.out]; exact ((HR.out.beside ⟨w.heap.size + 1, 0, none⟩ (by simp) _).beside ⟨w.heap.size + 1, 1, none⟩ (by simp) _).mono (by omega)
        · exact (HE.out.set (p := ⟨w.heap.size + 1, 0, none⟩) (by simp) _).set (p := ⟨w.heap.size + 1, 1, none⟩) (by simp) _
  · have c0 : ((p : Int) != 3) = true := by rw [hp]; rfl
    have c1 : ((p : Int) != 7) = true := by rw [hp]; rfl
    have c2 : ((p : Int) != 11) = true := by rw [hp]; rfl
    have c3 : ((p : Int) != 19) = true := by rw [hp]; rfl
    have c4 : ((p : Int) != 23) = false := by rw [hp]; rfl
    clear hp
    go_enter Try.func21, Try.ntmps21
    go_wp2
    obtain ⟨wA, hA⟩ : ∃ wA, wA = ((w.alloc (.cells #[.int .i64 p] 3)).alloc (.cells #[.int .i64 0, .slice none 0 0] 24)).alloc (.cells #[.bool false, .bool false, .bool false, .bool false, .bool false, .bool false, .bool false, .bool false, .bool false, .bool false, .bool false, .bool false, .bool false, .bool false, .bool false, .bool false, .bool false, .bool false, .bool false, .bool false, .bool false, .bool false, .bool false] 53) := ⟨_, rfl⟩
    have H1 : Hid (PalSt w wA p 1) := by rw [hA]; exact H0.out
    rw [← hA]
    clear hA H0
    go_loopw [5] (fun a wr => ∃ k : Nat, k + 1 ≤ p ∧ a = .int .i64 ((k : Int) + 1) ∧ PalSt w wr p (k + 1)) (fun a _ => p - (intOf a).toNat)
    case atStart => exact ⟨0, by omega, rfl, H1.out⟩
    case round =>
      obtain ⟨k, hk, rfl, hst⟩ := hrel
      have H1 := Lib.hid hst
      clear hst
      by_cases hlt : k + 1 < p
      · have hsq : (k + 1) * (k + 1) ≤ 529 := Nat.mul_le_mul (show k + 1 ≤ 23 by omega) (show k + 1 ≤ 23 by omega)
        obtain ⟨s, hs⟩ : ∃ s : Nat, s = (k + 1) * (k + 1) := ⟨_, rfl⟩
        have hs' : ((k : Int) + 1) * ((k : Int) + 1) = s := by rw [hs]; simp
        rw [← hs] at hsq
        have hm : s % p < p := Nat.mod_lt _ (by omega)
        have hm' : (s : Int) % p = (s % p : Nat) := by simp
        have HM : Hid (∃ m, m = s % p) := ⟨_, rfl⟩
        obtain ⟨m, hmm⟩ : ∃ m, m = s % p := ⟨_, rfl⟩
        rw [← hmm] at hm hm'
        have H2 : Hid (PalSt w (wr.setCell ⟨w.heap.size + 1 + 1, m, none⟩ (.bool true)) p (k + 1 + 1)) := H1.out.set (by omega) (by rw [hmm, hs])
        have k0 := H1.out.pb.one
        have k1 := H1.out.sq.c m _ (bools_get _ 23 m (by omega))
        have k2 := H1.out.sq.f m
        clear hs hmm HM
        go_wp2
        go_roundw
        case rel => exact ⟨k + 1, by omega, by go_num, H2.out⟩
        case measure => simp [intOf]; omega
      · have hkp : k + 1 = p := by omega
        rw [hkp] at H1
        have k0 := H1.out.pb.one
        have k1 := H1.out.res.two
        have hf := filled_any 33 #[.pointer (some ⟨w.heap.size + 1 + 1, 0, none⟩), .pointer (some ⟨w.heap.size, 0, none⟩)] (p + 1) (palCell p) wr (by omega) (cellOn_pal H1.out (by omega) (by omega)) enter_pal1
        rw [show ((p + 1 : Nat) : Int) = (p : Int) + 1 by simp] at hf
        have HF := Lib.hid hf
        clear hf hkp
        go_wp2_with fail
        refine Calls.mono HF.out ?_
        rintro e w1 ⟨ao, cap, rfl, hrow, hx⟩
        have X1 := Lib.hid (H1.out.res.ext hx)
        have k2 := X1.out.two
        have k3 := X1.out.f 0
        have k4 := X1.out.f 1
        have HR := Lib.hid (RowOf.mono hrow H1.out.res.lt)
        have HE := Lib.hid (H1.out.ext.trans hx)
        clear hrow hx k0 k1
        obtain ⟨N, hN⟩ : ∃ N, N = (p + 1) * (p + 1) := ⟨_, rfl⟩
        rw [← hN] at HR
        rw [← hN]
        have HNN := Lib.hid hN
        clear hN
        go_wp2
        have HRB := Lib.hid ((X1.out.set 0 (.int .i64 ((p : Int) + 1))).set 1 (.slice ao N cap))
        have e0 := HRB.out.c 0 (.int .i64 ((p : Int) + 1)) rfl
        have e1 := HRB.out.c 1 (.slice ao N cap) rfl
        refine bodyPost_ret (v := .tuple #[.agg #[.int .i64 ((p : Int) + 1), .slice ao N cap], .int .i64 0]) (by simp [results, Try.results21, go_sem, e0, e1]) rfl ⟨ao, cap, by rw [HNN.out], ?_, ?_⟩
        · rw [← HNN.out]; exact ((HR.out.beside ⟨w.heap.size + 1, 0, none⟩ (by simp) _).beside ⟨w.heap.size + 1, 1, none⟩ (by simp) _).mono (by omega)
        · exact (HE.out.set (p := ⟨w.heap.size + 1, 0, none⟩) (by simp) _).set (p := ⟨w.heap.size + 1, 1, none⟩) (by simp) _

end Go.Proofs.Ytkdbdlkkjkiijaa
