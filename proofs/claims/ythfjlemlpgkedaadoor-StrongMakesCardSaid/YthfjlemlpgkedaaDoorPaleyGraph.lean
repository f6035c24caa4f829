/- What strong.Paley answers. Condition: the variable of primes holds them. -/
import Derived.Test.YthfjlemlpgkedaaDoorFSquares
import Derived.Test.YthfjlemlpgkedaaDoorFOps
import Derived.Test.YthfjlemlpgkedaaDoorSlicesExt
import Derived.Test.YthfjlemlpgkedaaDoorJoined
namespace Go.Proofs.YthfjlemlpgkedaaDoor
open Go.RowKit

/-- Is a number less another a square? -/
def palAdds (p k : Nat) (a b : Nat) (s : Int) : Bool := ((addF p k a s.toNat : Nat) : Int) == (b : Int)
def palJoin (p k : Nat) (low : List Int) (a b : Nat) : Bool := (sqUp (sqSeen p k low (p ^ k)) 64).any (palAdds p k a b)

theorem sq_lt {p k : Nat} {low : List Int} (hF : IsField p k low) {x : Int} (hx : x ∈ sqUp (sqSeen p k low (p ^ k)) 64) : ∃ s : Nat, x = s ∧ s < p ^ k := by
  obtain ⟨s, _, h2, h3⟩ := (sqUp_mem _ x 64).1 hx
  obtain ⟨a, _, _, h4⟩ := sqSeen_true.1 h3
  exact ⟨s, h2, by rw [← h4]; exact mulF_lt (by have := hF.p2; omega) a a⟩

set_option maxHeartbeats 1000000 in
theorem paley_adds (p k a b rf ra rb : Nat) (ao : Option Addr) (cap : Nat) (low : List Int) (w : World) (hP : Primes w) (hF : IsField p k low) (hr : Reads w ao (ints low)) (ha : a < p ^ k)
    (hf : Blk w rf #[.int .i64 p, .int .i64 k, .slice ao k cap] 24) (hba : Blk w ra #[.int .i64 a] 3) (hbb : Blk w rb #[.int .i64 b] 3) :
    PredExt 16 #[.pointer (some ⟨rf, 0, none⟩), .pointer (some ⟨ra, 0, none⟩), .pointer (some ⟨rb, 0, none⟩)] (sqUp (sqSeen p k low (p ^ k)) 64) (palAdds p k a b) w := by
  intro x hx w' hxw
  obtain ⟨s, rfl, hs⟩ := sq_lt hF hx
  have HA := Lib.hid (fieldAdd_ok p k a s ao k cap low w' (hP.ext hxw) hF hF.len (hxw.reads hr) ha hs)
  have k1 := (hf.ext hxw).c
  have k2 := (hba.ext hxw).one
  have HBB := Lib.hid (hbb.ext hxw)
  have k10 := k1 0 _ rfl
  have k11 := k1 1 _ rfl
  have k12 := k1 2 _ rfl
  unfold palAdds
  rw [Int.toNat_natCast]
  obtain ⟨v, hv⟩ : ∃ v, addF p k a s = v := ⟨_, rfl⟩
  rw [hv] at HA ⊢
  clear hx hs hv k1 hP hF hr ha hf hba hbb hxw
  go_enter Tryd.func16, Tryd.ntmps16
  go_wp2_with fail
  refine Calls.mono HA.out ?_
  rintro e w1 ⟨rfl, hx1⟩
  have k3 := (HBB.out.ext hx1).one
  have HX1 := Lib.hid hx1
  clear hx1
  go_wp2
  go_ret
  exact ⟨rfl, HX1.out⟩

set_option maxHeartbeats 1000000 in
theorem paley_cell (p k a b rs rf n2 cap2 : Nat) (ao ao2 : Option Addr) (cap : Nat) (low : List Int) (w : World) (hP : Primes w) (hF : IsField p k low) (hr : Reads w ao (ints low)) (ha : a < p ^ k)
    (hf : Blk w rf #[.int .i64 p, .int .i64 k, .slice ao k cap] 24) (hs : Blk w rs #[.slice ao2 n2 cap2] 22) (hn2 : (sqUp (sqSeen p k low (p ^ k)) 64).length = n2) (hr2 : Reads w ao2 (ints (sqUp (sqSeen p k low (p ^ k)) 64))) :
    Calls Tryd.prog 14 #[.int .i64 a, .int .i64 b, .pointer (some ⟨rs, 0, none⟩), .pointer (some ⟨rf, 0, none⟩)] w fun e w' => e = .returned (.bool (palJoin p k low a b)) ∧ Ext w w' := by
  have hle := sqUp_len (sqSeen p k low (p ^ k)) 64
  rw [hn2] at hle
  have HX0 : Hid (Ext w ((w.alloc (.cells #[.int .i64 a] 3)).alloc (.cells #[.int .i64 b] 3))) := ((Ext.refl w).alloc _).alloc _
  have HP := Lib.hid (paley_adds p k a b rf w.heap.size (w.heap.size + 1) ao cap low _ (hP.ext HX0.out) hF (HX0.out.reads hr) ha (hf.ext HX0.out) ((Blk.new w #[.int .i64 a] 3).alloc _) (Blk.new' _ _ _ (by simp)))
  have HC := Lib.hid (containsFunc_ext 16 #[.pointer (some ⟨rf, 0, none⟩), .pointer (some ⟨w.heap.size, 0, none⟩), .pointer (some ⟨w.heap.size + 1, 0, none⟩)] ao2 n2 cap2 _ (palAdds p k a b) _ hn2 (by unfold maxLen; omega) (HX0.out.reads hr2) HP.out (fun _ _ => rfl))
  have k1 := (hs.ext HX0.out).one
  unfold palJoin
  obtain ⟨v, hv⟩ : ∃ v, (sqUp (sqSeen p k low (p ^ k)) 64).any (palAdds p k a b) = v := ⟨_, rfl⟩
  rw [hv] at HC ⊢
  clear hP hF hr ha hf hs hn2 hr2 HP hv hle
  go_enter Tryd.func14, Tryd.ntmps14
  go_wp2_with fail
  refine Calls.mono HC.out ?_
  rintro e w1 ⟨rfl, hx1⟩
  have HX1 := Lib.hid hx1
  clear hx1
  go_wp2
  go_ret
  exact ⟨rfl, HX0.out.trans HX1.out⟩

set_option maxHeartbeats 1000000 in
theorem paley_no (p k : Int) (ao : Option Addr) (len cap : Nat) (low : List Int) (w : World) (hP : Primes w) (hl : low.length = len) (hr : Reads w ao (ints low)) (h0 : fieldFault p k low ≠ 0) :
    Calls Tryd.prog 4 #[.agg #[.int .i64 p, .int .i64 k, .slice ao len cap]] w fun e w' => e = .returned (.tuple #[.agg #[.int .i64 0, .slice none 0 0], .int .i64 (fieldFault p k low)]) ∧ Ext w w' := by
  have HX0 : Hid (Ext w ((w.alloc (.cells #[.int .i64 p, .int .i64 k, .slice ao len cap] 24)).alloc (.cells #[.int .i64 0, .slice none 0 0] 26))) := ((Ext.refl w).alloc _).alloc _
  have HB : Hid (Blk ((w.alloc (.cells #[.int .i64 p, .int .i64 k, .slice ao len cap] 24)).alloc (.cells #[.int .i64 0, .slice none 0 0] 26)) (w.heap.size + 1) #[.int .i64 0, .slice none 0 0] 26) := Blk.new' _ _ _ (by simp)
  have HO := Lib.hid (squares_no p k ao len cap low _ (hP.ext HX0.out) hl (HX0.out.reads hr) h0)
  obtain ⟨c, hc⟩ : ∃ c, fieldFault p k low = c := ⟨_, rfl⟩
  rw [hc] at h0 HO ⊢
  have b1 : (c != 0) = true := by rw [bne_iff_ne]; exact h0
  clear hc hP hl hr h0
  go_enter Tryd.func4, Tryd.ntmps4
  go_wp2_with fail
  refine Calls.mono HO.out ?_
  rintro e w1 ⟨rfl, hx⟩
  have HX := Lib.hid (HX0.out.trans hx)
  have HB1 := Lib.hid (HB.out.ext hx)
  have HB1a := Lib.hid (HB1.out.alloc (.cells #[.slice none 0 0] 22))
  have k2 := HB1a.out.f 0
  have k2b := HB1a.out.f 1
  have k3 := HB1a.out.two
  have HB2 := Lib.hid (((HB1.out.alloc (.cells #[.slice none 0 0] 22)).set 0 (.int .i64 0)).set 1 (.slice none 0 0))
  clear hx
  go_wp2
  have e0 := HB2.out.c 0 (.int .i64 0) rfl
  have e1 := HB2.out.c 1 (.slice none 0 0) rfl
  refine bodyPost_ret (v := .tuple #[.agg #[.int .i64 0, .slice none 0 0], .int .i64 c]) (by simp [results, Tryd.results4, go_sem, e0, e1]) rfl ⟨rfl, ?_⟩
  exact ((HX.out.alloc _).set (by simp) _).set (by simp) _

/-- The world behind the call of Squares. -/
structure PgSt (w wr : World) (p k : Nat) (ao : Option Addr) (cap b : Nat) (ao2 : Option Addr) (n2 cap2 : Nat) (low : List Int) : Prop where
  ext : Ext w wr
  b0 : w.heap.size + 2 ≤ b
  fb : Blk wr w.heap.size #[.int .i64 p, .int .i64 k, .slice ao k cap] 24
  rb : Blk wr (w.heap.size + 1) #[.int .i64 0, .slice none 0 0] 26
  sb : Blk wr b #[.slice ao2 n2 cap2] 22
  len : (sqUp (sqSeen p k low (p ^ k)) 64).length = n2
  reads : Reads wr ao2 (ints (sqUp (sqSeen p k low (p ^ k)) 64))

set_option maxHeartbeats 2000000 in
theorem paley_is (p k : Nat) (ao : Option Addr) (cap : Nat) (low : List Int) (w : World) (hP : Primes w) (hF : IsField p k low) (hr : Reads w ao (ints low)) :
    Calls Tryd.prog 4 #[.agg #[.int .i64 p, .int .i64 k, .slice ao k cap]] w fun e w' =>
      (24 < p ^ k → e = .returned (.tuple #[.agg #[.int .i64 0, .slice none 0 0], .int .i64 3]) ∧ Ext w w') ∧
      (p ^ k ≤ 24 → p ^ k % 4 ≠ 1 → e = .returned (.tuple #[.agg #[.int .i64 0, .slice none 0 0], .int .i64 4]) ∧ Ext w w') ∧
      (p ^ k ≤ 24 → p ^ k % 4 = 1 → ∃ ao' cap', e = .returned (.tuple #[.agg #[.int .i64 (p ^ k : Nat), .slice ao' (p ^ k * p ^ k) cap'], .int .i64 0]) ∧
        RowOf 3 w' w.heap.size ao' (p ^ k * p ^ k) cap' (ints (tab (flat (p ^ k) (joinCell (palJoin p k low))) (p ^ k * p ^ k))) ∧ Ext w w') := by
  have HX0 : Hid (Ext w ((w.alloc (.cells #[.int .i64 p, .int .i64 k, .slice ao k cap] 24)).alloc (.cells #[.int .i64 0, .slice none 0 0] 26))) := ((Ext.refl w).alloc _).alloc _
  have HBF : Hid (Blk ((w.alloc (.cells #[.int .i64 p, .int .i64 k, .slice ao k cap] 24)).alloc (.cells #[.int .i64 0, .slice none 0 0] 26)) w.heap.size #[.int .i64 p, .int .i64 k, .slice ao k cap] 24) := (Blk.new _ _ _).alloc _
  have HB : Hid (Blk ((w.alloc (.cells #[.int .i64 p, .int .i64 k, .slice ao k cap] 24)).alloc (.cells #[.int .i64 0, .slice none 0 0] 26)) (w.heap.size + 1) #[.int .i64 0, .slice none 0 0] 26) := Blk.new' _ _ _ (by simp)
  have HO := Lib.hid (squares_ok p k ao cap low _ (hP.ext HX0.out) hF (HX0.out.reads hr))
  have hpos : 1 ≤ p := by have := hF.p2; omega
  have HPW : Hid (∀ c, c < k → p ^ c * p = p ^ (c + 1) ∧ p ^ (c + 1) ≤ p ^ k) := fun c hc => ⟨rfl, Nat.pow_le_pow_right hpos hc⟩
  have h64 := hF.big
  have HCELL : Hid (∀ a b rs rf n2 cap2 ao2 w', Ext w w' → a < p ^ k → _ → _ → _ → _ → _) := fun a b rs rf n2 cap2 ao2 w' (hx : Ext w w') ha => paley_cell p k a b rs rf n2 cap2 ao ao2 cap low w' (hP.ext hx) hF (hx.reads hr) ha
  have hk6 := hF.k6
  have hp61 := hF.p61
  clear hP hF hr
  go_enter Tryd.func4, Tryd.ntmps4
  go_wp2_with fail
  refine Calls.mono HO.out ?_
  rintro e w1 ⟨ao2, n2, cap2, rfl, ao3, n3, cap3, he, hrow, hx⟩
  obtain ⟨rfl, rfl, rfl⟩ : ao2 = ao3 ∧ n2 = n3 ∧ cap2 = cap3 := by simpa using he
  have HST : Hid (PgSt w (w1.alloc (.cells #[.slice ao2 n2 cap2] 22)) p k ao cap w1.heap.size ao2 n2 cap2 low) :=
    ⟨(HX0.out.trans hx).alloc _, by have := hx.size; simp at this; omega, (HBF.out.ext hx).alloc _, (HB.out.ext hx).alloc _, Blk.new _ _ _, by have := hrow.1; rw [ints_length, Nat.mul_one] at this; exact this, (((Ext.refl w1).alloc _).reads hrow.reads)⟩
  clear he hrow hx
  obtain ⟨w2, hw2⟩ : ∃ w2, w2 = w1.alloc (.cells #[.slice ao2 n2 cap2] 22) := ⟨_, rfl⟩
  have k1 := HST.out.fb.c 0 _ rfl
  have k2 := HST.out.fb.c 1 _ rfl
  obtain ⟨b, hb⟩ : ∃ b, w1.heap.size = b := ⟨_, rfl⟩
  rw [hb] at HST
  go_wp2
  rw [← hw2] at HST k1 k2 ⊢
  clear hw2 hb
  have HPS : Hid (p ^ 0 = 1) := rfl
  go_loop [6, 18] (fun y a => ∃ c : Nat, c ≤ k ∧ a = .int .i64 c ∧ y = .int .i64 (p ^ c : Nat)) (fun _ a => k - (intOf a).toNat)
  case atStart => exact ⟨0, by omega, rfl, by rw [HPS.out]; rfl⟩
  case round =>
    obtain ⟨c, hck, rfl, rfl⟩ := hrel
    by_cases hlt : c < k
    · obtain ⟨hp1, hp2⟩ := HPW.out c hlt
      obtain ⟨u, hu⟩ : ∃ u, p ^ c = u := ⟨_, rfl⟩
      obtain ⟨v, hv⟩ : ∃ v, p ^ (c + 1) = v := ⟨_, rfl⟩
      have HV := Lib.hid hv
      rw [hu, hv] at hp1
      rw [hv] at hp2
      have hm : (u : Int) * (p : Int) = (v : Nat) := by rw [← hp1, Int.natCast_mul]
      have hv64 : v ≤ 64 := by omega
      rw [hu]
      clear hu hv hp1 hp2 h64
      go_wp2
      go_round
      case rel => exact ⟨c + 1, by omega, by go_num, by rw [HV.out]⟩
      case measure => simp [intOf]; omega
    · obtain rfl : k = c := by omega
      have k3 := HST.out.rb.two
      have k4 := HST.out.rb.f 0
      have k5 := HST.out.rb.f 1
      obtain ⟨q, hq⟩ : ∃ q, p ^ k = q := ⟨_, rfl⟩
      have hlen := HST.out.len
      have hrd := HST.out.reads
      rw [hq] at HCELL h64 hlen hrd ⊢
      have HLEN := Lib.hid hlen
      have HRD := Lib.hid hrd
      clear hlen hrd
      by_cases h24 : 24 < q
      · have b1 : decide (24 < (q : Int)) = true := decide_eq_true (by omega)
        have HB2 := Lib.hid ((HST.out.rb.set 0 (.int .i64 0)).set 1 (.slice none 0 0))
        go_wp2
        have e0 := HB2.out.c 0 (.int .i64 0) rfl
        have e1 := HB2.out.c 1 (.slice none 0 0) rfl
        have HE : Hid (Ext w _) := (HST.out.ext.set (p := ⟨w.heap.size + 1, 0, none⟩) (by simp) (.int .i64 0)).set (p := ⟨w.heap.size + 1, 1, none⟩) (by simp) (.slice none 0 0)
        refine bodyPost_ret (v := .tuple #[.agg #[.int .i64 0, .slice none 0 0], .int .i64 3]) (by simp [results, Tryd.results4, go_sem, e0, e1]) rfl ?_
        first | exact ⟨⟨rfl, HE.out⟩, fun h => absurd h (by omega), fun h => absurd h (by omega)⟩ | exact ⟨fun _ => ⟨rfl, HE.out⟩, fun h => absurd h (by omega), fun h => absurd h (by omega)⟩
      · by_cases h4 : q % 4 = 1
        · have b1 : decide (24 < (q : Int)) = false := decide_eq_false (by omega)
          have b2 : (q : Int) % 4 = 1 := by omega
          have HQ := Lib.hid h4
          obtain ⟨N2, hN2⟩ : ∃ N2, q * q = N2 := ⟨_, rfl⟩
          have HN2 := Lib.hid hN2
          clear hN2 h4
          go_wp2_with fail
          refine Calls.mono (joined_any _ _ q (palJoin p k low) w2 (by omega) (fun i j hi hj w' hx' => HCELL.out i j b w.heap.size n2 cap2 ao2 w' (HST.out.ext.trans hx') hi (HST.out.fb.ext hx') (HST.out.sb.ext hx') HLEN.out (hx'.reads HRD.out)) (fun _ _ => rfl)) ?_
          rintro e w3 ⟨ao4, cap4, rfl, hrow, hx3⟩
          have HROW := Lib.hid hrow
          have HX3 := Lib.hid hx3
          rw [HN2.out] at HROW ⊢
          have q1 := HST.out.rb.ext hx3
          have q2 := q1.two
          have q3 := q1.f 0
          have q4 := q1.f 1
          have HB := Lib.hid ((q1.set 0 (.int .i64 q)).set 1 (.slice ao4 N2 cap4))
          clear hrow hx3 q1
          go_wp2
          have e0 := HB.out.c 0 (.int .i64 q) rfl
          have e1 := HB.out.c 1 (.slice ao4 N2 cap4) rfl
          have hs2 := HST.out.ext.size
          have hs3 := HST.out.rb.lt
          refine bodyPost_ret (v := .tuple #[.agg #[.int .i64 q, .slice ao4 N2 cap4], .int .i64 0]) (by simp [results, Tryd.results4, go_sem, e0, e1]) rfl ?_
          have HR := ((HROW.out.beside ⟨w.heap.size + 1, 0, none⟩ (by simp; omega) (.int .i64 q)).beside ⟨w.heap.size + 1, 1, none⟩ (by simp; omega) (.slice ao4 N2 cap4)).mono (show w.heap.size ≤ w2.heap.size by omega)
          have HE : Hid (Ext w _) := ((HST.out.ext.trans HX3.out).set (p := ⟨w.heap.size + 1, 0, none⟩) (by simp) (.int .i64 q)).set (p := ⟨w.heap.size + 1, 1, none⟩) (by simp) (.slice ao4 N2 cap4)
          rw [hq, HN2.out]
          exact ⟨fun h => absurd h (by omega), fun _ h => absurd HQ.out h, fun _ _ => ⟨ao4, cap4, rfl, HR, HE.out⟩⟩
        · have b1 : decide (24 < (q : Int)) = false := decide_eq_false (by omega)
          obtain ⟨m, hm⟩ : ∃ m, q % 4 = m := ⟨_, rfl⟩
          have b2 : (q : Int) % 4 = m := by omega
          have b3 : ((m : Int) != 1) = true := by rw [bne_iff_ne]; omega
          have h5 : ¬ m = 1 := by omega
          clear h4
          have HB2 := Lib.hid ((HST.out.rb.set 0 (.int .i64 0)).set 1 (.slice none 0 0))
          go_wp2
          have e0 := HB2.out.c 0 (.int .i64 0) rfl
          have e1 := HB2.out.c 1 (.slice none 0 0) rfl
          have HE : Hid (Ext w _) := (HST.out.ext.set (p := ⟨w.heap.size + 1, 0, none⟩) (by simp) (.int .i64 0)).set (p := ⟨w.heap.size + 1, 1, none⟩) (by simp) (.slice none 0 0)
          refine bodyPost_ret (v := .tuple #[.agg #[.int .i64 0, .slice none 0 0], .int .i64 4]) (by simp [results, Tryd.results4, go_sem, e0, e1]) rfl ?_
          exact fun _ => ⟨rfl, HE.out⟩

end Go.Proofs.YthfjlemlpgkedaaDoor
