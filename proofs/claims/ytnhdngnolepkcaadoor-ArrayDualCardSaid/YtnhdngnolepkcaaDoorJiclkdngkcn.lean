/- Rows and their numbers (the first element the highest digit). Plain, no program. -/
import Derived.Test.YtnhdngnolepkcaaDoorJpoobehflpg
import Derived.Test.YtnhdngnolepkcaaDoorJdkiacibmph
import Derived.Test.YtnhdngnolepkcaaDoorJopiplgejoi
import Derived.Deep.LoopGhost
import Derived.Test.YtnhdngnolepkcaaDoorJndpfkjicgi
namespace Go.Proofs.YtnhdngnolepkcaaDoor

/-- An element of the row of a number. -/
def opn (q n c i : Nat) : Nat := c / q ^ (n - 1 - i) % q
/-- The number of a row's first elements. -/
def shutTo (q : Nat) (f : Nat → Nat) : Nat → Nat
  | 0 => 0
  | i + 1 => shutTo q f i * q + f i
def shutN (q n : Nat) (f : Nat → Nat) : Nat := shutTo q f n
theorem opn_lt {q n c i : Nat} (hq : 0 < q) : opn q n c i < q := Nat.mod_lt _ hq
theorem shutTo_lt {q : Nat} {f : Nat → Nat} (hq : 0 < q) : ∀ n, (∀ j, j < n → f j < q) → shutTo q f n < q ^ n
  | 0, _ => by rw [shutTo, Nat.pow_zero]; omega
  | n + 1, h => by
    have h1 := shutTo_lt hq n fun j hj => h j (by omega)
    have h2 := h n (by omega)
    rw [shutTo, Nat.pow_succ]
    have : (shutTo q f n + 1) * q ≤ q ^ n * q := Nat.mul_le_mul_right q h1
    rw [Nat.succ_mul] at this
    omega
theorem shutTo_congr {q : Nat} {f g : Nat → Nat} : ∀ n, (∀ j, j < n → f j = g j) → shutTo q f n = shutTo q g n
  | 0, _ => rfl
  | n + 1, h => by rw [shutTo, shutTo, shutTo_congr n (fun j hj => h j (by omega)), h n (by omega)]
theorem digit_shut {q : Nat} {f : Nat → Nat} (hq : 0 < q) : ∀ n, (∀ j, j < n → f j < q) → ∀ i, i < n → shutTo q f n / q ^ (n - 1 - i) % q = f i
  | 0, _, i, hi => by omega
  | n + 1, h, i, hi => by
    have h2 := h n (by omega)
    by_cases e : i = n
    · subst e
      rw [show i + 1 - 1 - i = 0 by omega, Nat.pow_zero, Nat.div_one, shutTo, Nat.add_comm, Nat.add_mul_mod_self_right, Nat.mod_eq_of_lt h2]
    · have ih := digit_shut hq n (fun j hj => h j (by omega)) i (by omega)
      rw [show n + 1 - 1 - i = (n - 1 - i) + 1 by omega, Nat.pow_succ, Nat.mul_comm (q ^ (n - 1 - i)) q, ← Nat.div_div_eq_div_mul]
      have : shutTo q f (n + 1) / q = shutTo q f n := by
        rw [shutTo, Nat.add_comm, Nat.add_mul_div_right _ _ hq, Nat.div_eq_of_lt h2, Nat.zero_add]
      rw [this, ih]
theorem opn_shut {q n : Nat} {f : Nat → Nat} (hq : 0 < q) (h : ∀ j, j < n → f j < q) {i : Nat} (hi : i < n) : opn q n (shutN q n f) i = f i := digit_shut hq n h i hi
theorem shut_part {q n c : Nat} (hq : 0 < q) : ∀ m, m ≤ n → shutTo q (opn q n c) m = c / q ^ (n - m) % q ^ m
  | 0, _ => by rw [shutTo, Nat.pow_zero, Nat.mod_one]
  | m + 1, hm => by
    rw [shutTo, shut_part hq m (by omega)]
    obtain ⟨d, hd⟩ : ∃ d, c / q ^ (n - (m + 1)) = d := ⟨_, rfl⟩
    have e1 : c / q ^ (n - m) = d / q := by
      rw [← hd, Nat.div_div_eq_div_mul, ← Nat.pow_succ, show (n - (m + 1)).succ = n - m by omega]
    have e2 : opn q n c m = d % q := by
      unfold opn
      rw [show n - 1 - m = n - (m + 1) by omega, hd]
    rw [e1, e2, hd, Nat.pow_succ, Nat.mul_comm (q ^ m) q, Nat.mod_mul, Nat.add_comm, Nat.mul_comm]
theorem shut_opn {q n c : Nat} (hq : 0 < q) (hc : c < q ^ n) : shutN q n (opn q n c) = c := by
  unfold shutN
  rw [shut_part hq n (Nat.le_refl n), Nat.sub_self, Nat.pow_zero, Nat.div_one, Nat.mod_eq_of_lt hc]
theorem shutN_lt {q n : Nat} {f : Nat → Nat} (hq : 0 < q) (h : ∀ j, j < n → f j < q) : shutN q n f < q ^ n := shutTo_lt hq n h
theorem shutN_congr {q n : Nat} {f g : Nat → Nat} (h : ∀ j, j < n → f j = g j) : shutN q n f = shutN q n g := shutTo_congr n h
theorem opn_inj {q n c d : Nat} (hq : 0 < q) (hc : c < q ^ n) (hd : d < q ^ n) (h : ∀ i, i < n → opn q n c i = opn q n d i) : c = d := by
  rw [← shut_opn hq hc, ← shut_opn hq hd, shutN_congr h]
theorem shut_zero {q : Nat} : ∀ n, shutTo q (fun _ => 0) n = 0
  | 0 => rfl
  | n + 1 => by rw [shutTo, shut_zero n]; simp
theorem opn_zero {q n i : Nat} : opn q n 0 i = 0 := by unfold opn; rw [Nat.zero_div, Nat.zero_mod]

end Go.Proofs.YtnhdngnolepkcaaDoor

/- What parterreref3.Open, Shut and added answer. No conditions but a field. -/
namespace Go.Proofs.YtnhdngnolepkcaaDoor
open Go.RowKit
set_option linter.unusedVariables false

set_option maxHeartbeats 400000 in
theorem digitsOf_big (p a k : Nat) (w : World) (hp : 2 ≤ p) (h64 : p ≤ 64) (ha : a < 100000) (hk : k ≤ 64) :
    Calls Tryd.prog 37 #[.int .i64 a, .int .i64 p, .int .i64 k] w fun e w' => ∃ v, e = .returned v ∧ OwnInts w w' v (tab (fun i => ((a / p ^ i % p : Nat) : Int)) k) := by
  go_enter Tryd.func37, Tryd.ntmps37
  go_wp2
  have H0 : Hid (OwnInts w w (.slice none 0 0) (tab (fun i => ((a / p ^ i % p : Nat) : Int)) 0)) := OwnInts.nil (Ext.refl w)
  go_loopw [0, 7, 8] (fun n y x wr => ∃ i A : Nat, i ≤ k ∧ x = .int .i64 i ∧ n = .int .i64 A ∧ A < 100000 ∧ Hid (A = a / p ^ i) ∧ OwnInts w wr y (tab (fun i => ((a / p ^ i % p : Nat) : Int)) i)) (fun _ _ x _ => k - (intOf x).toNat)
  case atStart => exact ⟨0, a, by omega, rfl, rfl, ha, by show _ = _; simp, H0.out⟩
  case round =>
    obtain ⟨i, A, hi, rfl, rfl, hA, HA, hT⟩ := hrel
    clear H0
    obtain ⟨ao, n, cap, rfl, hrow, hx⟩ := hT
    have hn : n ≤ i := by have := hrow.length; rw [ints_length, tab_length] at this; omega
    have HROW := Lib.hid hrow
    have HX := Lib.hid hx
    have hsz := hx.size
    clear hrow hx
    by_cases hik : i < k
    · obtain ⟨d, hd⟩ : ∃ d, A % p = d := ⟨_, rfl⟩
      obtain ⟨B, hB⟩ : ∃ B, A / p = B := ⟨_, rfl⟩
      have hd' : (A : Int) % p = d := by rw [← hd]; simp
      have hB' : (A : Int) / p = B := by rw [← hB]; simp
      have hBA : B ≤ A := by rw [← hB]; exact Nat.div_le_self _ _
      have HB : Hid (B = a / p ^ (i + 1)) := by show _ = _; rw [← hB, HA.out, Nat.div_div_eq_div_mul, Nat.pow_succ]
      have HD : Hid (tab (fun i => ((a / p ^ i % p : Nat) : Int)) (i + 1) = tab (fun i => ((a / p ^ i % p : Nat) : Int)) i ++ [(d : Int)]) := by show _ = _; rw [tab, ← hd, HA.out]
      clear hd hB
      go_wp2_with (at_builtin; refine wpList_appInt eInt rfl (.tmp 14) (.tmp 18) rfl w.heap.size (by rfl) HROW.out (by rfl) (by omega) (by omega) ?_; intro ao4 cap4 w4 hr4 hg4 hb4; have HR4 := Lib.hid hr4; have HB4 := Lib.hid (hb4 _ _ HX.out (Nat.le_refl _)); clear hr4 hg4 hb4)
      exact ⟨⟨i + 1, B, by omega, by go_num, rfl, by omega, HB, by rw [HD.out]; exact ⟨_, _, _, rfl, by rw [ints_append]; exact HR4.out, HB4.out⟩⟩, by simp [intOf]; omega⟩
    · obtain rfl : k = i := by omega
      go_wp2
      go_ret
      exact ⟨_, rfl, _, _, _, rfl, HROW.out, HX.out⟩

theorem size_is (p k : Nat) (ao : Option Addr) (len cap : Nat) (low : List Int) (w : World) (hF : IsField p k low) :
    Calls Tryd.prog 14 #[.agg #[.int .i64 p, .int .i64 k, .slice ao len cap]] w fun e w' => e = .returned (.int .i64 (p ^ k : Nat)) ∧ Ext w w' := by
  have h := size_any p k ao len cap w
  rw [hF.fault.2] at h
  exact h

set_option maxHeartbeats 2000000 in
theorem openOf_any (p k n c : Nat) (ao : Option Addr) (len cap : Nat) (low : List Int) (w : World) (hF : IsField p k low) (hn1 : 1 ≤ n) (hn6 : n ≤ 6) (hc : c < 100000) :
    Calls Tryd.prog 17 #[.agg #[.int .i64 p, .int .i64 k, .slice ao len cap], .int .i64 n, .int .i64 c] w fun e w' => ∃ g cap', e = .returned (.slice (some ⟨g, 0, none⟩) n cap') ∧ OwnF w w' g n cap' (fun i => ((opn (p ^ k) n c i : Nat) : Int)) := by
  have hq2 : 2 ≤ p ^ k := one_lt_pow' hF.p2 hF.k1
  have h64 := hF.big
  have HS : Hid (∀ w, _) := fun w => size_is p k ao len cap low w hF
  obtain ⟨q, hq⟩ : ∃ q, p ^ k = q := ⟨_, rfl⟩
  rw [hq] at hq2 h64 HS ⊢
  have HD : Hid (∀ w, _) := fun w => digitsOf_big q c n w hq2 h64 hc (by omega)
  have E0 := Lib.hid (ext_box w #[.int .i64 p, .int .i64 k, .slice ao len cap] 24)
  have k0 := (Blk.new w #[.int .i64 p, .int .i64 k, .slice ao len cap] 24).three
  clear hF hq
  go_enter Tryd.func17, Tryd.ntmps17
  go_wp2_with fail
  refine Calls.mono (HS.out _) ?_
  rintro e w1 ⟨rfl, hx⟩
  have E1 := Lib.hid (E0.out.trans hx)
  clear hx k0
  go_wp2_with fail
  refine Calls.mono (HD.out _) ?_
  rintro e w2 ⟨v, rfl, hv⟩
  obtain ⟨gd, cd, rfl, hof⟩ := hv.f (by omega)
  have HDF := Lib.hid hof
  have E2 := Lib.hid (E1.out.trans hof.ext)
  have hmk := mk_ints n (by omega) w2
  have H0 : Hid (OwnF w2 (w2.alloc (.cells (madeCells #[.int .i64 0] n) 3)) w2.heap.size n n (fun _ => 0)) := ⟨(Ext.refl _).alloc _, by rw [← tab_zero]; exact RowOf.made w2 n (by omega) rfl⟩
  clear hv hof
  go_wp2
  obtain ⟨w3, hw3⟩ : ∃ w3, w3 = w2.alloc (.cells (madeCells #[.int .i64 0] n) 3) := ⟨_, rfl⟩
  obtain ⟨g, hg⟩ : ∃ g, g = w2.heap.size := ⟨_, rfl⟩
  have hs3 : g < w3.heap.size := by rw [hw3, hg]; simp
  rw [← hw3, ← hg] at H0
  rw [← hw3, ← hg]
  have HGE := Lib.hid hg
  clear hmk hw3 hg
  go_loopg [10] n (fun r x wr => ∃ i : Nat, i + r = n ∧ x = .int .i64 i ∧ OwnF w2 wr g n n (fun j => if j < i then ((opn q n c j : Nat) : Int) else 0))
  case atStart => exact ⟨0, by omega, rfl, H0.out.congr fun j _ => by rw [if_neg (by omega)]⟩
  case round =>
    obtain ⟨i, hir, rfl, ho⟩ := hrel
    have HO := Lib.hid ho
    clear ho H0
    cases gk with
    | zero =>
      obtain rfl : i = n := by omega
      go_wp2
      go_ret
      refine ⟨g, i, rfl, E2.out.trans HO.out.ext, ?_⟩
      have h := HO.out.congr (f' := fun j => ((opn q i c j : Nat) : Int)) fun j hj => by rw [if_pos hj]
      exact h.row.mono (E2.out.size)
    | succ r1 =>
      have hin : (i : Int) < (n : Int) := by omega
      have hin' : i < n := by omega
      have hdx : n - 1 - i < n := by omega
      have t1 := (HDF.out.carry HO.out.ext).at hdx
      have t2 := HO.out.at hin'
      have t3 := HO.out.f i
      obtain ⟨d, hd⟩ : ∃ d, n - 1 - i = d := ⟨_, rfl⟩
      have HSET := Lib.hid (HO.out.set hin' ((opn q n c i : Nat) : Int))
      have HV : Hid (((c / q ^ d % q : Nat) : Int) = ((opn q n c i : Nat) : Int)) := by show _ = _; rw [← hd]; rfl
      rw [hd] at t1 hdx
      rw [HV.out] at t1
      have hd' : (n : Int) - 1 - i = d := by omega
      have hd0 : (0 : Int) ≤ (d : Int) := by omega
      obtain ⟨x, hx⟩ : ∃ x, ((opn q n c i : Nat) : Int) = x := ⟨_, rfl⟩
      rw [hx] at t1 HSET HV
      have HX := Lib.hid hx
      clear hd hx
      go_wp2
      go_roundg r1
      case measure => omega
      case rel => exact ⟨i + 1, by omega, by go_num, HSET.out.congr fun j hj => by
        unfold upd
        by_cases e : j = i
        · subst e; rw [if_pos rfl, if_pos (by omega)]; exact HX.out.symm
        · rw [if_neg e]
          show (if j < i then ((opn q n c j : Nat) : Int) else 0) = _
          by_cases h : j < i
          · rw [if_pos h, if_pos (by omega)]
          · rw [if_neg h, if_neg (by omega)]⟩

set_option maxHeartbeats 2000000 in
theorem shutOf_any (p k n : Nat) (ao vo : Option Addr) (len cap vcap : Nat) (low : List Int) (f : Nat → Nat) (w : World) (hF : IsField p k low) (hn6 : n ≤ 6) (hbig : (p ^ k) ^ n ≤ 4096) (hf : ∀ j, j < n → f j < p ^ k) (hr : Reads w vo (ints (tab (fun j => ((f j : Nat) : Int)) n))) :
    Calls Tryd.prog 43 #[.agg #[.int .i64 p, .int .i64 k, .slice ao len cap], .slice vo n vcap] w fun e w' => e = .returned (.int .i64 (shutN (p ^ k) n f : Nat)) ∧ Ext w w' := by
  have hq2 : 2 ≤ p ^ k := one_lt_pow' hF.p2 hF.k1
  have h64 := hF.big
  have HS : Hid (∀ w, _) := fun w => size_is p k ao len cap low w hF
  obtain ⟨q, hq⟩ : ∃ q, p ^ k = q := ⟨_, rfl⟩
  rw [hq] at hq2 h64 HS hbig hf ⊢
  have HB : Hid (∀ i, i ≤ n → shutTo q f i < 4096 + 1) := fun i hi => by
    have h1 := shutTo_lt (f := f) (by omega) i fun j hj => hf j (by omega)
    have h2 : q ^ i ≤ q ^ n := Nat.pow_le_pow_right (by omega) hi
    omega
  have HST : Hid (∀ i, shutTo q f (i + 1) = shutTo q f i * q + f i) := fun i => by show _ = _; rfl
  have HV : Hid (shutN q n f = shutTo q f n) := rfl
  have HR := Lib.hid hr
  have HFL := Lib.hid hf
  have E0 := Lib.hid (ext_box w #[.int .i64 p, .int .i64 k, .slice ao len cap] 24)
  have k0 := (Blk.new w #[.int .i64 p, .int .i64 k, .slice ao len cap] 24).three
  clear hF hq hbig hf hr
  go_enter Tryd.func43, Tryd.ntmps43
  go_wp2_with fail
  refine Calls.mono (HS.out _) ?_
  rintro e w1 ⟨rfl, hx⟩
  have E1 := Lib.hid (E0.out.trans hx)
  clear hx k0
  go_wp2
  go_loopg [6, 7] n (fun r y x wr => ∃ i : Nat, i + r = n ∧ x = .int .i64 i ∧ y = .int .i64 (shutTo q f i : Nat) ∧ w1 = wr)
  case atStart => exact ⟨0, by omega, rfl, rfl, rfl⟩
  case round =>
    obtain ⟨i, hir, rfl, rfl, rfl⟩ := hrel
    cases gk with
    | zero =>
      obtain rfl : i = n := by omega
      obtain ⟨u, hu⟩ : ∃ u, shutTo q f i = u := ⟨_, rfl⟩
      have HU := Lib.hid hu
      rw [hu]
      clear hu
      go_wp2
      go_ret
      exact ⟨by rw [HV.out, HU.out]; rfl, E1.out⟩
    | succ r1 =>
      have hin : (i : Int) < (n : Int) := by omega
      have hin' : i < n := by omega
      obtain ⟨b, off, rfl, hb, hc⟩ := HR.out.int (by rw [tab_length]; omega)
      have t1 := (E1.out.cell hb).trans (hc i (by rw [tab_length]; exact hin'))
      rw [nth_tab _ _ _ hin'] at t1
      have h1 := HB.out i (by omega)
      have h2 := HB.out (i + 1) (by omega)
      have h3 := HFL.out i hin'
      have h4 := HST.out i
      obtain ⟨u, hu⟩ : ∃ u, shutTo q f i = u := ⟨_, rfl⟩
      obtain ⟨v, hv⟩ : ∃ v, shutTo q f (i + 1) = v := ⟨_, rfl⟩
      obtain ⟨x, hx⟩ : ∃ x, f i = x := ⟨_, rfl⟩
      rw [hu, hv, hx] at h4
      rw [hu] at h1 ⊢
      rw [hv] at h2
      rw [hx] at t1 h3
      obtain ⟨m, hm⟩ : ∃ m, u * q = m := ⟨_, rfl⟩
      have hm' : (u : Int) * (q : Int) = m := by rw [← hm, Int.natCast_mul]
      rw [hm] at h4
      have HVV : Hid (((m : Int) + x) = (shutTo q f (i + 1) : Nat)) := by show _ = _; rw [hv]; omega
      have hmx : m + x < 4097 := by omega
      clear hc hu hv hx hm h4 h2
      go_wp2
      go_roundg r1
      case measure => omega
      case rel => exact ⟨i + 1, by omega, by go_num, by rw [← HVV.out], rfl⟩

set_option maxHeartbeats 4000000 in
theorem added_any (p k n c : Nat) (ao vo : Option Addr) (len cap vcap : Nat) (low : List Int) (f : Nat → Nat) (w : World) (hF : IsField p k low) (hn1 : 1 ≤ n) (hn6 : n ≤ 6) (hbig : (p ^ k) ^ n ≤ 4096) (hc : c < 100000) (hf : ∀ j, j < n → f j < p ^ k) (hr : Reads w vo (ints (tab (fun j => ((f j : Nat) : Int)) n))) :
    Calls Tryd.prog 21 #[.agg #[.int .i64 p, .int .i64 k, .slice ao len cap], .int .i64 n, .int .i64 c, .slice vo n vcap] w fun e w' => e = .returned (.int .i64 (shutN (p ^ k) n (fun j => addF p k (opn (p ^ k) n c j) (f j)) : Nat)) ∧ Ext w w' := by
  have hp0 : 0 < p := by have := hF.p2; omega
  have hq0 : 0 < p ^ k := Nat.pow_pos hp0
  have h64 := hF.big
  have HOP : Hid (∀ w, _) := fun w => openOf_any p k n c ao len cap low w hF hn1 hn6 hc
  have HSU : Hid (∀ w a b, a < 128 → b < 128 → _) := fun w a b ha hb => sumOf_any p k a b ao len cap w hF.p2 hF.p61 hF.k1 hF.k6 h64 ha hb
  have HSH : Hid (∀ vo vcap W, Reads W vo (ints (tab (fun j => ((addF p k (opn (p ^ k) n c j) (f j) : Nat) : Int)) n)) → _) := fun vo vcap W h => shutOf_any p k n ao vo len cap vcap low (fun j => addF p k (opn (p ^ k) n c j) (f j)) W hF hn6 hbig (fun j _ => addF_lt hp0 _ _) h
  have HOL : Hid (∀ j, opn (p ^ k) n c j < 128) := fun j => by have := opn_lt (n := n) (c := c) (i := j) hq0; omega
  have HFL : Hid (∀ j, j < n → f j < 128) := fun j hj => by have := hf j hj; omega
  have HR := Lib.hid hr
  have E0 := Lib.hid (ext_box w #[.int .i64 p, .int .i64 k, .slice ao len cap] 24)
  have F0 := Lib.hid (Blk.new w #[.int .i64 p, .int .i64 k, .slice ao len cap] 24)
  have k0 := F0.out.three
  obtain ⟨G, hG⟩ : ∃ G : Nat → Nat, (fun j => addF p k (opn (p ^ k) n c j) (f j)) = G := ⟨_, rfl⟩
  obtain ⟨O, hO⟩ : ∃ O : Nat → Nat, (fun j => opn (p ^ k) n c j) = O := ⟨_, rfl⟩
  have HG : Hid (∀ j, addF p k (O j) (f j) = G j) := fun j => by show _ = _; rw [← hG, ← hO]
  have hSH2 : (∀ vo vcap W, Reads W vo (ints (tab (fun j => ((G j : Nat) : Int)) n)) → Calls Tryd.prog 43 #[.agg #[.int .i64 p, .int .i64 k, .slice ao len cap], .slice vo n vcap] W fun e w' => e = .returned (.int .i64 (shutN (p ^ k) n G : Nat)) ∧ Ext W w') := fun vo vcap W h => by
    have := HSH.out vo vcap W (by subst hG; exact h)
    rw [hG] at this; exact this
  have HSH2 := Lib.hid hSH2
  have HOP2 : Hid (∀ w, Calls Tryd.prog 17 #[.agg #[.int .i64 p, .int .i64 k, .slice ao len cap], .int .i64 n, .int .i64 c] w fun e w' => ∃ g cap', e = .returned (.slice (some ⟨g, 0, none⟩) n cap') ∧ OwnF w w' g n cap' (fun i => ((O i : Nat) : Int))) := fun w => by
    have := HOP.out w; subst hO; exact this
  have HOL2 : Hid (∀ j, O j < 128) := fun j => by subst hO; exact HOL.out j
  rw [hG]
  obtain ⟨res, hres⟩ : ∃ r, shutN (p ^ k) n G = r := ⟨_, rfl⟩
  rw [hres] at HSH2 ⊢
  clear hF hf hr hG hO HSH HOP HOL hSH2 hres hbig hq0 h64
  go_enter Tryd.func21, Tryd.ntmps21
  go_wp2_with fail
  refine Calls.mono (HOP2.out _) ?_
  rintro e w1 ⟨g, cg, rfl, ho⟩
  have E1 := Lib.hid (E0.out.trans ho.ext)
  have F1 := Lib.hid (F0.out.ext ho.ext)
  have HO := Lib.hid ho
  obtain ⟨w0, hw0⟩ : ∃ w0, w0 = w.alloc (.cells #[.int .i64 p, .int .i64 k, .slice ao len cap] 24) := ⟨_, rfl⟩
  rw [← hw0] at HO E0 F0
  clear ho k0 hw0
  go_wp2
  go_loopg [10] n (fun r x wr => ∃ i : Nat, i + r = n ∧ x = .int .i64 i ∧ OwnF w0 wr g n cg (fun j => ((if j < i then G j else O j : Nat) : Int)))
  case atStart => exact ⟨0, by omega, rfl, HO.out.congr fun j _ => by rw [if_neg (by omega)]⟩
  case round =>
    obtain ⟨i, hir, rfl, ho⟩ := hrel
    have HOW := Lib.hid ho
    have FW := Lib.hid (F0.out.ext ho.ext)
    clear ho HO
    cases gk with
    | zero =>
      obtain rfl : i = n := by omega
      have h1 := HOW.out.congr (f' := fun j => ((G j : Nat) : Int)) fun j hj => by rw [if_pos hj]
      have HC := Lib.hid (HSH2.out (some ⟨g, 0, none⟩) cg wr h1.reads)
      have EW := Lib.hid (E0.out.trans HOW.out.ext)
      have k1 := FW.out.three
      clear h1
      go_wp2_with fail
      refine Calls.mono HC.out ?_
      rintro e w9 ⟨rfl, hx⟩
      have E9 := Lib.hid (EW.out.trans hx)
      clear hx
      go_wp2
      go_ret
      exact ⟨rfl, E9.out⟩
    | succ r1 =>
      have hin : (i : Int) < (n : Int) := by omega
      have hin' : i < n := by omega
      obtain ⟨b, off, rfl, hb, hc⟩ := HR.out.int (by rw [tab_length]; omega)
      have t1 := ((E0.out.trans HOW.out.ext).cell hb).trans (hc i (by rw [tab_length]; exact hin'))
      rw [nth_tab _ _ _ hin'] at t1
      have t2 := HOW.out.at hin'
      rw [if_neg (by omega)] at t2
      have t0 := FW.out.three
      have HSUM := HSU.out wr.drew (O i) (f i) (HOL2.out i) (HFL.out i hin')
      rw [HG.out i] at HSUM
      obtain ⟨x, hx⟩ : ∃ x, O i = x := ⟨_, rfl⟩
      obtain ⟨y, hy⟩ : ∃ y, f i = y := ⟨_, rfl⟩
      obtain ⟨z, hz⟩ : ∃ z, G i = z := ⟨_, rfl⟩
      rw [hx, hy, hz] at HSUM
      rw [hx] at t2
      rw [hy] at t1
      have HSUM := Lib.hid HSUM
      have HZ := Lib.hid hz
      clear hc hx hy hz
      have HEN : ∀ (args : Array Value) (w : World), (callFunc 42 args).run Tryd.prog w = .ok (.enter 42 args) w := fun _ _ => rfl
      have HEN := Lib.hid HEN
      go_upto_region 5 with fail
      go_region_law (first | (refine step_callS (f := 42) (xs := #[.tmp 23, .tmp 27, .tmp 31]) (ats := #[24, 3, 3]) (args := #[.agg #[.int .i64 p, .int .i64 k, .slice ao len cap], .int .i64 x, .int .i64 y]) (R := fun w' => Ext wr.drew w') (.int .i64 z) ?_ ?_ HEN.out ?_ HSUM.out ?_; (next => rfl); (next => rfl); (next => simp [Act.eval]; done); intro w5 hx5; have HX5 := Lib.hid ((Ext.refl wr).drew.trans hx5); have HO5 := Lib.hid (HOW.out.carry HX5.out); have t5 := HO5.out.at hin'; have t6 := HO5.out.f i; clear hx5))
      all_goals
        go_wp2
        go_roundg r1
        case measure => omega
        case rel => exact ⟨i + 1, by omega, by go_num, (HO5.out.set hin' z).congr fun j hj => by
          unfold upd
          by_cases e : j = i
          · subst e; rw [if_pos rfl, if_pos (by omega), HZ.out]
          · rw [if_neg e]
            show ((if j < i then G j else O j : Nat) : Int) = _
            by_cases h : j < i
            · rw [if_pos h, if_pos (by omega)]
            · rw [if_neg h, if_neg (by omega)]⟩

end Go.Proofs.YtnhdngnolepkcaaDoor

/- What the reference's span marks: the numbers of the rows of the space. Plain but for the words of the walk. -/
namespace Go.Proofs.YtnhdngnolepkcaaDoor
open Go.RowKit
set_option linter.unusedSectionVars false
set_option linter.unusedVariables false

/-- A number is put behind, where it isn't there. -/
def mark (s : List Nat) (c : Nat) : List Nat := if c ∈ s then s else s ++ [c]
theorem mem_mark {s : List Nat} {c d : Nat} : d ∈ mark s c ↔ d ∈ s ∨ d = c := by
  unfold mark
  split
  · rename_i h
    exact ⟨.inl, fun h' => h'.elim id (fun e => e ▸ h)⟩
  · rw [List.mem_append, List.mem_singleton]
theorem mark_nodup {s : List Nat} {c : Nat} (h : s.Nodup) : (mark s c).Nodup := by
  unfold mark
  split
  · exact h
  · rename_i hc
    exact List.nodup_append.2 ⟨h, by simp, fun a ha b hb e => by
      have : b = c := by simpa using hb
      exact hc (this ▸ e ▸ ha)⟩
theorem mark_pre {s : List Nat} {c j : Nat} (hj : j < s.length) : j < (mark s c).length ∧ (mark s c).getD j 0 = s.getD j 0 := by
  unfold mark
  split
  · exact ⟨hj, rfl⟩
  · refine ⟨by simp; omega, ?_⟩
    rw [List.getD_eq_getElem?_getD, List.getD_eq_getElem?_getD, List.getElem?_append_left hj]

/-- The numbers of rows and another one; the steps of the reference. -/
def sumC (p k q n : Nat) (c : Nat) (f : Nat → Nat) : Nat := shutN q n (fun j => addF p k (opn q n c j) (f j))
def timR (p k : Nat) (low : List Int) (x : Nat) (f : Nat → Nat) : Nat → Nat := fun j => mulF p k (nth low) x (f j)
def addJ (p k q n : Nat) (L0 : List Nat) (f : Nat → Nat) (s : List Nat) : Nat → List Nat
  | 0 => s
  | j + 1 => mark (addJ p k q n L0 f s j) (sumC p k q n (L0.getD j 0) f)
def addX (p k q n : Nat) (low : List Int) (L0 : List Nat) (f : Nat → Nat) : Nat → List Nat
  | 0 => L0
  | t + 1 => addJ p k q n L0 (timR p k low (t + 1) f) (addX p k q n low L0 f t) L0.length
def spanC (p k n : Nat) (low : List Int) (rows : List (Nat → Nat)) : Nat → List Nat
  | 0 => [0]
  | i + 1 => addX p k (p ^ k) n low (spanC p k n low rows i) (fAt rows i) (p ^ k - 1)

theorem addJ_all {p k q n : Nat} {L0 : List Nat} {f : Nat → Nat} {s : List Nat} {P : Nat → Prop} (hs : ∀ c, c ∈ s → P c) (hP : ∀ c, P (sumC p k q n c f)) : ∀ j, ∀ c, c ∈ addJ p k q n L0 f s j → P c
  | 0, c, h => hs c h
  | j + 1, c, h => by
    rcases mem_mark.1 h with h | rfl
    · exact addJ_all hs hP j c h
    · exact hP _
theorem addJ_nodup {p k q n : Nat} {L0 : List Nat} {f : Nat → Nat} {s : List Nat} (h : s.Nodup) : ∀ j, (addJ p k q n L0 f s j).Nodup
  | 0 => h
  | j + 1 => mark_nodup (addJ_nodup h j)
theorem addJ_mem {p k q n : Nat} {L0 : List Nat} {f : Nat → Nat} {s : List Nat} : ∀ j c, c ∈ addJ p k q n L0 f s j ↔ c ∈ s ∨ ∃ i, i < j ∧ c = sumC p k q n (L0.getD i 0) f
  | 0, c => ⟨.inl, fun h => h.elim id (fun ⟨i, hi, _⟩ => by omega)⟩
  | j + 1, c => by
    show c ∈ mark _ _ ↔ _
    rw [mem_mark, addJ_mem j c]
    constructor
    · rintro ((h | ⟨i, hi, e⟩) | e)
      · exact .inl h
      · exact .inr ⟨i, by omega, e⟩
      · exact .inr ⟨j, by omega, e⟩
    · rintro (h | ⟨i, hi, e⟩)
      · exact .inl (.inl h)
      · by_cases hij : i = j
        · subst hij; exact .inr e
        · exact .inl (.inr ⟨i, by omega, e⟩)
theorem addJ_pre {p k q n : Nat} {L0 : List Nat} {f : Nat → Nat} {s : List Nat} {i : Nat} (hi : i < s.length) : ∀ j, i < (addJ p k q n L0 f s j).length ∧ (addJ p k q n L0 f s j).getD i 0 = s.getD i 0
  | 0 => ⟨hi, rfl⟩
  | j + 1 => by
    have h := addJ_pre (p := p) (k := k) (q := q) (n := n) (L0 := L0) (f := f) hi j
    have h2 := mark_pre (c := sumC p k q n (L0.getD j 0) f) h.1
    exact ⟨h2.1, h2.2.trans h.2⟩
theorem addX_pre {p k q n : Nat} {low : List Int} {L0 : List Nat} {f : Nat → Nat} {i : Nat} (hi : i < L0.length) : ∀ t, i < (addX p k q n low L0 f t).length ∧ (addX p k q n low L0 f t).getD i 0 = L0.getD i 0
  | 0 => ⟨hi, rfl⟩
  | t + 1 => by
    have h := addX_pre (p := p) (k := k) (q := q) (n := n) (low := low) (f := f) hi t
    have h2 := addJ_pre (p := p) (k := k) (q := q) (n := n) (L0 := L0) (f := timR p k low (t + 1) f) h.1 L0.length
    exact ⟨h2.1, h2.2.trans h.2⟩
theorem addX_all {p k q n : Nat} {low : List Int} {L0 : List Nat} {f : Nat → Nat} {P : Nat → Prop} (hs : ∀ c, c ∈ L0 → P c) (hP : ∀ c g, P (sumC p k q n c g)) : ∀ t, ∀ c, c ∈ addX p k q n low L0 f t → P c
  | 0, c, h => hs c h
  | t + 1, c, h => addJ_all (addX_all hs hP t) (fun c => hP c _) _ c h
theorem addX_nodup {p k q n : Nat} {low : List Int} {L0 : List Nat} {f : Nat → Nat} (h : L0.Nodup) : ∀ t, (addX p k q n low L0 f t).Nodup
  | 0 => h
  | t + 1 => addJ_nodup (addX_nodup h t) _
theorem addX_mem {p k q n : Nat} {low : List Int} {L0 : List Nat} {f : Nat → Nat} : ∀ t c, c ∈ addX p k q n low L0 f t ↔ c ∈ L0 ∨ ∃ x i, 1 ≤ x ∧ x ≤ t ∧ i < L0.length ∧ c = sumC p k q n (L0.getD i 0) (timR p k low x f)
  | 0, c => ⟨.inl, fun h => h.elim id (fun ⟨x, i, h1, h2, _⟩ => by omega)⟩
  | t + 1, c => by
    show c ∈ addJ _ _ _ _ _ _ _ _ ↔ _
    rw [addJ_mem, addX_mem t c]
    constructor
    · rintro ((h | ⟨x, i, h1, h2, h3, e⟩) | ⟨i, hi, e⟩)
      · exact .inl h
      · exact .inr ⟨x, i, h1, by omega, h3, e⟩
      · exact .inr ⟨t + 1, i, by omega, by omega, hi, e⟩
    · rintro (h | ⟨x, i, h1, h2, h3, e⟩)
      · exact .inl (.inl h)
      · by_cases hx : x = t + 1
        · subst hx; exact .inr ⟨i, h3, e⟩
        · exact .inl (.inr ⟨x, i, h1, by omega, h3, e⟩)

section
variable {p k : Nat} {low : List Int} [hI : FldP p k low]

theorem qpos {p k : Nat} (low : List Int) [hI : FldP p k low] : 0 < p ^ k := Nat.pow_pos (FldP.pos hI)
/-- The row of a number over the field; the number of a row. -/
noncomputable def vOf (n c : Nat) : Nat → El p k low := fun j => if j < n then ⟨opn (p ^ k) n c j, opn_lt (Nat.pow_pos (FldP.pos hI))⟩ else 0
def cOf (n : Nat) (v : Nat → El p k low) : Nat := shutN (p ^ k) n (toN v)

theorem vOf_n {n c j : Nat} (hj : j < n) : (vOf (p := p) (k := k) (low := low) n c j).n = opn (p ^ k) n c j := by unfold vOf; rw [if_pos hj]
theorem vOf_sup {n c j : Nat} (hj : n ≤ j) : vOf (p := p) (k := k) (low := low) n c j = 0 := by unfold vOf; rw [if_neg (by omega)]
theorem cOf_lt (n : Nat) (v : Nat → El p k low) : cOf n v < (p ^ k) ^ n := shutN_lt (qpos (k := k) low) fun j _ => (v j).h
theorem vOf_cOf {n : Nat} {v : Nat → El p k low} (hz : ∀ j, n ≤ j → v j = 0) : vOf n (cOf n v) = v := by
  funext j
  by_cases hj : j < n
  · refine El.ext' ?_
    rw [vOf_n hj]
    exact opn_shut (qpos (k := k) low) (fun j _ => (v j).h) hj
  · rw [vOf_sup (by omega), hz j (by omega)]
theorem cOf_vOf {n c : Nat} (hc : c < (p ^ k) ^ n) : cOf n (vOf (p := p) (k := k) (low := low) n c) = c := by
  unfold cOf
  exact (shutN_congr (f := toN (vOf (p := p) (k := k) (low := low) n c)) (g := opn (p ^ k) n c) fun j hj => vOf_n hj).trans (shut_opn (qpos (k := k) low) hc)
theorem vOf_zero (n : Nat) : vOf (p := p) (k := k) (low := low) n 0 = vz := by
  funext j
  by_cases hj : j < n
  · refine El.ext' ?_
    rw [vOf_n hj, opn_zero]; rfl
  · rw [vOf_sup (by omega)]; rfl
theorem vOf_inj {n c d : Nat} (hc : c < (p ^ k) ^ n) (hd : d < (p ^ k) ^ n) (h : vOf (p := p) (k := k) (low := low) n c = vOf n d) : c = d := by
  rw [← cOf_vOf (low := low) hc, ← cOf_vOf (low := low) hd, h]
/-- A sum of the reference. -/
theorem sumC_is (n c : Nat) (x : El p k low) (r : Nat → El p k low) : sumC p k (p ^ k) n c (timR p k low x.n (toN r)) = cOf n (lin (vOf n c) x r) := by
  unfold sumC cOf
  refine shutN_congr fun j hj => ?_
  show _ = (vOf n c j + x * r j).n
  rw [toN_add, toN_mul, vOf_n hj]
  rfl

/-- The numbers that are marked are those of the space. -/
structure IsCodes (n : Nat) (s : List Nat) (S : (Nat → El p k low) → Prop) : Prop where
  nodup : s.Nodup
  lt : ∀ c, c ∈ s → c < (p ^ k) ^ n
  mem : ∀ c, c < (p ^ k) ^ n → (c ∈ s ↔ S (vOf n c))
theorem IsCodes.length {n : Nat} {s : List Nat} {S : (Nat → El p k low) → Prop} (h : IsCodes n s S) : s.length ≤ (p ^ k) ^ n := by
  have := nodup_le id s (List.range ((p ^ k) ^ n)) h.nodup (fun c hc => List.mem_range.2 (h.lt c hc)) (fun _ _ _ _ e => e)
  simpa using this
theorem mem_getD {s : List Nat} {c : Nat} : c ∈ s ↔ ∃ i, i < s.length ∧ s.getD i 0 = c := by
  rw [List.mem_iff_getElem]
  constructor
  · rintro ⟨i, hi, e⟩
    exact ⟨i, hi, by rw [List.getD_eq_getElem?_getD, List.getElem?_eq_getElem hi, Option.getD_some, e]⟩
  · rintro ⟨i, hi, e⟩
    exact ⟨i, hi, by rw [List.getD_eq_getElem?_getD, List.getElem?_eq_getElem hi, Option.getD_some] at e; exact e⟩

theorem codes_step {n : Nat} {s : List Nat} {V : List (Nat → El p k low)} {r : Nat → El p k low} (hz : Zero n V) (hr : ∀ j, n ≤ j → r j = 0) (h : IsCodes n s (Span V)) : IsCodes n (addX p k (p ^ k) n low s (toN r) (p ^ k - 1)) (Span (V ++ [r])) := by
  have hsup : ∀ (x : El p k low) (u : Nat → El p k low), (∀ j, n ≤ j → u j = 0) → ∀ j, n ≤ j → lin u x r j = 0 := fun x u hu j hj => by
    unfold lin; rw [hu j hj, hr j hj, Fld.mul_zero, Fld.add_zero]
  refine ⟨addX_nodup h.nodup _, addX_all (h.lt) (fun c g => ?_) _, fun c hc => ?_⟩
  · refine shutN_lt (qpos (k := k) low) fun j _ => addF_lt (FldP.pos hI) _ _
  · rw [addX_mem]
    constructor
    · rintro (hm | ⟨x, i, h1, h2, h3, rfl⟩)
      · exact span_sublist (fun _ h => List.mem_append_left _ h) ((h.mem c hc).1 hm)
      · have hx : x < p ^ k := by have := qpos (p := p) (k := k) low; omega
        have e := sumC_is n (s.getD i 0) (⟨x, hx⟩ : El p k low) r
        have e' : sumC p k (p ^ k) n (s.getD i 0) (timR p k low x (toN r)) = cOf n (lin (vOf n (s.getD i 0)) (⟨x, hx⟩ : El p k low) r) := e
        rw [e', vOf_cOf (hsup _ _ fun j hj => vOf_sup hj)]
        have hd : s.getD i 0 ∈ s := mem_getD.2 ⟨i, h3, rfl⟩
        exact span_snoc.2 ⟨_, _, (h.mem _ (h.lt _ hd)).1 hd, rfl⟩
    · intro hv
      obtain ⟨x, u, hu, e⟩ := span_snoc.1 hv
      have hus : ∀ j, n ≤ j → u j = 0 := fun j hj => (span_sub hz).sup u hu j hj
      by_cases hx : x = 0
      · left
        refine (h.mem c hc).2 ?_
        rw [e, hx, lin_zero]; exact hu
      · right
        have hd : cOf n u ∈ s := (h.mem _ (cOf_lt n u)).2 (by rw [vOf_cOf hus]; exact hu)
        obtain ⟨i, hi, ei⟩ := mem_getD.1 hd
        have hx0 : x.n ≠ 0 := fun h0 => hx (n_zero.1 h0)
        have hxl := x.h
        refine ⟨x.n, i, by omega, by omega, hi, ?_⟩
        rw [sumC_is n (s.getD i 0) x r, ei, vOf_cOf hus, ← e, cOf_vOf hc]
theorem codes_start (n : Nat) : IsCodes n [0] (Span ([] : List (Nat → El p k low))) := by
  have h0 : 0 < (p ^ k) ^ n := Nat.pow_pos (qpos (k := k) low)
  refine ⟨by simp, fun c hc => by have : c = 0 := by simpa using hc
                                  omega, fun c hc => ?_⟩
  rw [List.mem_singleton]
  constructor
  · rintro rfl; exact vOf_zero n
  · intro h
    have h : vOf (p := p) (k := k) (low := low) n c = vz := h
    exact vOf_inj (low := low) hc h0 (h.trans (vOf_zero n).symm)
theorem spanC_codes {n : Nat} {V : List (Nat → El p k low)} (hz : Zero n V) : ∀ i, i ≤ V.length → IsCodes n (spanC p k n low (V.map toN) i) (Span (V.take i))
  | 0, _ => by rw [List.take_zero]; exact codes_start n
  | i + 1, hi => by
    have ih := spanC_codes hz i (by omega)
    have e : V.take (i + 1) = V.take i ++ [rowAt V i] := by
      rw [List.take_add_one, rowAt_eq V i (by omega), List.getElem?_eq_getElem (by omega)]
      rfl
    rw [e]
    show IsCodes n (addX p k (p ^ k) n low (spanC p k n low (V.map toN) i) (fAt (V.map toN) i) (p ^ k - 1)) _
    rw [fAt_map]
    exact codes_step (fun r hr => hz r (List.mem_of_mem_take hr)) (hz _ (rowAt_mem V i (by omega))) ih
theorem span_codes {n : Nat} {V : List (Nat → El p k low)} (hz : Zero n V) : IsCodes n (spanC p k n low (V.map toN) V.length) (Span V) := by
  have h := spanC_codes hz V.length (Nat.le_refl _)
  rwa [List.take_length] at h
end

end Go.Proofs.YtnhdngnolepkcaaDoor
