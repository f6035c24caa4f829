/- What field.open answers at any field. Condition: the variable of primes holds them. -/
import Derived.Test.YtnfonobdfkpkeaaDoorFIrred
import Derived.Test.YtnfonobdfkpkeaaDoorFOrder
namespace Go.Proofs.YtnfonobdfkpkeaaDoor
open Go.RowKit

/-- No digit. -/
def badDg (p x : Int) : Bool := decide (x < 0) || decide (p ≤ x)
/-- What is wrong with a field. -/
def fieldFault (p k : Int) (low : List Int) : Int :=
  if ordF p k = 0 then 1 else if (low.length : Int) ≠ k then 2 else if low.any (badDg p) = true then 1 else if irrF p.toNat k.toNat (nth low) = true then 0 else 4
/-- A field that is one. -/
structure IsField (p k : Nat) (low : List Int) : Prop where
  prime : primeF p = true
  p2 : 2 ≤ p
  p61 : p ≤ 61
  k1 : 1 ≤ k
  k6 : k ≤ 6
  big : p ^ k ≤ 64
  len : low.length = k
  dig : Dig p (nth low)
  irr : irrF p k (nth low) = true
theorem ordF_nat {p k : Int} (h : ordF p k ≠ 0) : ∃ P K : Nat, p = P ∧ k = K ∧ 2 ≤ P ∧ P ≤ 61 ∧ 1 ≤ K ∧ K ≤ 6 ∧ P ^ K ≤ 64 ∧ ordF p k = P ^ K ∧ primeF P = true := by
  obtain ⟨h1, h2, h3, h4, h5⟩ := ordF_pos h
  obtain ⟨a, b⟩ := prime_bd h1
  exact ⟨p.toNat, k.toNat, by omega, by omega, by omega, by omega, by omega, by omega, h4, h5, by rw [Int.toNat_of_nonneg (by omega)]; exact h1⟩
theorem nth_dig {p : Nat} {low : List Int} (hp : 0 < p) (h : ¬ low.any (badDg p) = true) : Dig p (nth low) := fun m => by
  by_cases hm : m < low.length
  · have h3 : low.any (badDg p) = false := by simpa using h
    have := List.any_eq_false.1 h3 _ (nth_mem low m hm)
    unfold badDg at this
    simp at this
    omega
  · have : nth low m = 0 := by unfold nth; rw [List.getD_eq_getElem?_getD, List.getElem?_eq_none (by omega)]; rfl
    rw [this]; omega
theorem fieldFault_zero {p k : Int} {low : List Int} (h : fieldFault p k low = 0) : ∃ P K : Nat, p = P ∧ k = K ∧ IsField P K low ∧ ordF p k = P ^ K := by
  unfold fieldFault at h
  split at h
  · omega
  · rename_i h1
    obtain ⟨P, K, rfl, rfl, a1, a2, a3, a4, a5, a6, a7⟩ := ordF_nat h1
    split at h
    · omega
    · rename_i h2
      split at h
      · omega
      · rename_i h3
        split at h
        · rename_i h4
          rw [Int.toNat_natCast, Int.toNat_natCast] at h4
          exact ⟨P, K, rfl, rfl, ⟨a7, a1, a2, a3, a4, a5, by omega, nth_dig (by omega) h3, h4⟩, a6⟩
        · omega
theorem IsField.fault {p k : Nat} {low : List Int} (h : IsField p k low) : fieldFault p k low = 0 ∧ ordF p k = p ^ k := by
  have ho : ordF p k = p ^ k := by
    unfold ordF
    rw [Int.toNat_natCast, Int.toNat_natCast, if_pos ⟨h.prime, by have := h.k1; omega, by have := h.k6; omega, h.big⟩]
  refine ⟨?_, ho⟩
  unfold fieldFault
  have h2 := h.p2
  have hq : p ^ k ≠ 0 := Nat.pos_iff_ne_zero.1 (Nat.pow_pos (by omega))
  rw [ho, if_neg hq, if_neg (by rw [h.len]; simp), if_neg, Int.toNat_natCast, Int.toNat_natCast, if_pos h.irr]
  simp only [List.any_eq_true, not_exists, not_and, Bool.not_eq_true]
  intro x hx
  obtain ⟨j, hj, rfl⟩ := mem_nth _ _ hx
  have := h.dig j
  unfold badDg
  rw [decide_eq_false (by omega), decide_eq_false (by omega)]
  rfl

/-- The world of an opening. -/
structure OpSt (w wr : World) (p k : Int) (ao : Option Addr) (len cap : Nat) : Prop where
  ext : Ext w wr
  fb : Blk wr w.heap.size #[.int .i64 p, .int .i64 k, .slice ao len cap] 24
  rb : Blk wr (w.heap.size + 1) #[.int .i64 0, .int .i64 0, .slice none 0 0, .int .i64 0] 55
theorem OpSt.carry {w wr w' : World} {p k : Int} {ao : Option Addr} {len cap : Nat} (h : OpSt w wr p k ao len cap) (hx : Ext wr w') : OpSt w w' p k ao len cap := ⟨h.ext.trans hx, h.fb.ext hx, h.rb.ext hx⟩
theorem OpSt.start (w : World) (p k : Int) (ao : Option Addr) (len cap : Nat) : OpSt w ((w.alloc (.cells #[.int .i64 p, .int .i64 k, .slice ao len cap] 24)).alloc (.cells #[.int .i64 0, .int .i64 0, .slice none 0 0, .int .i64 0] 55)) p k ao len cap :=
  ⟨((Ext.refl w).alloc _).alloc _, (Blk.new _ _ _).alloc _, Blk.new' _ _ _ (by rw [World.size_alloc])⟩

/-- What is answered. -/
def OpenIs (p k : Int) (ao : Option Addr) (len cap : Nat) (low : List Int) (e : Ending) : Prop :=
  (fieldFault p k low ≠ 0 → e = .returned (.tuple #[.agg #[.int .i64 0, .int .i64 0, .slice none 0 0, .int .i64 0], .int .i64 (fieldFault p k low)])) ∧
  (fieldFault p k low = 0 → e = .returned (.tuple #[.agg #[.int .i64 p, .int .i64 k, .slice ao len cap, .int .i64 (ordF p k)], .int .i64 0]))

set_option maxHeartbeats 2000000 in
theorem open_order (p k : Int) (ao : Option Addr) (len cap : Nat) (low : List Int) (w : World) (hP : Primes w) (h0 : ordF p k = 0) :
    Calls Tryd.prog 31 #[.agg #[.int .i64 p, .int .i64 k, .slice ao len cap]] w fun e w' => OpenIs p k ao len cap low e ∧ Ext w w' := by
  have H0 := Lib.hid (OpSt.start w p k ao len cap)
  have HO := Lib.hid (order_any p k _ (hP.ext H0.out.ext))
  have HV : Hid (fieldFault p k low = 1) := by show _ = _; unfold fieldFault; rw [if_pos h0]
  rw [h0] at HO
  clear hP h0
  go_enter Tryd.func31, Tryd.ntmps31
  go_wp2_with (go_at_call 36; refine Calls.mono HO.out ?_; rintro e w1 ⟨rfl, rfl⟩)
  exact bodyPost_ret (v := .tuple #[.agg #[.int .i64 0, .int .i64 0, .slice none 0 0, .int .i64 0], .int .i64 1]) (by simp [results, Tryd.results31, go_sem]) rfl ⟨⟨fun _ => by rw [HV.out], fun h => by rw [HV.out] at h; cases h⟩, H0.out.ext⟩

set_option maxHeartbeats 2000000 in
theorem open_shape (p k : Int) (ao : Option Addr) (len cap : Nat) (low : List Int) (w : World) (hP : Primes w) (h0 : ordF p k ≠ 0) (hl : low.length = len) (hs : (len : Int) ≠ k) :
    Calls Tryd.prog 31 #[.agg #[.int .i64 p, .int .i64 k, .slice ao len cap]] w fun e w' => OpenIs p k ao len cap low e ∧ Ext w w' := by
  have H0 := Lib.hid (OpSt.start w p k ao len cap)
  have HO := Lib.hid (order_any p k _ (hP.ext H0.out.ext))
  have HV : Hid (fieldFault p k low = 2) := by show _ = _; unfold fieldFault; rw [if_neg h0, if_pos (by rw [hl]; exact hs)]
  rw [show (ordF p k != 0) = true from by rw [bne_iff_ne]; exact h0] at HO
  have b1 : ((len : Int) != k) = true := by rw [bne_iff_ne]; exact hs
  clear hP h0 hl hs
  go_enter Tryd.func31, Tryd.ntmps31
  go_wp2_with (go_at_call 36; refine Calls.mono HO.out ?_; rintro e w1 ⟨rfl, rfl⟩)
  exact bodyPost_ret (v := .tuple #[.agg #[.int .i64 0, .int .i64 0, .slice none 0 0, .int .i64 0], .int .i64 2]) (by simp [results, Tryd.results31, go_sem]) rfl ⟨⟨fun _ => by rw [HV.out], fun h => by rw [HV.out] at h; cases h⟩, H0.out.ext⟩

/-- A loop's world: the low digits are laid down. -/
structure OlSt (w wr : World) (p k : Int) (ao : Option Addr) (len cap : Nat) (low : List Int) (j : Nat) : Prop where
  st : OpSt w wr p k ao len cap
  lp : Pol wr (w.heap.size + 1 + 1) (fun i => if i < j then nth low i else 0)
theorem OlSt.next {w wr : World} {p k : Int} {ao : Option Addr} {len cap : Nat} {low : List Int} {j : Nat} (h : OlSt w wr p k ao len cap low j) (hj : j < 7) : OlSt w (wr.setCell ⟨w.heap.size + 1 + 1, j, none⟩ (.int .i64 (nth low j))) p k ao len cap low (j + 1) := by
  refine ⟨⟨h.st.ext.set (by simp; omega) _, h.st.fb.beside _ (by simp; omega) _, h.st.rb.beside _ (by simp) _⟩, (h.lp.set j hj _).congr fun i _ => ?_⟩
  unfold upd
  by_cases e : i = j
  · subst e; rw [if_pos rfl, if_pos (by omega)]
  · rw [if_neg e]
    show (if i < j then nth low i else 0) = if i < j + 1 then nth low i else 0
    by_cases h : i < j
    · rw [if_pos h, if_pos (by omega)]
    · rw [if_neg h, if_neg (by omega)]

set_option maxHeartbeats 4000000 in
theorem open_rest (p k : Nat) (ao : Option Addr) (cap : Nat) (low : List Int) (w : World) (hP : Primes w) (ho : ordF p k = p ^ k) (h2 : 2 ≤ p) (h61 : p ≤ 61) (hk1 : 1 ≤ k) (hk6 : k ≤ 6) (h64 : p ^ k ≤ 64) (hl : low.length = k) (hr : Reads w ao (ints low)) :
    Calls Tryd.prog 31 #[.agg #[.int .i64 p, .int .i64 k, .slice ao k cap]] w fun e w' => OpenIs p k ao k cap low e ∧ Ext w w' := by
  have H0 := Lib.hid (OpSt.start w p k ao k cap)
  have HO := Lib.hid (order_any p k _ (hP.ext H0.out.ext))
  have hq : p ^ k ≠ 0 := Nat.pos_iff_ne_zero.1 (Nat.pow_pos (by omega))
  have HV : Hid (fieldFault p k low = if low.any (badDg p) = true then 1 else if irrF p k (nth low) = true then 0 else 4) := by
    show _ = _; unfold fieldFault; rw [ho, if_neg hq, if_neg (by rw [hl]; simp), Int.toNat_natCast, Int.toNat_natCast]
  have HOR := Lib.hid ho
  rw [show (ordF p k != 0) = true from by rw [bne_iff_ne, ho]; exact hq, ho] at HO
  have HH64 := Lib.hid h64
  obtain ⟨q, hqq⟩ : ∃ q, p ^ k = q := ⟨_, rfl⟩
  rw [hqq] at HO h64 HOR
  have b1 : ((k : Int) != (k : Int)) = false := by simp
  obtain ⟨b, off, rfl, hb, hc⟩ := Reads.int hr (by omega)
  have HC := Lib.hid hc
  have HL := Lib.hid hl
  clear hP ho hl hr hc hq hqq
  go_enter Tryd.func31, Tryd.ntmps31
  go_wp2_with (go_at_call 36; refine Calls.mono HO.out ?_; rintro e w1 ⟨rfl, rfl⟩)
  have H1 : Hid (OlSt w (((w.alloc (.cells #[.int .i64 p, .int .i64 k, .slice (some ⟨b, off, none⟩) k cap] 24)).alloc (.cells #[.int .i64 0, .int .i64 0, .slice none 0 0, .int .i64 0] 55)).alloc (.cells #[.int .i64 0, .int .i64 0, .int .i64 0, .int .i64 0, .int .i64 0, .int .i64 0, .int .i64 0] 63)) p k (some ⟨b, off, none⟩) k cap low 0) :=
    ⟨H0.out.carry ((Ext.refl _).alloc _), Pol.congr (f := fun _ => 0) (Pol.new' _ (fun _ => 0) (b := w.heap.size + 1 + 1) (by rw [World.size_alloc, World.size_alloc])) fun i _ => by show (0 : Int) = if i < 0 then nth low i else 0; rw [if_neg (by omega)]⟩
  obtain ⟨w0, hw0⟩ : ∃ w0, w0 = (((w.alloc (.cells #[.int .i64 p, .int .i64 k, .slice (some ⟨b, off, none⟩) k cap] 24)).alloc (.cells #[.int .i64 0, .int .i64 0, .slice none 0 0, .int .i64 0] 55)).alloc (.cells #[.int .i64 0, .int .i64 0, .int .i64 0, .int .i64 0, .int .i64 0, .int .i64 0, .int .i64 0] 63)) := ⟨_, rfl⟩
  rw [← hw0] at H1 ⊢
  clear hw0
  go_loopw [30] (fun a wr => ∃ j : Nat, j ≤ k ∧ a = .int .i64 j ∧ OlSt w wr p k (some ⟨b, off, none⟩) k cap low j ∧ ∀ i, i < j → badDg p (nth low i) = false) (fun a _ => k - (intOf a).toNat)
  case atStart => exact ⟨0, by omega, rfl, H1.out, fun i h => by omega⟩
  case round =>
    obtain ⟨j, hj, rfl, hst, hall⟩ := hrel
    have HS := Lib.hid hst
    have HA := Lib.hid hall
    clear hst hall H1
    by_cases hjk : j < k
    · have k1 := (HS.out.st.ext.cell hb).trans (HC.out j (by rw [HL.out]; exact hjk))
      obtain ⟨k2, k3, k4⟩ := HS.out.st.fb.three
      have k5 := HS.out.lp.at j (by omega)
      have k6 := HS.out.lp.f j
      have hja : (0 : Int) ≤ (j : Int) := by omega
      have hjb : (j : Int) < 7 := by omega
      have HN := Lib.hid (HS.out.next (by omega))
      have HMEM : Hid (nth low j ∈ low) := nth_mem low j (by rw [HL.out]; exact hjk)
      obtain ⟨x, hx⟩ : ∃ x, nth low j = x := ⟨_, rfl⟩
      have HXE := Lib.hid hx
      rw [hx] at k1 HN
      clear hx
      by_cases hbad : badDg p x = true
      · have HB : Hid (fieldFault p k low = 1) := by show _ = _; rw [HV.out, if_pos (List.any_eq_true.2 ⟨_, HMEM.out, by rw [HXE.out]; exact hbad⟩)]
        have hr1 := HS.out.st.rb.four
        have hr2 := HS.out.st.rb.f
        have HRB := Lib.hid ((((HS.out.st.rb.set 0 (.int .i64 0)).set 1 (.int .i64 0)).set 2 (.slice none 0 0)).set 3 (.int .i64 0))
        have HXX : Hid (Ext w ((((wr.setCell ⟨w.heap.size + 1, 0, none⟩ (.int .i64 0)).setCell ⟨w.heap.size + 1, 1, none⟩ (.int .i64 0)).setCell ⟨w.heap.size + 1, 2, none⟩ (.slice none 0 0)).setCell ⟨w.heap.size + 1, 3, none⟩ (.int .i64 0))) :=
          (((HS.out.st.ext.set (p := ⟨w.heap.size + 1, 0, none⟩) (by simp) _).set (p := ⟨w.heap.size + 1, 1, none⟩) (by simp) _).set (p := ⟨w.heap.size + 1, 2, none⟩) (by simp) _).set (p := ⟨w.heap.size + 1, 3, none⟩) (by simp) _
        have hcs : decide (x < 0) = true ∨ (decide (x < 0) = false ∧ decide ((p : Int) ≤ x) = true) := by
          unfold badDg at hbad
          rw [Bool.or_eq_true] at hbad
          by_cases h : x < 0
          · exact .inl (decide_eq_true h)
          · exact .inr ⟨decide_eq_false h, by rcases hbad with h' | h'; exact absurd (of_decide_eq_true h') h; exact h'⟩
        clear hbad
        rcases hcs with d1 | ⟨d1, d2⟩
        all_goals
          go_wp2
          have k9 := HRB.out.four
          exact bodyPost_ret (v := .tuple #[.agg #[.int .i64 0, .int .i64 0, .slice none 0 0, .int .i64 0], .int .i64 1]) (by simp [results, Tryd.results31, go_sem, k9]) rfl ⟨⟨fun _ => by rw [HB.out], fun h => by rw [HB.out] at h; cases h⟩, HXX.out⟩
      · have hbf : badDg p x = false := by simpa using hbad
        have HB := Lib.hid hbf
        have d1 : decide (x < 0) = false ∧ decide ((p : Int) ≤ x) = false := by unfold badDg at hbf; rw [Bool.or_eq_false_iff] at hbf; exact hbf
        obtain ⟨d1, d2⟩ := d1
        clear hbf hbad
        go_wp2
        exact ⟨⟨j + 1, by omega, by go_num, HN.out, fun i hi => by
          rcases Nat.lt_succ_iff_lt_or_eq.1 hi with h | rfl
          · exact HA.out i h
          · rw [HXE.out]; exact HB.out⟩, by simp [intOf]; omega⟩
    · obtain rfl : k = j := by omega
      have hany : ¬ low.any (badDg p) = true := by
        rw [List.any_eq_true]
        rintro ⟨x, hx, hb⟩
        obtain ⟨i, hi, rfl⟩ := mem_nth _ _ hx
        rw [HA.out i (by rw [HL.out] at hi; exact hi)] at hb
        cases hb
      have HDIG : Hid (Dig p (nth low)) := nth_dig (by omega) hany
      have HPOL : Hid (Pol wr (w.heap.size + 1 + 1) (nth low)) := HS.out.lp.congr fun i _ => by
        show (if i < k then nth low i else 0) = nth low i
        by_cases h : i < k
        · rw [if_pos h]
        · rw [if_neg h]; unfold nth; rw [List.getD_eq_getElem?_getD, List.getElem?_eq_none (by rw [HL.out]; omega)]; rfl
      have HV2 : Hid (fieldFault p k low = if irrF p k (nth low) = true then 0 else 4) := by show _ = _; rw [HV.out, if_neg hany]
      have HIR := Lib.hid (irreducible_any p k (nth low) wr h2 h61 hk1 hk6 HH64.out HDIG.out)
      obtain ⟨v, hv⟩ : ∃ v, irrF p k (nth low) = v := ⟨_, rfl⟩
      rw [hv] at HIR HV2
      obtain ⟨k2, k3, k4⟩ := HS.out.st.fb.three
      have k5 := HPOL.out.seven
      clear hany hv
      go_wp2_with fail
      refine Calls.mono HIR.out ?_
      rintro e w2 ⟨rfl, hx⟩
      have HS2 := Lib.hid (HS.out.st.carry hx)
      have hr1 := HS2.out.rb.four
      have hr2 := HS2.out.rb.f
      have hr3 := HS2.out.fb.three
      clear hx k2 k3 k4 k5
      cases v with
      | false =>
        have HRB := Lib.hid ((((HS2.out.rb.set 0 (.int .i64 0)).set 1 (.int .i64 0)).set 2 (.slice none 0 0)).set 3 (.int .i64 0))
        have HXX : Hid (Ext w ((((w2.setCell ⟨w.heap.size + 1, 0, none⟩ (.int .i64 0)).setCell ⟨w.heap.size + 1, 1, none⟩ (.int .i64 0)).setCell ⟨w.heap.size + 1, 2, none⟩ (.slice none 0 0)).setCell ⟨w.heap.size + 1, 3, none⟩ (.int .i64 0))) :=
          (((HS2.out.ext.set (p := ⟨w.heap.size + 1, 0, none⟩) (by simp) _).set (p := ⟨w.heap.size + 1, 1, none⟩) (by simp) _).set (p := ⟨w.heap.size + 1, 2, none⟩) (by simp) _).set (p := ⟨w.heap.size + 1, 3, none⟩) (by simp) _
        go_wp2
        have k9 := HRB.out.four
        exact bodyPost_ret (v := .tuple #[.agg #[.int .i64 0, .int .i64 0, .slice none 0 0, .int .i64 0], .int .i64 4]) (by simp [results, Tryd.results31, go_sem, k9]) rfl ⟨⟨fun _ => by rw [HV2.out]; rfl, fun h => by rw [HV2.out] at h; cases h⟩, HXX.out⟩
      | true =>
        have HRB := Lib.hid ((((HS2.out.rb.set 0 (.int .i64 p)).set 1 (.int .i64 k)).set 2 (.slice (some ⟨b, off, none⟩) k cap)).set 3 (.int .i64 q))
        have HXX : Hid (Ext w ((((w2.setCell ⟨w.heap.size + 1, 0, none⟩ (.int .i64 p)).setCell ⟨w.heap.size + 1, 1, none⟩ (.int .i64 k)).setCell ⟨w.heap.size + 1, 2, none⟩ (.slice (some ⟨b, off, none⟩) k cap)).setCell ⟨w.heap.size + 1, 3, none⟩ (.int .i64 q))) :=
          (((HS2.out.ext.set (p := ⟨w.heap.size + 1, 0, none⟩) (by simp) _).set (p := ⟨w.heap.size + 1, 1, none⟩) (by simp) _).set (p := ⟨w.heap.size + 1, 2, none⟩) (by simp) _).set (p := ⟨w.heap.size + 1, 3, none⟩) (by simp) _
        go_wp2
        have k9 := HRB.out.four
        exact bodyPost_ret (v := .tuple #[.agg #[.int .i64 p, .int .i64 k, .slice (some ⟨b, off, none⟩) k cap, .int .i64 q], .int .i64 0]) (by simp [results, Tryd.results31, go_sem, k9]) rfl ⟨⟨fun h => by rw [HV2.out] at h; exact absurd rfl h, fun _ => by rw [HOR.out]⟩, HXX.out⟩

theorem open_any (p k : Int) (ao : Option Addr) (len cap : Nat) (low : List Int) (w : World) (hP : Primes w) (hl : low.length = len) (hr : Reads w ao (ints low)) :
    Calls Tryd.prog 31 #[.agg #[.int .i64 p, .int .i64 k, .slice ao len cap]] w fun e w' => OpenIs p k ao len cap low e ∧ Ext w w' := by
  by_cases h0 : ordF p k = 0
  · exact open_order p k ao len cap low w hP h0
  · by_cases hs : (len : Int) ≠ k
    · exact open_shape p k ao len cap low w hP h0 hl hs
    · obtain ⟨P, K, rfl, rfl, a1, a2, a3, a4, a5, a6, a7⟩ := ordF_nat h0
      obtain rfl : len = K := by omega
      exact open_rest P len ao cap low w hP a6 a1 a2 a3 a4 a5 hl hr

end Go.Proofs.YtnfonobdfkpkeaaDoor
