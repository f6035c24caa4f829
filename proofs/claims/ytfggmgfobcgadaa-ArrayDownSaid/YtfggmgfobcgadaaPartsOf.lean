/- What parterreref3.PartFault and parterreref3.Without answer at any runs. -/
import Derived.Test.YtfggmgfobcgadaaParts
namespace Go.Proofs.Ytfggmgfobcgadaa
open Go.RowKit

set_option maxHeartbeats 1000000 in
theorem partFault_any (s : Int) (ao : Option Addr) (n cap : Nat) (xss : List (List Int)) (col : Int) (w : World) (hl : xss.length = n) (hbig : n ≤ maxLen) (hr : ReadsL w ao xss) :
    Calls Try.prog 11 #[.int .i64 s, .slice ao n cap, .int .i64 col] w fun e w' => ∃ c, e = .returned (.int .i64 c) ∧ PartIs s xss col c ∧ Ext w w' := by
  have HC := Lib.hid (runsFault_any s ao n cap xss w hl hbig hr)
  by_cases hz : RunsAre s xss 0
  · have hR := hz.zero
    obtain ⟨b, off, a, q, rfl, hb, hc⟩ := hR.first hr
    have hk1 := hR.k1
    have hk8 := hR.k8
    have h128 := hR.n128
    have h1n := hR.n1
    rw [hl] at h128 h1n
    have HZ := Lib.hid hz
    obtain ⟨k, hk⟩ : ∃ k, (row xss 0).length = k := ⟨_, rfl⟩
    have HP : Hid (∀ c, (((col < 0 ∨ (k : Int) ≤ col) ∧ c = 1) ∨ (0 ≤ col ∧ col < k ∧ k = 1 ∧ c = 2) ∨ (0 ≤ col ∧ col < k ∧ k ≠ 1 ∧ c = 0)) → PartIs s xss col c) := fun c h => .inr ⟨hR, by rw [hk]; exact h⟩
    rw [hk] at hk1 hk8 hc
    have hcs : (decide (col < 0) = true ∧ ((col < 0 ∨ (k : Int) ≤ col))) ∨ (decide (col < 0) = false ∧ decide ((k : Int) ≤ col) = true ∧ ((col < 0 ∨ (k : Int) ≤ col))) ∨
        (decide (col < 0) = false ∧ decide ((k : Int) ≤ col) = false ∧ ((k : Int) == 1) = true ∧ 0 ≤ col ∧ col < k ∧ k = 1) ∨ (decide (col < 0) = false ∧ decide ((k : Int) ≤ col) = false ∧ ((k : Int) == 1) = false ∧ 0 ≤ col ∧ col < k ∧ k ≠ 1) := by
      by_cases h1 : col < 0
      · exact .inl ⟨decide_eq_true h1, .inl h1⟩
      · by_cases h2 : (k : Int) ≤ col
        · exact .inr (.inl ⟨decide_eq_false h1, decide_eq_true h2, .inr h2⟩)
        · by_cases h3 : k = 1
          · exact .inr (.inr (.inl ⟨decide_eq_false h1, decide_eq_false h2, by rw [h3]; rfl, by omega, by omega, h3⟩))
          · exact .inr (.inr (.inr ⟨decide_eq_false h1, decide_eq_false h2, by rw [beq_eq_false_iff_ne]; omega, by omega, by omega, h3⟩))
    clear hR hz hl hr hk
    rcases hcs with ⟨b1, hv⟩ | ⟨b1, b2, hv⟩ | ⟨b1, b2, b3, hv⟩ | ⟨b1, b2, b3, hv⟩
    all_goals
      have HV := Lib.hid hv
      clear hv
      go_enter Try.func11, Try.ntmps11
      go_wp2_with (go_at_call 16; refine HC.out.mono ?_; rintro e w1 ⟨c, rfl, hca, hx⟩; obtain rfl := hca.one HZ.out; have HX := Lib.hid hx.ext; have c1 := (hx.ext.cell hb).trans hc; clear hx hca)
      go_ret
      first
        | exact ⟨_, rfl, HP.out _ (.inl ⟨HV.out, rfl⟩), HX.out⟩
        | exact ⟨_, rfl, HP.out _ (.inr (.inl ⟨HV.out.1, HV.out.2.1, HV.out.2.2, rfl⟩)), HX.out⟩
        | exact ⟨_, rfl, HP.out _ (.inr (.inr ⟨HV.out.1, HV.out.2.1, HV.out.2.2, rfl⟩)), HX.out⟩
  · have HZ := Lib.hid hz
    clear hz hl hr
    go_enter Try.func11, Try.ntmps11
    go_wp2_with fail
    refine HC.out.mono ?_
    rintro e w1 ⟨c, rfl, hca, hx⟩
    have hc0 : c ≠ 0 := fun h => HZ.out (h ▸ hca)
    have b1 : (c != 0) = true := by rw [bne_iff_ne]; exact hc0
    have HP : Hid (PartIs s xss col c) := .inl ⟨hca, hc0⟩
    clear hca hc0
    go_wp2
    go_ret
    exact ⟨_, rfl, HP.out, hx.ext⟩

/-- A list without a place, up to a place. -/
def cutUp (xs : List Int) (i j : Nat) : List Int := if j ≤ i then xs.take j else cut (xs.take j) i
theorem cutUp_succ {xs : List Int} {i j : Nat} (hj : j < xs.length) : cutUp xs i (j + 1) = if j = i then cutUp xs i j else cutUp xs i j ++ [nth xs j] := by
  have ht : xs.take (j + 1) = xs.take j ++ [nth xs j] := by
    rw [List.take_add_one, List.getElem?_eq_getElem hj, nth_eq _ _ hj]; rfl
  unfold cutUp
  by_cases e : j = i
  · subst e
    rw [if_neg (by omega), if_pos rfl, if_pos (Nat.le_refl _), ht]
    unfold cut
    rw [List.take_left' (by simp; omega), List.drop_eq_nil_of_le (by simp; omega), List.append_nil]
  · rw [if_neg e]
    by_cases h : j < i
    · rw [if_pos (by omega), if_pos (by omega), ht]
    · rw [if_neg (by omega), if_neg (by omega), ht]
      unfold cut
      rw [List.take_append_of_le_length (by simp; omega), List.drop_append_of_le_length (by simp; omega), List.append_assoc]
theorem cutUp_all {xs : List Int} {i : Nat} (hi : i < xs.length) : cutUp xs i xs.length = cut xs i := by
  unfold cutUp
  rw [if_neg (by omega), List.take_length]
theorem cutUp_le (xs : List Int) (i j : Nat) (h : j ≤ xs.length) : (cutUp xs i j).length ≤ j := by
  unfold cutUp cut
  split <;> simp <;> omega

/-- Is a run taken? -/
def takenAt (lv : Int) (i : Nat) (r : List Int) : Bool := decide (lv < 0) || nth r i == lv

set_option maxHeartbeats 4000000 in
theorem withoutOf_ok (s : Int) (i : Nat) (lv : Int) (ao : Option Addr) (n cap : Nat) (xss : List (List Int)) (w : World) (hl : xss.length = n) (hr : ReadsL w ao xss) (hR : IsRuns s xss) (hi : i < (row xss 0).length) :
    Calls Try.prog 14 #[.slice ao n cap, .int .i64 i, .int .i64 lv] w fun e w' => ∃ v, e = .returned v ∧ OwnTbl w w' v (outs (takenAt lv i) i xss n) := by
  obtain ⟨b, off, rfl, hb, hc⟩ := hr.row (by have := hR.n1; omega)
  have HCC := Lib.hid hc
  have HL := Lib.hid hl
  have HR := Lib.hid hR
  have hk8 := hR.k8
  have h128 := hR.n128
  rw [hl] at h128
  obtain ⟨k, hk⟩ : ∃ k, (row xss 0).length = k := ⟨_, rfl⟩
  have HK := Lib.hid hk
  rw [hk] at hk8 hi
  clear hl hr hc hR hk
  go_enter Try.func14, Try.ntmps14
  go_wp2
  have H0 : Hid (OwnTbl w w (.slice none 0 0) (outs (takenAt lv i) i xss 0)) := OwnTbl.nil (Ext.refl w)
  go_loopw [7, 8] (fun y a wr => ∃ j : Nat, j ≤ n ∧ a = .int .i64 j ∧ OwnTbl w wr y (outs (takenAt lv i) i xss j)) (fun _ a _ => n - (intOf a).toNat)
  case atStart => exact ⟨0, by omega, rfl, H0.out⟩
  case round =>
    obtain ⟨j, hj, rfl, ht⟩ := hrel
    clear H0
    obtain ⟨ao2, n2, cap2, rfl, htb, hx⟩ := ht
    have hle := outs_le (takenAt lv i) i xss j
    rw [htb.length] at hle
    have HTB := Lib.hid htb
    have HX := Lib.hid hx
    clear htb hx
    by_cases hjn : j < n
    · obtain ⟨a, q, c1, r1, _⟩ := HCC.out j (by rw [HL.out]; exact hjn)
      have hlen := HR.out.len j (by rw [HL.out]; exact hjn)
      rw [HK.out] at hlen
      rw [hlen] at c1
      obtain ⟨b3, o3, rfl, hb3, hc3⟩ := Reads.int r1 (by rw [hlen]; omega)
      have HC1 := Lib.hid c1
      have HC3 := Lib.hid hc3
      have HLEN := Lib.hid hlen
      have c2 := (HX.out.cell hb).trans c1
      have c3 := (HX.out.cell hb3).trans (hc3 i (by rw [hlen]; exact hi))
      have HS : Hid (outs (takenAt lv i) i xss (j + 1) = outs (takenAt lv i) i xss j ++ if takenAt lv i (row xss j) = true then [cut (row xss j) i] else []) := outs_succ (takenAt lv i) i xss (j := j) (by rw [HL.out]; exact hjn)
      obtain ⟨xs, hxs⟩ : ∃ xs, row xss j = xs := ⟨_, rfl⟩
      rw [hxs] at c3 HS HC3 HLEN
      obtain ⟨x, hxx⟩ : ∃ x, nth xs i = x := ⟨_, rfl⟩
      have HT : Hid (takenAt lv i xs = (decide (lv < 0) || x == lv)) := by show _ = _; unfold takenAt; rw [hxx]
      rw [hxx] at c3
      clear c1 r1 hlen hxs hc3 hxx
      have hcs : (decide (0 ≤ lv) = true ∧ (x != lv) = true ∧ (decide (lv < 0) || x == lv) = false) ∨ (((decide (0 ≤ lv) = false) ∨ (decide (0 ≤ lv) = true ∧ (x != lv) = false)) ∧ (decide (lv < 0) || x == lv) = true) := by
        by_cases h1 : lv < 0
        · exact .inr ⟨.inl (decide_eq_false (by omega)), by rw [decide_eq_true h1]; rfl⟩
        · by_cases h2 : x = lv
          · exact .inr ⟨.inr ⟨decide_eq_true (by omega), by rw [h2]; simp⟩, by rw [h2]; simp⟩
          · exact .inl ⟨decide_eq_true (by omega), by rw [bne_iff_ne]; exact h2, by rw [decide_eq_false h1, beq_eq_false_iff_ne.2 h2]; rfl⟩
      rcases hcs with ⟨d1, d2, d3⟩ | ⟨hd, d3⟩
      · have HD3 := Lib.hid d3
        rw [HT.out, d3] at HS
        clear d3
        go_wp2
        go_roundw
        case rel => exact ⟨j + 1, by omega, by go_num, by rw [HS.out, if_neg (by simp), List.append_nil]; exact ⟨_, _, _, rfl, HTB.out, HX.out⟩⟩
        case measure => simp [intOf] <;> omega
      · rw [HT.out, d3, if_pos rfl] at HS
        clear d3
        rcases hd with d1 | ⟨d1, d2⟩
        all_goals
          obtain ⟨wo, rfl⟩ : ∃ wo : World, wo = wr := ⟨_, rfl⟩
          have H2 : Hid (OwnInts wo wo (.slice none 0 0) (cutUp xs i 0)) := OwnInts.nil (Ext.refl wo)
          go_wp2
          go_loopw [9, 10] (fun y a wr => ∃ t : Nat, t ≤ k ∧ a = .int .i64 t ∧ OwnInts wo wr y (cutUp xs i t)) (fun _ a _ => k - (intOf a).toNat)
          case atStart => exact ⟨0, by omega, rfl, H2.out⟩
          case round =>
            obtain ⟨t, htk, rfl, hti⟩ := hrel
            clear H2 c2 c3
            obtain ⟨ao5, n5, cap5, rfl, hrow5, hx5⟩ := hti
            have hle5 := cutUp_le xs i t (by rw [HLEN.out]; exact htk)
            have hn5 := hrow5.1
            rw [ints_length, Nat.mul_one] at hn5
            rw [hn5] at hle5
            have HROW := Lib.hid hrow5
            have HX5 := Lib.hid hx5
            have c2 := ((HX.out.trans hx5).cell hb).trans HC1.out
            have hsz := HX.out.size
            have hsz5 := hx5.size
            clear hrow5 hx5
            by_cases htl : t < k
            · have c3 := ((HX.out.trans HX5.out).cell hb3).trans (HC3.out t (by rw [HLEN.out]; exact htl))
              have HCU := Lib.hid (cutUp_succ (xs := xs) (i := i) (j := t) (by rw [HLEN.out]; exact htl))
              obtain ⟨y, hyy⟩ : ∃ y, nth xs t = y := ⟨_, rfl⟩
              rw [hyy] at c3 HCU
              clear hyy
              by_cases hti : t = i
              · have e1 : ((t : Int) != (i : Int)) = false := by rw [hti]; simp
                rw [if_pos hti] at HCU
                clear hti
                go_wp2
                go_roundw
                case rel => exact ⟨t + 1, by omega, by go_num, by rw [HCU.out]; exact ⟨_, _, _, rfl, HROW.out, HX5.out⟩⟩
                case measure => simp [intOf] <;> omega
              · have e1 : ((t : Int) != (i : Int)) = true := by rw [bne_iff_ne]; omega
                rw [if_neg hti] at HCU
                clear hti
                go_wp2_with (at_builtin; refine wpList_appInt eInt rfl (.tmp 42) (.tmp 50) rfl wo.heap.size (by rfl) HROW.out (by rfl) (by omega) (by omega) ?_; intro ao4 cap4 w4 hr4 hg4 hb4; have HR4 := Lib.hid hr4; have HB4 := Lib.hid (hb4 _ _ HX5.out (Nat.le_refl _)); clear hr4 hg4 hb4)
                go_roundw
                case rel => exact ⟨t + 1, by omega, by go_num, by rw [HCU.out]; exact ⟨_, _, _, rfl, by rw [ints_append]; exact HR4.out, HB4.out⟩⟩
                case measure => simp [intOf] <;> omega
            · obtain rfl : k = t := by omega
              have HCA : Hid (cutUp xs i k = cut xs i) := by
                have h := cutUp_all (xs := xs) (i := i) (by rw [HLEN.out]; exact hi)
                rw [HLEN.out] at h
                exact h
              rw [HCA.out] at HROW
              go_wp2_with (at_builtin; refine wpList_appRow rfl (.tmp 52) (.tmp 54) rfl (fun b => w.heap.size ≤ b) w.heap.size (by rfl) (HTB.out.ext HX5.out) (by rfl) (HROW.out.innerX _ _ (fun b hb => by omega) (fun b hb => (HTB.out.block b hb).2) (by unfold maxLen; omega)) (by omega) (by omega) ?_; intro ao4 cap4 w4 hr4 hg4 hb4; have HR4 := Lib.hid hr4; have HB4 := Lib.hid (hb4 _ _ (HX.out.trans HX5.out) (Nat.le_refl _)); clear hr4 hg4 hb4)
              go_roundw
              case rel => exact ⟨j + 1, by omega, by go_num, by rw [HS.out]; exact ⟨_, _, _, rfl, HR4.out, HB4.out⟩⟩
              case measure => simp [intOf] <;> omega
    · obtain rfl : n = j := by omega
      go_wp2
      go_ret
      exact ⟨_, rfl, _, _, _, rfl, HTB.out, HX.out⟩

end Go.Proofs.Ytfggmgfobcgadaa
