/- What array.dropped, array.Drop and array.Take answer at any runs. -/
import Derived.Test.YtfggmgfobcgadaaRunsFault
import Derived.Test.YtfggmgfobcgadaaWithout
import Derived.Test.YtfggmgfobcgadaaTbl
namespace Go.Proofs.Ytfggmgfobcgadaa
open Go.RowKit

/-- What is wrong with runs and a column. -/
def PartIs (s : Int) (xss : List (List Int)) (col c : Int) : Prop :=
  (RunsAre s xss c ∧ c ≠ 0) ∨ (IsRuns s xss ∧ (((col < 0 ∨ (row xss 0).length ≤ col) ∧ c = 1) ∨ (0 ≤ col ∧ col < (row xss 0).length ∧ (row xss 0).length = 1 ∧ c = 2) ∨ (0 ≤ col ∧ col < (row xss 0).length ∧ (row xss 0).length ≠ 1 ∧ c = 0)))
theorem IsRuns.zero {s : Int} {xss : List (List Int)} (h : IsRuns s xss) {c : Int} (hc : RunsAre s xss c) : c = 0 := by
  have h1 := h.s2
  have h2 := h.s64
  have h3 := h.n1
  have h4 := h.n128
  rcases hc with h | h | h | ⟨_, _, _, _, h5⟩
  · omega
  · omega
  · omega
  · rcases h5 with ⟨j, j1, j2, j3, j4⟩ | ⟨_, h5⟩
    · exfalso
      have hk1 := h.k1
      have hk8 := h.k8
      apply j4
      rw [← j3]
      unfold rowFault
      rw [h.len j j1, if_neg (by omega), if_neg]
      simp only [List.any_eq_true, not_exists, not_and, Bool.not_eq_true]
      intro x hx
      have := h.lev j j1 x hx
      unfold badAt
      rw [decide_eq_false (by omega), decide_eq_false (by omega)]
      rfl
    · exact h5
theorem PartIs.one {s : Int} {xss : List (List Int)} {col c d : Int} (h : PartIs s xss col c) (h' : PartIs s xss col d) : c = d := by
  rcases h with ⟨h1, h2⟩ | ⟨h1, h2⟩ <;> rcases h' with ⟨k1, k2⟩ | ⟨k1, k2⟩
  · exact h1.one k1
  · exact absurd (k1.zero h1) h2
  · exact absurd (h1.zero k1) k2
  · omega

/-- A first row. -/
theorem IsRuns.first {s : Int} {xss : List (List Int)} (h : IsRuns s xss) {w : World} {ao : Option Addr} (hr : ReadsL w ao xss) :
    ∃ b off a c, ao = some ⟨b, off, none⟩ ∧ b < w.heap.size ∧ w.cell? ⟨b, off, none⟩ = some (.slice a (row xss 0).length c) := by
  obtain ⟨b, off, h1, h2, h3⟩ := hr.row (by have := h.n1; omega)
  obtain ⟨a, c, h4, _, _⟩ := h3 0 (by have := h.n1; omega)
  exact ⟨b, off, a, c, h1, h2, h4⟩

set_option maxHeartbeats 1000000 in
theorem dropped_any (s : Int) (ao : Option Addr) (n cap : Nat) (xss : List (List Int)) (col : Int) (w : World) (hl : xss.length = n) (hbig : n ≤ maxLen) (hr : ReadsL w ao xss) :
    Calls Try.prog 26 #[.int .i64 s, .slice ao n cap, .int .i64 col] w fun e w' => ∃ c, e = .returned (.int .i64 c) ∧ PartIs s xss col c ∧ Ext w w' := by
  have HC := Lib.hid (runsCheck_any s ao n cap xss w hl hbig hr)
  by_cases hz : RunsAre s xss 0
  · have hR := hz.zero
    obtain ⟨b, off, a, q, rfl, hb, hc⟩ := hR.first hr
    have hk1 := hR.k1
    have hk8 := hR.k8
    have h128 := hR.n128
    have h1n := hR.n1
    rw [hl] at h128 h1n
    have HR := Lib.hid hR
    have HZ := Lib.hid hz
    obtain ⟨k, hk⟩ : ∃ k, (row xss 0).length = k := ⟨_, rfl⟩
    have HP : Hid (∀ c, (((col < 0 ∨ (k : Int) ≤ col) ∧ c = 1) ∨ (0 ≤ col ∧ col < k ∧ k = 1 ∧ c = 2) ∨ (0 ≤ col ∧ col < k ∧ k ≠ 1 ∧ c = 0)) → PartIs s xss col c) := fun c h => .inr ⟨hR, by rw [hk]; exact h⟩
    rw [hk] at hk1 hk8 hc
    have hcs : (decide (col < 0) = true ∧ ((col < 0 ∨ (k : Int) ≤ col))) ∨ (decide (col < 0) = false ∧ decide ((k : Int) ≤ col) = true ∧ ((col < 0 ∨ (k : Int) ≤ col))) ∨
        (decide (col < 0) = false ∧ decide ((k : Int) ≤ col) = false ∧ ((k : Int) == 1) = true ∧ 0 ≤ col ∧ col < k ∧ k = 1) ∨ (decide (col < 0) = false ∧ decide ((k : Int) ≤ col) = false ∧ ((k : Int) == 1) = false ∧ 0 ≤ col ∧ col < k ∧ k ≠ 1) := by
      by_cases h1 : col < 0
      · exact .inl ⟨decide_eq_true h1, .inl h1⟩
      · by_cases h2 : (k : Int) ≤ col
        · exact .inr (.inl ⟨decide_eq_false h1, decide_eq_true h2, .inr h2⟩)
        · by_cases h3 : k = 1
          · exact .inr (.inr (.inl ⟨decide_eq_false h1, decide_eq_false h2, by rw [h3]; rfl, by omega, by omega, h3⟩))
          · exact .inr (.inr (.inr ⟨decide_eq_false h1, decide_eq_false h2, by rw [beq_eq_false_iff_ne]; omega, by omega, by omega, h3⟩))
    clear hR hz hl hr hk
    rcases hcs with ⟨b1, hv⟩ | ⟨b1, b2, hv⟩ | ⟨b1, b2, b3, hv⟩ | ⟨b1, b2, b3, hv⟩
    all_goals
      have HV := Lib.hid hv
      clear hv
      go_enter Try.func26, Try.ntmps26
      go_wp2_with (go_at_call 17; refine HC.out.mono ?_; rintro e w1 ⟨c, rfl, hca, hx⟩; obtain rfl := hca.one HZ.out; have HX := Lib.hid hx; have c1 := (hx.cell hb).trans hc; clear hx hca)
      go_ret
      first
        | exact ⟨_, rfl, HP.out _ (.inl ⟨HV.out, rfl⟩), HX.out⟩
        | exact ⟨_, rfl, HP.out _ (.inr (.inl ⟨HV.out.1, HV.out.2.1, HV.out.2.2, rfl⟩)), HX.out⟩
        | exact ⟨_, rfl, HP.out _ (.inr (.inr ⟨HV.out.1, HV.out.2.1, HV.out.2.2, rfl⟩)), HX.out⟩
  · have HZ := Lib.hid hz
    clear hz hl hr
    go_enter Try.func26, Try.ntmps26
    go_wp2_with fail
    refine HC.out.mono ?_
    rintro e w1 ⟨c, rfl, hca, hx⟩
    have hc0 : c ≠ 0 := fun h => HZ.out (h ▸ hca)
    have b1 : (c != 0) = true := by rw [bne_iff_ne]; exact hc0
    have HP : Hid (PartIs s xss col c) := .inl ⟨hca, hc0⟩
    clear hca hc0
    go_wp2
    go_ret
    exact ⟨_, rfl, HP.out, hx⟩

/-- The runs that are taken, up to one, without a column. -/
def outs (p : List Int → Bool) (i : Nat) (xss : List (List Int)) (j : Nat) : List (List Int) := ((xss.take j).filter p).map fun r => cut r i
theorem outs_zero (p : List Int → Bool) (i : Nat) (xss : List (List Int)) : outs p i xss 0 = [] := rfl
theorem outs_succ (p : List Int → Bool) (i : Nat) (xss : List (List Int)) {j : Nat} (hj : j < xss.length) : outs p i xss (j + 1) = outs p i xss j ++ if p (row xss j) = true then [cut (row xss j) i] else [] := by
  unfold outs
  rw [List.take_add_one, List.getElem?_eq_getElem hj, row_eq _ _ hj, List.filter_append, List.map_append]
  simp only [Option.toList_some]
  by_cases h : p xss[j] = true
  · rw [if_pos h, List.filter_cons_of_pos h]; rfl
  · rw [if_neg h, List.filter_cons_of_neg h]; rfl
theorem outs_le (p : List Int → Bool) (i : Nat) (xss : List (List Int)) (j : Nat) : (outs p i xss j).length ≤ j := by
  unfold outs
  rw [List.length_map]
  exact Nat.le_trans (List.length_filter_le _ _) (by simp; omega)

set_option maxHeartbeats 2000000 in
theorem drop_ok (s : Int) (i : Nat) (ao : Option Addr) (n cap : Nat) (xss : List (List Int)) (w : World) (hl : xss.length = n) (hbig : n ≤ maxLen) (hr : ReadsL w ao xss) (hp : PartIs s xss i 0) (hR : IsRuns s xss) (hi : i < (row xss 0).length) :
    Calls Try.prog 12 #[.int .i64 s, .slice ao n cap, .int .i64 i] w fun e w' => ∃ v, e = .returned (.tuple #[v, .int .i64 0]) ∧ OwnTbl w w' v (outs (fun _ => true) i xss n) := by
  have HC := Lib.hid (dropped_any s ao n cap xss i w hl hbig hr)
  obtain ⟨b, off, rfl, hb, hc⟩ := hr.row (by have := hR.n1; omega)
  have HCC := Lib.hid hc
  have HP := Lib.hid hp
  have HL := Lib.hid hl
  have HR := Lib.hid hR
  have hk8 := hR.k8
  have h128 := hR.n128
  rw [hl] at h128
  obtain ⟨k, hk⟩ : ∃ k, (row xss 0).length = k := ⟨_, rfl⟩
  have HK := Lib.hid hk
  rw [hk] at hk8 hi
  clear hl hr hc hp hR hk
  go_enter Try.func12, Try.ntmps12
  go_wp2_with (go_at_call 26; refine HC.out.mono ?_; rintro e w1 ⟨c, rfl, hca, hx⟩; obtain rfl := hca.one HP.out; have HX := Lib.hid hx; clear hx hca)
  have H0 : Hid (OwnTbl w w1 (.slice none 0 0) (outs (fun _ => true) i xss 0)) := OwnTbl.nil HX.out
  clear HX
  go_loopw [9, 21] (fun y a wr => ∃ j : Nat, j ≤ n ∧ a = .int .i64 j ∧ OwnTbl w wr y (outs (fun _ => true) i xss j)) (fun _ a _ => n - (intOf a).toNat)
  case atStart => exact ⟨0, by omega, rfl, H0.out⟩
  case round =>
    obtain ⟨j, hj, rfl, ht⟩ := hrel
    clear H0
    obtain ⟨ao2, n2, cap2, rfl, htb, hx⟩ := ht
    have hle := outs_le (fun _ => true) i xss j
    rw [htb.length] at hle
    have HTB := Lib.hid htb
    have HX := Lib.hid hx
    clear htb hx
    by_cases hjn : j < n
    · obtain ⟨a, q, c1, r1, _⟩ := HCC.out j (by rw [HL.out]; exact hjn)
      have hlen := HR.out.len j (by rw [HL.out]; exact hjn)
      rw [HK.out] at hlen
      rw [hlen] at c1
      have c2 := (HX.out.cell hb).trans c1
      have HW := Lib.hid (without_at k i a q (row xss j) wr hlen hi hk8 (HX.out.reads r1))
      have HS := Lib.hid (outs_succ (fun _ => true) i xss (j := j) (by rw [HL.out]; exact hjn))
      clear c1 r1 hlen
      go_wp2_with (first
        | (go_at_call 27; refine HW.out.mono ?_; rintro e w2 ⟨ao3, cap3, rfl, hrow, hx2⟩; have HROW := Lib.hid hrow; have HX2 := Lib.hid hx2; have hsz := HX.out.size; have hsz2 := hx2.size; clear hrow hx2)
        | (at_builtin; (refine wpList_appRow (w := w2) rfl (.tmp 25) (.tmp 29) rfl (fun b => w.heap.size ≤ b) w.heap.size (by rfl) (HTB.out.ext HX2.out) (by rfl) (HROW.out.innerX _ _ (fun b hb => by omega) (fun b hb => (HTB.out.block b hb).2) (by unfold maxLen; omega)) (by omega) (by omega) ?_; intro ao4 cap4 w4 hr4 hg4 hb4; have HR4 := Lib.hid hr4; have HB4 := Lib.hid (hb4 _ _ (HX.out.trans HX2.out) (Nat.le_refl _)); clear hr4 hg4 hb4)))
      go_roundw
      case rel => exact ⟨j + 1, by omega, by go_num, by rw [HS.out, if_pos trivial]; exact ⟨_, _, _, rfl, HR4.out, HB4.out⟩⟩
      case measure => simp [intOf] <;> omega
    · obtain rfl : n = j := by omega
      go_wp2
      exact bodyPost_ret (v := .tuple #[.slice ao2 n2 cap2, .int .i64 0]) (by simp [results, Try.results12, go_sem]) rfl ⟨_, rfl, _, _, _, rfl, HTB.out, HX.out⟩


set_option maxHeartbeats 2000000 in
theorem take_ok (s : Int) (i : Nat) (lv : Int) (ao : Option Addr) (n cap : Nat) (xss : List (List Int)) (w : World) (hl : xss.length = n) (hbig : n ≤ maxLen) (hr : ReadsL w ao xss) (hp : PartIs s xss i 0) (hR : IsRuns s xss) (hi : i < (row xss 0).length) (lv0 : 0 ≤ lv) (lv1 : lv < s) :
    Calls Try.prog 13 #[.int .i64 s, .slice ao n cap, .int .i64 i, .int .i64 lv] w fun e w' =>
      ((outs (fun r => nth r i == lv) i xss n).length = 0 → e = .returned (.tuple #[.slice none 0 0, .int .i64 4]) ∧ Ext w w') ∧ ((outs (fun r => nth r i == lv) i xss n).length ≠ 0 → ∃ v, e = .returned (.tuple #[v, .int .i64 0]) ∧ OwnTbl w w' v (outs (fun r => nth r i == lv) i xss n)) := by
  have HC := Lib.hid (dropped_any s ao n cap xss i w hl hbig hr)
  obtain ⟨b, off, rfl, hb, hc⟩ := hr.row (by have := hR.n1; omega)
  have HCC := Lib.hid hc
  have HP := Lib.hid hp
  have HL := Lib.hid hl
  have HR := Lib.hid hR
  have hk8 := hR.k8
  have h128 := hR.n128
  rw [hl] at h128
  obtain ⟨k, hk⟩ : ∃ k, (row xss 0).length = k := ⟨_, rfl⟩
  have HK := Lib.hid hk
  rw [hk] at hk8 hi
  clear hl hr hc hp hR hk
  have d1 : decide (lv < 0) = false := decide_eq_false (by omega)
  have d2 : decide (s ≤ lv) = false := decide_eq_false (by omega)
  go_enter Try.func13, Try.ntmps13
  go_wp2_with (go_at_call 26; refine HC.out.mono ?_; rintro e w1 ⟨c, rfl, hca, hx⟩; obtain rfl := hca.one HP.out; have HX := Lib.hid hx; clear hx hca)
  have H0 : Hid (OwnTbl w w1 (.slice none 0 0) (outs (fun r => nth r i == lv) i xss 0)) := OwnTbl.nil HX.out
  clear HX
  go_loopw [11, 30] (fun y a wr => ∃ j : Nat, j ≤ n ∧ a = .int .i64 j ∧ OwnTbl w wr y (outs (fun r => nth r i == lv) i xss j)) (fun _ a _ => n - (intOf a).toNat)
  case atStart => exact ⟨0, by omega, rfl, H0.out⟩
  case round =>
    obtain ⟨j, hj, rfl, ht⟩ := hrel
    clear H0
    obtain ⟨ao2, n2, cap2, rfl, htb, hx⟩ := ht
    have hle := outs_le (fun r => nth r i == lv) i xss j
    rw [htb.length] at hle
    have HTB := Lib.hid htb
    have HX := Lib.hid hx
    clear htb hx
    by_cases hjn : j < n
    · obtain ⟨a, q, c1, r1, _⟩ := HCC.out j (by rw [HL.out]; exact hjn)
      have hlen := HR.out.len j (by rw [HL.out]; exact hjn)
      rw [HK.out] at hlen
      rw [hlen] at c1
      have c2 := (HX.out.cell hb).trans c1
      obtain ⟨b3, o3, rfl, hb3, hc3⟩ := Reads.int r1 (by rw [hlen]; omega)
      have c3 := (HX.out.cell hb3).trans (hc3 i (by rw [hlen]; exact hi))
      have HW := Lib.hid (without_at k i _ q (row xss j) wr hlen hi hk8 (HX.out.reads r1))
      have HS : Hid (outs (fun r => nth r i == lv) i xss (j + 1) = outs (fun r => nth r i == lv) i xss j ++ if (nth (row xss j) i == lv) = true then [cut (row xss j) i] else []) := outs_succ (fun r => nth r i == lv) i xss (j := j) (by rw [HL.out]; exact hjn)
      obtain ⟨x, hx⟩ : ∃ x, nth (row xss j) i = x := ⟨_, rfl⟩
      rw [hx] at c3 HS
      clear c1 r1 hlen hx hc3
      cases hxl : x == lv with
      | true =>
        rw [hxl] at HS
        go_wp2_with (first
          | (go_at_call 27; refine HW.out.mono ?_; rintro e w2 ⟨ao3, cap3, rfl, hrow, hx2⟩; have HROW := Lib.hid hrow; have HX2 := Lib.hid hx2; have hsz := HX.out.size; have hsz2 := hx2.size; clear hrow hx2)
          | (at_builtin; (refine wpList_appRow (w := w2) rfl (.tmp 40) (.tmp 44) rfl (fun b => w.heap.size ≤ b) w.heap.size (by rfl) (HTB.out.ext HX2.out) (by rfl) (HROW.out.innerX _ _ (fun b hb => by omega) (fun b hb => (HTB.out.block b hb).2) (by unfold maxLen; omega)) (by omega) (by omega) ?_; intro ao4 cap4 w4 hr4 hg4 hb4; have HR4 := Lib.hid hr4; have HB4 := Lib.hid (hb4 _ _ (HX.out.trans HX2.out) (Nat.le_refl _)); clear hr4 hg4 hb4)))
        go_roundw
        case rel => exact ⟨j + 1, by omega, by go_num, by rw [HS.out, if_pos trivial]; exact ⟨_, _, _, rfl, HR4.out, HB4.out⟩⟩
        case measure => simp [intOf] <;> omega
      | false =>
        rw [hxl] at HS
        go_wp2
        go_roundw
        case rel => exact ⟨j + 1, by omega, by go_num, by rw [HS.out, if_neg (by simp), List.append_nil]; exact ⟨_, _, _, rfl, HTB.out, HX.out⟩⟩
        case measure => simp [intOf] <;> omega
    · obtain rfl : n = j := by omega
      have HLN := Lib.hid HTB.out.length
      by_cases h0 : n2 = 0
      · have b0 : ((n2 : Int) == 0) = true := by rw [h0]; rfl
        have H00 := Lib.hid h0
        clear h0
        go_wp2
        exact bodyPost_ret (v := .tuple #[.slice none 0 0, .int .i64 4]) (by simp [results, Try.results13, go_sem]) rfl ⟨fun _ => ⟨rfl, HX.out⟩, fun h => absurd (by rw [HLN.out]; exact H00.out) h⟩
      · have b0 : ((n2 : Int) == 0) = false := by rw [beq_eq_false_iff_ne]; omega
        have H00 := Lib.hid h0
        clear h0
        go_wp2
        exact bodyPost_ret (v := .tuple #[.slice ao2 n2 cap2, .int .i64 0]) (by simp [results, Try.results13, go_sem]) rfl ⟨fun h => absurd (by rw [← HLN.out]; exact h) H00.out, fun _ => ⟨_, rfl, _, _, _, rfl, HTB.out, HX.out⟩⟩

end Go.Proofs.Ytfggmgfobcgadaa
