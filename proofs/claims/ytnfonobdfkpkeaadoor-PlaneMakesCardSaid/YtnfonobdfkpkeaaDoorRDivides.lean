/- What parterreref1.divides and Fault answer. No conditions. -/
import Derived.Test.YtnfonobdfkpkeaaDoorRTimes
import Derived.Test.YtnfonobdfkpkeaaDoorFIrred
import Derived.Test.YtnfonobdfkpkeaaDoorFOpen
namespace Go.Proofs.YtnfonobdfkpkeaaDoor
open Go.RowKit

theorem rdI_closed {p n t : Nat} {c : Int} {d f : Nat → Int} (hnt : n ≤ t) : ∀ j, j ≤ n → ∀ m, rdI p n t c d f j m = if m = t then 0 else if t - n ≤ m ∧ m < t - n + j then (f m - c * d (m - (t - n))) % p else f m
  | 0, _, m => by
    show upd f t 0 m = _
    unfold upd
    by_cases e : m = t
    · rw [if_pos e, if_pos e]
    · rw [if_neg e, if_neg e, if_neg (by omega)]
  | j + 1, hj, m => by
    show upd (rdI p n t c d f j) (t - n + j) ((rdI p n t c d f j (t - n + j) - c * d j) % p) m = _
    have ih := rdI_closed (p := p) (c := c) (d := d) (f := f) hnt j (by omega)
    unfold upd
    by_cases e : m = t - n + j
    · rw [if_pos e, ih, if_neg (by omega), if_neg (by omega), if_neg (by omega), if_pos (by omega), e, show t - n + j - (t - n) = j by omega]
    · rw [if_neg e, ih]
      by_cases e2 : m = t
      · rw [if_pos e2, if_pos e2]
      · rw [if_neg e2, if_neg e2]
        by_cases h : t - n ≤ m ∧ m < t - n + j
        · rw [if_pos h, if_pos (by omega)]
        · rw [if_neg h, if_neg (by omega)]
theorem step_same {p n t : Nat} {d f : Nat → Int} (hnt : n ≤ t) (m : Nat) : rdI p n t (f t) d f n m = dvStep p n t (upd d n 1) f m := by
  rw [rdI_closed hnt n (Nat.le_refl _) m]
  unfold dvStep dvIn
  by_cases e : m = t
  · subst e
    rw [if_pos rfl, if_pos (by omega), show m - (m - n) = n by omega]
    unfold upd
    rw [if_pos rfl, Int.mul_one, show f m + ((p : Int) - f m) = p by omega, Int.emod_self]
  · rw [if_neg e]
    by_cases h : t - n ≤ m ∧ m < t - n + n
    · rw [if_pos h, if_pos (by omega)]
      unfold upd
      rw [if_neg (by omega)]
      refine Cg.emod ⟨-(d (m - (t - n))), ?_⟩
      rw [Int.sub_mul, Int.mul_neg]; omega
    · rw [if_neg h, if_neg (by omega)]
theorem all_same {p n k : Nat} {d f : Nat → Int} (hnk : n ≤ k) : ∀ c, c ≤ k + 1 - n → rdS p n (k + 1) d f c = dvS p n k (upd d n 1) f c
  | 0, _ => rfl
  | c + 1, h => by
    have ih := all_same (p := p) (d := d) (f := f) hnk c (by omega)
    show rdI p n (k + 1 - 1 - c) (rdS p n (k + 1) d f c (k + 1 - 1 - c)) d (rdS p n (k + 1) d f c) n = dvStep p n (k - c) (upd d n 1) (dvS p n k (upd d n 1) f c)
    rw [ih, Nat.add_sub_cancel]
    funext m
    exact step_same (by omega) m
theorem dvS_high {p n k : Nat} {d f : Nat → Int} {m : Nat} (hm : k < m) : ∀ c, c ≤ k + 1 - n → dvS p n k d f c m = f m
  | 0, _ => rfl
  | c + 1, h => by
    show dvStep p n (k - c) d (dvS p n k d f c) m = f m
    unfold dvStep dvIn
    rw [if_neg (by omega)]
    exact dvS_high hm c (by omega)
theorem allZ_iff {g : Nat → Int} : allZ g = true ↔ ∀ m, m < 7 → g m = 0 := by
  unfold allZ
  simp only [Bool.and_eq_true, beq_iff_eq]
  constructor
  · rintro ⟨h0, h1, h2, h3, h4, h5, h6⟩ m hm
    match m, hm with
    | 0, _ => exact h0
    | 1, _ => exact h1
    | 2, _ => exact h2
    | 3, _ => exact h3
    | 4, _ => exact h4
    | 5, _ => exact h5
    | 6, _ => exact h6
  · intro h
    exact ⟨h 0 (by omega), h 1 (by omega), h 2 (by omega), h 3 (by omega), h 4 (by omega), h 5 (by omega), h 6 (by omega)⟩
theorem low_one {low : List Int} {k : Nat} (hl : low.length = k) : low ++ [1] = tab (upd (nth low) k 1) (k + 1) := by
  have e : tab (upd (nth low) k 1) k = low := by
    rw [tab_congr (upd (nth low) k 1) (nth low) k (fun q hq => by unfold upd; rw [if_neg (by omega)]), ← hl, tab_of]
  rw [tab, e]
  unfold upd
  rw [if_pos rfl]

set_option maxHeartbeats 8000000 in
set_option maxRecDepth 100000 in
theorem refDivides_any (p n k : Nat) (d : Nat → Int) (ao bo : Option Addr) (cap cap' : Nat) (low : List Int) (w : World) (h2 : 2 ≤ p) (h61 : p ≤ 61) (hn : 1 ≤ n) (hnk : n ≤ k) (hk6 : k ≤ 6) (hd : Dig p d) (hl : low.length = k) (hld : Dig p (nth low)) (ra : Reads w ao (ints (tab d n))) (rb : Reads w bo (ints low)) :
    Calls Tryd.prog 23 #[.slice ao n cap, .slice bo k cap', .int .i64 p] w fun e w' => e = .returned (.bool (divF p n k (upd d n 1) (upd (nth low) k 1))) ∧ Ext w w' := by
  obtain ⟨b1, o1, rfl, hb1, hc1⟩ := Reads.int ra (by rw [tab_length]; omega)
  have hrb := rb
  rcases rb with rb | ⟨b2, o2, rfl, hb2, hc2⟩
  · have := congrArg List.length rb; rw [ints_length, hl] at this; simp at this; omega
  have HC1 : Hid (∀ j, j < n → w.cell? ⟨b1, o1 + j, none⟩ = some (.int .i64 (d j))) := fun j hj => by rw [hc1 j (by rw [tab_length]; exact hj), nth_tab _ _ _ hj]
  have HC2 : Hid (∀ j u, (ints low)[j]? = some u → (w.alloc (.cells #[] 3)).cell? ⟨b2, o2 + j, none⟩ = some u) := fun j u hu => by rw [((Ext.refl w).alloc _).cell hb2]; exact hc2 j u hu
  have HD := Lib.hid hd
  have HL := Lib.hid hl
  have HLO := Lib.hid (low_one hl)
  have HFD : Hid (Dig2 p (upd (nth low) k 1)) := fun m => by
    unfold upd; split
    · omega
    · exact hld m
  have HHI : Hid (∀ m, k < m → upd (nth low) k 1 m = 0) := fun m hm => by
    unfold upd; rw [if_neg (by omega)]; unfold nth; rw [List.getD_eq_getElem?_getD, List.getElem?_eq_none (by omega)]; rfl
  obtain ⟨F0, hF0⟩ : ∃ F0, upd (nth low) k 1 = F0 := ⟨_, rfl⟩
  rw [hF0] at HLO HFD HHI ⊢
  clear hrb hc1 hc2 hd hld ra hl hF0
  go_enter Tryd.func23, Tryd.ntmps23
  go_wp2_with (first
    | (at_builtin; refine wpList_appList eInt rfl (.tmp 16) (.tmp 17) rfl w.heap.size (by rfl) (RowOf.lit 3 w #[] (by decide)) (by rfl) (by rw [ints_length]; exact HL.out) HC2.out (ints_oneCell' low) (by simp; omega) (by simp) ?_; intro ao1 cap1 w1 hr1 hg1 hb1'; have HR1 : Hid (RowOf 3 w1 w.heap.size ao1 k cap1 (ints low)) := (by have h : RowOf 3 w1 w.heap.size ao1 (0 + k) cap1 (ints low) := hr1; rwa [Nat.zero_add] at h); have HX1 : Hid (Ext w w1) := hb1' _ _ ((Ext.refl w).alloc (.cells #[] 3)) (Nat.le_refl _); have hsz1 := Ext.size HX1.out; clear hr1 hg1 hb1')
    | (at_builtin; refine wpList_appInt eInt rfl (.tmp 19) (.tmp 20) rfl w.heap.size (by rfl) HR1.out (by rfl) (by omega) (by omega) ?_; intro ao2 cap2 w2 hr2 hg2 hb2'; have HR2 : Hid (RowOf 3 w2 w.heap.size ao2 (k + 1) cap2 (ints (low ++ [1]))) := (by rw [ints_append]; exact hr2); have HX2 : Hid (Ext w w2) := hb2' _ _ HX1.out (Nat.le_refl _); clear hr2 hg2 hb2'))
  have hr2 := HR2.out
  rw [HLO.out] at hr2
  obtain ⟨g, rfl, _⟩ := hr2.opened (by omega)
  have O0 : Hid (OwnF w w2 g (k + 1) cap2 F0) := ⟨HX2.out, hr2⟩
  clear hr2 HR2 HR1
  obtain ⟨N, hN⟩ : ∃ N, N = k + 1 := ⟨_, rfl⟩
  have HNE := Lib.hid hN
  have hN1 : N ≤ k + 1 := by omega
  have hN2 : k + 1 ≤ N := by omega
  have hN' : (k : Int) + 1 = N := by omega
  have HS : Hid (∀ c, c ≤ k + 1 - n → rdS p n N d F0 c = dvS p n k (upd d n 1) F0 c) := by rw [hN]; exact all_same hnk
  rw [← hN] at O0
  clear hN
  go_loopw [10] (fun x wr => ∃ c : Nat, c ≤ k + 1 - n ∧ x = .int .i64 ((k : Int) - c) ∧ OwnF w wr g N cap2 (rdS p n N d F0 c)) (fun x _ => (intOf x + 1).toNat)
  case atStart => exact ⟨0, by omega, by simp, O0.out⟩
  case round =>
    obtain ⟨c, hc, rfl, ho⟩ := hrel
    have HO := Lib.hid ho
    clear ho O0
    by_cases hck : n ≤ k - c ∧ c ≤ k
    · obtain ⟨hck1, hck2⟩ := hck
      obtain ⟨i, hi⟩ : ∃ i, k - c = i := ⟨_, rfl⟩
      have hi' : (k : Int) - c = i := by omega
      have hiN : i < N := by omega
      have hni : n ≤ i := by omega
      obtain ⟨F, hF⟩ : ∃ F, rdS p n N d F0 c = F := ⟨_, rfl⟩
      have HFD2 : Hid (Dig2 p F) := by rw [← hF]; exact rdS_dig (by omega) HFD.out c
      have HNX : Hid (rdS p n N d F0 (c + 1) = rdI p n i (F i) d F n) := by rw [← hF, ← hi, ← show N - 1 - c = k - c by omega]; rfl
      rw [hF] at HO
      have t4 := HO.out.at hiN
      have t5 := HO.out.f i
      have hvb := HFD2.out i
      have HO1 := Lib.hid (HO.out.set hiN 0)
      obtain ⟨v, hv⟩ : ∃ v, F i = v := ⟨_, rfl⟩
      rw [hv] at t4 hvb HNX
      obtain ⟨hv1, hv2⟩ := hvb
      have hia : (0 : Int) ≤ (i : Int) := by omega
      have hib : (i : Int) < N := by omega
      have bT : decide (n ≤ i) = true := decide_eq_true hni
      have HJ : Hid ((i : Int) - 1 = (k : Int) - (c + 1 : Nat)) := by show _ = _; omega
      rw [hi']
      clear hi hi' hF hv hN'
      obtain ⟨wo, rfl⟩ : ∃ wo : World, wo = wr := ⟨_, rfl⟩
      go_wp2
      obtain ⟨wp, hwp⟩ : ∃ wp, wp = wo.setCell ⟨g, i, none⟩ (.int .i64 0) := ⟨_, rfl⟩
      rw [← hwp] at HO1 ⊢
      clear hwp t4 t5
      have H2 : Hid (OwnF w wp g N cap2 (rdI p n i v d F 0)) := HO1.out
      go_loopw [12] (fun x wr => ∃ j : Nat, j ≤ n ∧ x = .int .i64 j ∧ OwnF w wr g N cap2 (rdI p n i v d F j)) (fun x _ => n - (intOf x).toNat)
      case atStart => exact ⟨0, by omega, rfl, H2.out⟩
      case round =>
        obtain ⟨j, hj, rfl, ho⟩ := hrel
        have HO2 := Lib.hid ho
        clear ho H2 HO HO1
        by_cases hjn : j < n
        · have bJ : decide (j < n) = true := decide_eq_true hjn
          obtain ⟨q, hq⟩ : ∃ q, i - n + j = q := ⟨_, rfl⟩
          have hq' : (i : Int) - n + j = q := by omega
          have t4 := HO2.out.at (j := q) (by omega)
          have t5 := HO2.out.f q
          have t6 := (HO2.out.ext.cell hb1).trans (HC1.out j hjn)
          have hyb := rdI_dig (k := n) (i := i) (c := v) (low := d) (by omega) HFD2.out j q
          have hlb := HD.out j
          have HN : Hid (OwnF w (wr.setCell ⟨g, q, none⟩ (.int .i64 ((rdI p n i v d F j q - v * d j) % p))) g N cap2 (rdI p n i v d F (j + 1))) := by
            have := HO2.out.set (j := q) (by omega) ((rdI p n i v d F j q - v * d j) % p)
            rw [← hq] at this ⊢
            exact this
          obtain ⟨y, hy⟩ : ∃ y, rdI p n i v d F j q = y := ⟨_, rfl⟩
          obtain ⟨l, hl⟩ : ∃ l, d j = l := ⟨_, rfl⟩
          rw [hy] at t4 HN hyb
          rw [hl] at t6 HN hlb
          obtain ⟨hy1, hy2⟩ := hyb
          obtain ⟨hl1, hl2⟩ := hlb
          have hm1 : 0 ≤ v * l := Int.mul_nonneg (by omega) (by omega)
          have hm2 : v * l ≤ 61 * 61 := Int.mul_le_mul (by omega) (by omega) (by omega) (by omega)
          obtain ⟨z, hz⟩ : ∃ z, v * l = z := ⟨_, rfl⟩
          rw [hz] at hm1 hm2 HN
          obtain ⟨ht1, ht2, ht3⟩ := tmod_mod (y - z) p (by omega)
          obtain ⟨t, ht⟩ : ∃ t, (y - z).tmod p = t := ⟨_, rfl⟩
          rw [ht] at ht1 ht2 ht3
          have ht4 : (t + (p : Int)) % p = t % p := by simp
          rw [← ht3, ht4] at HN
          have hqa : (0 : Int) ≤ (q : Int) := by omega
          have hqb : (q : Int) < N := by omega
          have hja : (0 : Int) ≤ (j : Int) := by omega
          have hjb : (j : Int) < n := by omega
          clear hy hl hq ht3 ht4
          obtain ⟨wq, rfl⟩ : ∃ wq : World, wq = wr := ⟨_, rfl⟩
          go_wp2
          go_region
          all_goals
            go_wp2
            exact ⟨⟨j + 1, by omega, by go_num, HN.out.drew⟩, by simp [intOf]; omega⟩
        · have bJ : decide (j < n) = false := decide_eq_false hjn
          obtain rfl : n = j := by omega
          go_wp2
          exact ⟨⟨c + 1, by omega, by rw [HJ.out], by rw [HNX.out]; exact HO2.out⟩, by simp [intOf] <;> omega⟩
    · obtain rfl : c = k + 1 - n := by omega
      have hm : (k : Int) - (k + 1 - n : Nat) = (n : Int) - 1 := by omega
      rw [hm]
      have bT : decide ((n : Int) ≤ (n : Int) - 1) = false := decide_eq_false (by omega)
      rw [HS.out _ (Nat.le_refl _)] at HO
      have HV : Hid (divF p n k (upd d n 1) F0 = allZ (dvS p n k (upd d n 1) F0 (k + 1 - n))) := rfl
      have HH2 : Hid (∀ m, k < m → dvS p n k (upd d n 1) F0 (k + 1 - n) m = 0) := fun m hm => by rw [dvS_high hm _ (Nat.le_refl _)]; exact HHI.out m hm
      obtain ⟨G, hG⟩ : ∃ G, dvS p n k (upd d n 1) F0 (k + 1 - n) = G := ⟨_, rfl⟩
      rw [hG] at HO HV HH2
      clear hG hm
      obtain ⟨wo, rfl⟩ : ∃ wo : World, wo = wr := ⟨_, rfl⟩
      go_wp2
      go_loop [13] (fun x => ∃ j : Nat, j ≤ N ∧ x = .int .i64 j ∧ ∀ m, m < j → G m = 0) (fun x => N - (intOf x).toNat)
      case atStart => exact ⟨0, by omega, rfl, fun m h => by omega⟩
      case round =>
        obtain ⟨j, hj, rfl, hall⟩ := hrel
        have HA := Lib.hid hall
        clear hall
        by_cases hjN : j < N
        · have t1 := HO.out.at hjN
          obtain ⟨x, hx⟩ : ∃ x, G j = x := ⟨_, rfl⟩
          have HX := Lib.hid hx
          rw [hx] at t1
          clear hx
          by_cases hx0 : x = 0
          · have b1 : (x != 0) = false := by rw [hx0]; rfl
            have HX0 := Lib.hid hx0
            clear hx0
            go_wp2
            go_round
            case rel => exact ⟨j + 1, by omega, by go_num, fun m hm => by
              rcases Nat.lt_succ_iff_lt_or_eq.1 hm with h | rfl
              · exact HA.out m h
              · rw [HX.out]; exact HX0.out⟩
            case measure => simp [intOf]; omega
          · have b1 : (x != 0) = true := by rw [bne_iff_ne]; exact hx0
            have HZ : Hid (divF p n k (upd d n 1) F0 = false) := by
              show _ = _
              rw [HV.out]
              cases hc : allZ G with
              | false => rfl
              | true => exact absurd (HX.out ▸ allZ_iff.1 hc j (by omega)) hx0
            clear hx0
            go_wp2
            go_ret
            exact ⟨by rw [HZ.out]; rfl, HO.out.ext⟩
        · have HZ : Hid (divF p n k (upd d n 1) F0 = true) := by
            show _ = _
            rw [HV.out, allZ_iff]
            intro m _
            by_cases hmk : m < N
            · exact HA.out m (by omega)
            · exact HH2.out m (by omega)
          go_wp2
          go_ret
          exact ⟨by rw [HZ.out]; rfl, HO.out.ext⟩

end Go.Proofs.YtnfonobdfkpkeaaDoor
