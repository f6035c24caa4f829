/- What parterreref3.EvenOf makes of a matrix of signs: as hada.Even makes it. -/
import Derived.Test.YtkgdohoandfaeaaEvenLaw
import Derived.Test.YtkgdohoandfaeaaTabs
import Derived.BigRegion
namespace Go.Proofs.Ytkgdohoandfaeaa
open Go.RowKit

/-- Row by row, as far as place p. -/
def f1 (xs : List Int) (n p q : Nat) : Int := if q < p then nth xs q * nth xs (q / n * n) else nth xs q
/-- Column by column, as far as row i of column j. -/
def f2 (xs : List Int) (n j i q : Nat) : Int :=
  let y := nth xs q * nth xs (q / n * n)
  if q % n < j ∨ (q % n = j ∧ q / n < i) then y * (nth xs (q % n) * nth xs 0) else y

theorem row_le {n q : Nat} : q / n * n ≤ q := Nat.div_mul_le_self q n

theorem f1_sign {n : Nat} {xs : List Int} (hm : IsMat n xs) (p q : Nat) (hq : q < n * n) : f1 xs n p q = 1 ∨ f1 xs n p q = -1 := by
  unfold f1
  have h1 := nth_sign hm q hq
  have h2 := nth_sign hm (q / n * n) (by have := row_le (n := n) (q := q); omega)
  split
  · exact sign_mul h1 h2
  · exact h1
theorem f2_sign {n : Nat} {xs : List Int} (hm : IsMat n xs) (j i q : Nat) (hq : q < n * n) : f2 xs n j i q = 1 ∨ f2 xs n j i q = -1 := by
  unfold f2
  have hn := hm.one
  have h1 := nth_sign hm q hq
  have h2 := nth_sign hm (q / n * n) (by have := row_le (n := n) (q := q); omega)
  have h3 := nth_sign hm (q % n) (by have := Nat.mod_lt q hn; have := Nat.mul_le_mul_right n hn; omega)
  have h4 := nth_sign hm 0 (by have := Nat.mul_le_mul_right n hn; omega)
  dsimp only
  split
  · exact sign_mul (sign_mul h1 h2) (sign_mul h3 h4)
  · exact sign_mul h1 h2

/-- The worlds of EvenOf. -/
structure EvSt (w wr : World) (tb g n cap : Nat) (f : Nat → Int) : Prop where
  ext : Ext w wr
  res : Blk wr (w.heap.size + 1) #[.int .i64 0, .slice none 0 0] 24
  box : Blk wr tb #[.int .i64 n, .slice (some ⟨g, 0, none⟩) (n * n) cap] 24
  row : RowOf 3 wr (w.heap.size + 1 + 1) (some ⟨g, 0, none⟩) (n * n) cap (ints (tab f (n * n)))
  ne : tb ≠ g
  tbb : w.heap.size ≤ tb

theorem EvSt.congr {w wr : World} {tb g n cap : Nat} {f f' : Nat → Int} (h : EvSt w wr tb g n cap f) (e : ∀ q, q < n * n → f q = f' q) : EvSt w wr tb g n cap f' :=
  ⟨h.ext, h.res, h.box, by rw [← tab_congr f f' _ e]; exact h.row, h.ne, h.tbb⟩
theorem EvSt.drew {w wr : World} {tb g n cap : Nat} {f : Nat → Int} (h : EvSt w wr tb g n cap f) : EvSt w wr.drew tb g n cap f :=
  ⟨h.ext.drew, h.res.drew, h.box.drew, h.row.kept (fun _ _ => rfl), h.ne, h.tbb⟩
theorem EvSt.set {w wr : World} {tb g n cap : Nat} {f f' : Nat → Int} (h : EvSt w wr tb g n cap f) (p : Nat) (v : Int) (hp : p < n * n) (e : ∀ q, q < n * n → f' q = if q = p then v else f q) :
    EvSt w (wr.setCell ⟨g, p, none⟩ (.int .i64 v)) tb g n cap f' := by
  have hg := h.row.known.1
  refine ⟨h.ext.set (by simp; omega) _, h.res.beside _ (by simp; omega) _, h.box.beside _ (by simpa using Ne.symm h.ne) _, ?_, h.ne, h.tbb⟩
  rw [← tab_set f f' (n * n) p v hp e]
  exact h.row.stored p _
theorem EvSt.cell {w wr : World} {tb g n cap : Nat} {f : Nat → Int} (h : EvSt w wr tb g n cap f) (p : Nat) (hp : p < n * n) : wr.cell? ⟨g, p, none⟩ = some (.int .i64 (f p)) := by
  rw [← nth_tab f (n * n) p hp]
  exact h.row.known.2.2.1 p _ (ints_get _ p (by rw [tab_length]; exact hp))

set_option maxHeartbeats 2000000 in
theorem evenOf_any (n : Nat) (ao : Option Addr) (len cap : Nat) (xs : List Int) (w : World) (hl : xs.length = len) (hr : Reads w ao (ints xs)) (hm : IsMat n xs) :
    Calls Try.prog 12 #[.agg #[.int .i64 n, .slice ao len cap]] w fun e w' =>
      ∃ ao' cap', e = .returned (.agg #[.int .i64 n, .slice ao' (n * n) cap']) ∧ RowOf 3 w' w.heap.size ao' (n * n) cap' (ints (evenOf n xs)) ∧ Ext w w' := by
  have n1 : 1 ≤ n := hm.one
  have n24 : n ≤ 24 := hm.big
  have hq := sq_bound n24
  have HNN := Lib.hid (Nat.mul_pos n1 n1)
  obtain rfl : len = n * n := by rw [← hl]; exact hm.len
  obtain ⟨b, off, rfl, hbl, hc⟩ := Reads.int hr (by rw [hl]; exact HNN.out)
  have E2 : Hid (Ext w (((w.alloc (.cells #[.int .i64 n, .slice (some ⟨b, off, none⟩) (n * n) cap] 24)).alloc (.cells #[.int .i64 0, .slice none 0 0] 24)).alloc (.cells #[] 3))) := (((Ext.refl w).alloc _).alloc _).alloc _
  have HC : Hid (∀ j u, (ints xs)[j]? = some u → (((w.alloc (.cells #[.int .i64 n, .slice (some ⟨b, off, none⟩) (n * n) cap] 24)).alloc (.cells #[.int .i64 0, .slice none 0 0] 24)).alloc (.cells #[] 3)).cell? ⟨b, off + j, none⟩ = some u) := fun j u hu => by
    have hj : j < xs.length := by have := (List.getElem?_eq_some_iff.1 hu).1; rwa [ints_length] at this
    rw [ints_get xs j hj] at hu
    rw [← hu, E2.out.cell hbl]
    exact hc j hj
  have HL := Lib.hid hl
  have HM := Lib.hid hm
  clear hc hr hl hm
  go_enter Try.func12, Try.ntmps12
  go_wp2_with (at_builtin; refine wpList_appList eInt rfl (.tmp 14) (.tmp 16) rfl (w.heap.size + 1 + 1) (by rfl) (RowOf.lit' 3 _ #[] (by decide) (by simp)) (by rfl) (by rw [ints_length]; exact HL.out) HC.out (ints_oneCell' xs) (by simp; omega) (by simp) ?_; intro ao' cap' w1 hr1 hg1 hb1)
  have HST : Hid (∃ g, ao' = some ⟨g, 0, none⟩ ∧ EvSt w (w1.alloc (.cells #[.int .i64 n, .slice ao' (n * n) cap'] 24)) w1.heap.size g n cap' (f1 xs n 0)) := by
    have hr2 : RowOf 3 w1 (w.heap.size + 1 + 1) ao' (n * n) cap' (ints xs) := by simpa using hr1
    obtain ⟨g, rfl, hg1, hg2, _, _⟩ := hr2.opened HNN.out
    have hx1 : Below (w.heap.size + 1 + 1) ((w.alloc (.cells #[.int .i64 n, .slice (some ⟨b, off, none⟩) (n * n) cap] 24)).alloc (.cells #[.int .i64 0, .slice none 0 0] 24)) w1 :=
      hb1 _ _ ((Below.refl _ _).alloc (by simp) _) (Nat.le_refl _)
    have hx2 : Ext ((w.alloc (.cells #[.int .i64 n, .slice (some ⟨b, off, none⟩) (n * n) cap] 24)).alloc (.cells #[.int .i64 0, .slice none 0 0] 24)) w1 := hx1.mono (by simp)
    refine ⟨g, rfl, ((((Ext.refl w).alloc _).alloc _).trans hx2).alloc _, ?_, Blk.new _ _ _, ?_, by omega, ?_⟩
    · exact ((Blk.new' _ _ _ (by simp)).ext hx2).alloc _
    · have e : tab (f1 xs n 0) (n * n) = xs := by
        rw [tab_congr (f1 xs n 0) (nth xs) (n * n) (fun q _ => by simp [f1])]
        have := tab_of xs
        rwa [HL.out] at this
      rw [e]
      exact ((Ext.refl w1).alloc _).row hr2
    · have := hx1.size; simp at this; omega
  obtain ⟨g, hg⟩ := HST.out
  obtain ⟨rfl, hst⟩ := hg
  have HS0 := Lib.hid hst
  clear hst HST hr1 hg1 hb1 HC E2
  obtain ⟨tb, htb⟩ : ∃ tb, tb = w1.heap.size := ⟨_, rfl⟩
  obtain ⟨w2, hw2⟩ : ∃ w2, w2 = w1.alloc (.cells #[.int .i64 n, .slice (some ⟨g, 0, none⟩) (n * n) cap'] 24) := ⟨_, rfl⟩
  rw [← hw2, ← htb] at HS0 ⊢
  clear hw2 htb w1
  obtain ⟨N, HN⟩ : ∃ N : Nat, Hid (N = n * n) := ⟨_, rfl⟩
  rw [← HN.out] at hq
  go_loopw [5, 6, 7] (fun a _ _ wr => ∃ (i p : Nat), i ≤ n ∧ a = .int .i64 i ∧ Hid (p = i * n) ∧ EvSt w wr tb g n cap' (f1 xs n p)) (fun i _ _ _ => n - (intOf i).toNat)
  case atStart => exact ⟨0, 0, by omega, rfl, (Nat.zero_mul n).symm, HS0.out⟩
  case round =>
    obtain ⟨i, p, hi, rfl, HP, hst⟩ := hrel
    have HS1 := Lib.hid hst
    clear hst
    by_cases hin : i < n
    · have hin1 : p + n ≤ N := by
        have := Nat.mul_le_mul_right n (show i + 1 ≤ n from hin)
        rw [Nat.succ_mul] at this; have := HP.out; have := HN.out; omega
      have hip : (i : Int) * (n : Int) = p := by rw [HP.out, Int.natCast_mul]
      have k0 := HS1.out.box.two
      have k1 := HS1.out.cell p (by rw [← HN.out]; omega)
      rw [show f1 xs n p p = nth xs p by simp [f1]] at k1
      rw [← HN.out] at k0
      have sx := nth_sign HM.out p (by rw [← HN.out]; omega)
      obtain ⟨x, hx⟩ : ∃ x, nth xs p = x := ⟨_, rfl⟩
      have HX := Lib.hid hx
      rw [hx] at k1 sx
      clear hx
      have HSX := Lib.hid sx
      have x1 : -1 ≤ x := by omega
      have x2 : x ≤ 1 := by omega
      clear sx
      go_wp2
      clear k0 k1
      go_loopw [7] (fun a wr => ∃ (j : Nat), j ≤ n ∧ a = .int .i64 j ∧ EvSt w wr tb g n cap' (f1 xs n (p + j))) (fun i _ => n - (intOf i).toNat)
      case atStart => exact ⟨0, by omega, rfl, HS1.out⟩
      case round =>
        obtain ⟨j, hj, rfl, hst⟩ := hrel
        have HS2 := Lib.hid hst
        clear hst
        by_cases hjn : j < n
        · have k0 := HS2.out.box.two
          have k1 := HS2.out.cell (p + j) (by rw [← HN.out]; omega)
          have k2 := HS2.out.row.known.2.2.2 (p + j)
          rw [← HN.out] at k0
          have sy := f1_sign HM.out (p + j) (p + j) (by rw [← HN.out]; omega)
          have HV : Hid (∀ q, q < n * n → f1 xs n (p + (j + 1)) q = if q = p + j then f1 xs n (p + j) (p + j) * x else f1 xs n (p + j) q) := fun q _ => by
            have e1 : (p + j) / n * n = p := by rw [HP.out, div_at hjn]
            by_cases e : q = p + j
            · subst e
              rw [if_pos rfl]
              unfold f1
              rw [if_pos (by omega), if_neg (by omega), e1, HX.out]
            · rw [if_neg e]
              unfold f1
              by_cases hlt : q < p + j
              · rw [if_pos (by omega), if_pos hlt]
              · rw [if_neg (by omega), if_neg hlt]
          obtain ⟨y, hy⟩ : ∃ y, f1 xs n (p + j) (p + j) = y := ⟨_, rfl⟩
          rw [hy] at k1 sy HV
          have hxy : -1 ≤ y * x ∧ y * x ≤ 1 := by rcases sy with rfl | rfl <;> rcases HSX.out with rfl | rfl <;> decide
          obtain ⟨hxy1, hxy2⟩ := hxy
          clear sy hy
          go_wp2
          go_region
          all_goals
            go_wp2
            go_roundw
            case rel => exact ⟨j + 1, by omega, by go_num, HS2.out.drew.set (p + j) (y * x) (by rw [← HN.out]; omega) HV.out⟩
            case measure => simp [intOf]; omega
        · obtain rfl : j = n := by omega
          go_wp2
          go_roundw
          case rel => exact ⟨i + 1, p + j, by omega, by go_num, (by show p + j = (i + 1) * j; rw [HP.out, Nat.succ_mul]), HS2.out⟩
          case measure => simp [intOf]; omega
    · obtain rfl : n = i := by omega
      have HS1' : Hid (EvSt w wr tb g n cap' (f2 xs n 0 0)) := HS1.out.congr fun q hq => by
        rw [HP.out]
        unfold f1 f2
        rw [if_pos hq]
        dsimp only
        rw [if_neg (by simp)]
      clear HS1 HP
      go_wp2
      go_loopw [8, 9, 10] (fun a _ _ wr => ∃ (j : Nat), j ≤ n ∧ a = .int .i64 j ∧ EvSt w wr tb g n cap' (f2 xs n j 0)) (fun i _ _ _ => n - (intOf i).toNat)
      case atStart => exact ⟨0, by omega, rfl, HS1'.out⟩
      case round =>
        obtain ⟨j, hj, rfl, hst⟩ := hrel
        have HS2 := Lib.hid hst
        clear hst HS1'
        by_cases hjn : j < n
        · have hjN : j < N := by
            have := Nat.mul_le_mul_right n n1; have := HN.out; omega
          have k0 := HS2.out.box.two
          have k1 := HS2.out.cell j (by rw [← HN.out]; exact hjN)
          rw [← HN.out] at k0
          have e0 : j / n * n = 0 := by rw [Nat.div_eq_of_lt hjn, Nat.zero_mul]
          rw [show f2 xs n j 0 j = nth xs j * nth xs 0 by unfold f2; dsimp only; rw [Nat.mod_eq_of_lt hjn, e0, if_neg (by simp)]] at k1
          have sx := sign_mul (nth_sign HM.out j (by rw [← HN.out]; exact hjN)) (nth_sign HM.out 0 HNN.out)
          obtain ⟨x, hx⟩ : ∃ x, nth xs j * nth xs 0 = x := ⟨_, rfl⟩
          have HX := Lib.hid hx
          rw [hx] at k1 sx
          clear hx e0
          have HSX := Lib.hid sx
          have x1 : -1 ≤ x := by omega
          have x2 : x ≤ 1 := by omega
          clear sx
          go_wp2
          clear k0 k1
          go_loopw [10] (fun a wr => ∃ (i : Nat), i ≤ n ∧ a = .int .i64 i ∧ EvSt w wr tb g n cap' (f2 xs n j i)) (fun i _ => n - (intOf i).toNat)
          case atStart => exact ⟨0, by omega, rfl, HS2.out⟩
          case round =>
            obtain ⟨i, hi, rfl, hst⟩ := hrel
            have HS3 := Lib.hid hst
            clear hst
            by_cases hin : i < n
            · obtain ⟨p, hp⟩ : ∃ p : Nat, p = i * n := ⟨_, rfl⟩
              have HP := Lib.hid hp
              have hip : (i : Int) * (n : Int) = p := by rw [hp, Int.natCast_mul]
              have hin1 : p + n ≤ N := by
                have := Nat.mul_le_mul_right n (show i + 1 ≤ n from hin)
                rw [Nat.succ_mul] at this; have := HN.out; omega
              clear hp
              have k0 := HS3.out.box.two
              have k1 := HS3.out.cell (p + j) (by rw [← HN.out]; omega)
              have k2 := HS3.out.row.known.2.2.2 (p + j)
              rw [← HN.out] at k0
              have sy := f2_sign HM.out j i (p + j) (by rw [← HN.out]; omega)
              have HV : Hid (∀ q, q < n * n → f2 xs n j (i + 1) q = if q = p + j then f2 xs n j i (p + j) * x else f2 xs n j i q) := fun q _ => by
                have e1 : (p + j) / n = i := by rw [HP.out, div_at hjn]
                have e2 : (p + j) % n = j := by rw [HP.out, mod_at hjn]
                by_cases e : q = p + j
                · subst e
                  rw [if_pos rfl]
                  unfold f2
                  dsimp only
                  rw [e1, e2, if_pos (by omega), if_neg (by omega), HX.out]
                · rw [if_neg e]
                  unfold f2
                  dsimp only
                  have e3 : ¬ (q % n = j ∧ q / n = i) := fun ⟨h1, h2⟩ => e (by have := Nat.div_add_mod q n; rw [h1, h2, Nat.mul_comm, ← HP.out] at this; omega)
                  by_cases hlt : q % n < j ∨ (q % n = j ∧ q / n < i)
                  · rw [if_pos (by omega), if_pos hlt]
                  · rw [if_neg (by omega), if_neg hlt]
              obtain ⟨y, hy⟩ : ∃ y, f2 xs n j i (p + j) = y := ⟨_, rfl⟩
              rw [hy] at k1 sy HV
              have hxy : -1 ≤ y * x ∧ y * x ≤ 1 := by rcases sy with rfl | rfl <;> rcases HSX.out with rfl | rfl <;> decide
              obtain ⟨hxy1, hxy2⟩ := hxy
              clear sy hy
              go_wp2
              go_region
              all_goals
                go_wp2
                go_roundw
                case rel => exact ⟨i + 1, by omega, by go_num, HS3.out.drew.set (p + j) (y * x) (by rw [← HN.out]; omega) HV.out⟩
                case measure => simp [intOf]; omega
            · obtain rfl : n = i := by omega
              have HS4 : Hid (EvSt w wr tb g n cap' (f2 xs n (j + 1) 0)) := HS3.out.congr fun q hq => by
                have h0 : q / n < n := Nat.div_lt_of_lt_mul hq
                have h1 := Nat.not_lt_zero (q / n)
                unfold f2
                dsimp only
                by_cases hlt : q % n ≤ j
                · rw [if_pos (by omega), if_pos (by omega)]
                · rw [if_neg (by omega), if_neg (by omega)]
              clear HS3
              go_wp2
              go_roundw
              case rel => exact ⟨j + 1, by omega, by go_num, HS4.out⟩
              case measure => simp [intOf]; omega
        · obtain rfl : n = j := by omega
          have HEQ : Hid (∀ q, q < n * n → f2 xs n n 0 q = flat n (evenCell xs n) q) := fun q hq => by
            unfold f2 flat evenCell at2
            dsimp only
            have := Nat.mod_lt q n1
            rw [if_pos (.inl this), Nat.zero_mul, Nat.zero_add, Nat.add_zero, Nat.add_zero]
            congr 2
            have := Nat.div_add_mod q n
            rw [Nat.mul_comm, this]
          have k0 := HS2.out.box.two
          have k1 := HS2.out.res.two
          have k2 := HS2.out.res.f 0
          have k3 := HS2.out.res.f 1
          go_wp2
          have HRB := Lib.hid ((HS2.out.res.set 0 (.int .i64 n)).set 1 (.slice (some ⟨g, 0, none⟩) N cap'))
          have e0 := HRB.out.c 0 (.int .i64 n) rfl
          have e1 := HRB.out.c 1 (.slice (some ⟨g, 0, none⟩) N cap') rfl
          rw [← HN.out]
          refine bodyPost_ret (v := .agg #[.int .i64 n, .slice (some ⟨g, 0, none⟩) N cap']) (by simp [results, Try.results12, go_sem, e0, e1]) rfl ⟨_, cap', rfl, ?_, ?_⟩
          · have h := HS2.out.row
            rw [tab_congr _ _ _ HEQ.out, ← HN.out] at h
            have h2 := (h.beside ⟨w.heap.size + 1, 0, none⟩ (by simp) (.int .i64 n)).beside ⟨w.heap.size + 1, 1, none⟩ (by simp) (.slice (some ⟨g, 0, none⟩) N cap')
            unfold evenOf
            rw [← HN.out]
            exact h2.mono (by omega)
          · exact (HS2.out.ext.set (p := ⟨w.heap.size + 1, 0, none⟩) (by simp) _).set (p := ⟨w.heap.size + 1, 1, none⟩) (by simp) _

end Go.Proofs.Ytkgdohoandfaeaa
