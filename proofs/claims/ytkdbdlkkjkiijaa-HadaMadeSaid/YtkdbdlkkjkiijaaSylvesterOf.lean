/- What parterreref3.SylvesterOf answers. -/
import Derived.Test.YtkdbdlkkjkiijaaSylvester
import Derived.Test.YtkdbdlkkjkiijaaTabs
import Derived.Outline
namespace Go.Proofs.Ytkdbdlkkjkiijaa
open Go.RowKit

/-- The matrix of twice the side, as far as a row and a column of the first quarter. -/
def sy4 (N a b q : Nat) : Int := if q / (2 * N) % N < a ∨ (q / (2 * N) % N = a ∧ q % (2 * N) % N < b) then sylCell (q / (2 * N)) (q % (2 * N)) else 0

theorem sy4_step : ∀ N, N = 1 ∨ N = 2 ∨ N = 4 ∨ N = 8 → ∀ a, a < N → ∀ b, b < N → ∀ q, q < 4 * N * N →
    sy4 N a (b + 1) q = upd (upd (upd (upd (sy4 N a b) (a * 2 * N + b) (sylCell a b)) (a * 2 * N + N + b) (sylCell a b)) ((N + a) * 2 * N + b) (sylCell a b)) ((N + a) * 2 * N + N + b) (-sylCell a b) q := by
  rintro N (rfl | rfl | rfl | rfl) <;> decide +kernel
theorem sy4_row {N a q : Nat} (hN : 0 < N) : sy4 N a N q = sy4 N (a + 1) 0 q := by
  unfold sy4
  have := Nat.mod_lt (q % (2 * N)) hN
  have h0 := Nat.not_lt_zero (q % (2 * N) % N)
  by_cases h : q / (2 * N) % N < a + 1
  · rw [if_pos (by omega), if_pos (by omega)]
  · rw [if_neg (by omega), if_neg (by omega)]
theorem sy4_all {N q : Nat} (hN : 0 < N) : sy4 N N 0 q = flat (2 * N) sylCell q := by
  unfold sy4 flat
  rw [if_pos (.inl (Nat.mod_lt _ hN))]
theorem sy4_none {N q : Nat} : sy4 N 0 0 q = 0 := by
  unfold sy4
  rw [if_neg (by simp)]
theorem sylCell_sign (i j : Nat) : sylCell i j = 1 ∨ sylCell i j = -1 := by
  unfold sylCell sgB; split <;> simp

set_option maxHeartbeats 400000 in
theorem sylvesterOf_bad (k : Int) (w : World) (hk : k < 0 ∨ 4 < k) :
    Calls Try.prog 20 #[.int .i64 k] w fun e w' => e = .returned (.tuple #[.agg #[.int .i64 0, .slice none 0 0], .int .i64 1]) ∧ Ext w w' := by
  rcases hk with hk | hk
  · have b1 : decide (k < 0) = true := decide_eq_true hk
    go_enter Try.func20, Try.ntmps20
    go_wp2
    exact bodyPost_ret (v := .tuple #[.agg #[.int .i64 0, .slice none 0 0], .int .i64 1]) (by simp [results, Try.results20, go_sem]) rfl ⟨rfl, (Ext.refl _).alloc _⟩
  · have b1 : decide (k < 0) = false := decide_eq_false (by omega)
    have b2 : decide (4 < k) = true := decide_eq_true hk
    go_enter Try.func20, Try.ntmps20
    go_wp2
    exact bodyPost_ret (v := .tuple #[.agg #[.int .i64 0, .slice none 0 0], .int .i64 1]) (by simp [results, Try.results20, go_sem]) rfl ⟨rfl, (Ext.refl _).alloc _⟩

/-- The matrix that has been made. -/
def SyDone (wr : World) (sb r N : Nat) : Prop := ∃ ao cap, Blk wr sb #[.int .i64 N, .slice ao (N * N) cap] 24 ∧ RowOf 3 wr (r + 1) ao (N * N) cap (ints (tab (flat N sylCell) (N * N))) ∧ Blk wr r #[.int .i64 0, .slice none 0 0] 24

/-- The matrix that is being made. -/
structure SyIn (wo wr : World) (g tb N M : Nat) (f : Nat → Int) : Prop where
  ext : Ext wo wr
  box : Blk wr tb #[.int .i64 (2 * (N : Int)), .slice (some ⟨g, 0, none⟩) M M] 24
  row : RowOf 3 wr g (some ⟨g, 0, none⟩) M M (ints (tab f M))
  ge : wo.heap.size ≤ g
  ne : tb = g + 1
theorem SyIn.set {wo wr : World} {g tb N M : Nat} {f : Nat → Int} (h : SyIn wo wr g tb N M f) (p : Nat) (v : Int) (hp : p < M) : SyIn wo (wr.setCell ⟨g, p, none⟩ (.int .i64 v)) g tb N M (upd f p v) :=
  ⟨h.ext.set h.ge _, h.box.beside _ (by have := h.ne; simp; omega) _, by rw [← tab_upd f M p v hp]; exact h.row.stored p _, h.ge, h.ne⟩
theorem SyIn.congr {wo wr : World} {g tb N M : Nat} {f f' : Nat → Int} (h : SyIn wo wr g tb N M f) (e : ∀ q, q < M → f q = f' q) : SyIn wo wr g tb N M f' :=
  ⟨h.ext, h.box, by rw [← tab_congr f f' M e]; exact h.row, h.ge, h.ne⟩
theorem SyIn.at {wo wr : World} {g tb N M : Nat} {f : Nat → Int} (h : SyIn wo wr g tb N M f) (p : Nat) (hp : p < M) : wr.cell? ⟨g, p, none⟩ = some (.int .i64 (f p)) ∧ wr.frozen? ⟨g, p, none⟩ = false := by
  have hk := h.row.known
  have := hk.2.2.1 p _ (ints_get (tab f M) p (by rw [tab_length]; exact hp))
  rw [nth_tab f M p hp] at this
  exact ⟨this, hk.2.2.2 p⟩

theorem pow_four {i k : Nat} (h : i < k) (hk : k ≤ 4) : 2 ^ i = 1 ∨ 2 ^ i = 2 ∨ 2 ^ i = 4 ∨ 2 ^ i = 8 := by
  match i, (show i < 4 by omega) with
  | 0, _ => exact .inl rfl
  | 1, _ => exact .inr (.inl rfl)
  | 2, _ => exact .inr (.inr (.inl rfl))
  | 3, _ => exact .inr (.inr (.inr rfl))

set_option maxRecDepth 100000 in
set_option maxHeartbeats 2000000 in
theorem sylvesterOf_ok (k : Nat) (w : World) (hk : k ≤ 4) :
    Calls Try.prog 20 #[.int .i64 k] w fun e w' =>
      ∃ ao cap, e = .returned (.tuple #[.agg #[.int .i64 (2 ^ k : Nat), .slice ao (2 ^ k * 2 ^ k) cap], .int .i64 0]) ∧ RowOf 3 w' w.heap.size ao (2 ^ k * 2 ^ k) cap (ints (tab (flat (2 ^ k) sylCell) (2 ^ k * 2 ^ k))) ∧ Ext w w' := by
  have b1 : decide ((k : Int) < 0) = false := decide_eq_false (by omega)
  have b2 : decide (4 < (k : Int)) = false := decide_eq_false (by omega)
  go_enter Try.func20, Try.ntmps20
  go_wp2
  have HST : Hid (SyDone (((w.alloc (.cells #[.int .i64 0, .slice none 0 0] 24)).alloc (.cells #[.int .i64 1] 3)).alloc (.cells #[.int .i64 1, .slice (some ⟨w.heap.size + 1, 0, none⟩) 1 1] 24)) (w.heap.size + 1 + 1) w.heap.size 1) := by
    refine ⟨some ⟨w.heap.size + 1, 0, none⟩, 1, Blk.new' _ _ _ (by simp), ((Ext.refl _).alloc _).row ?_, ((Blk.new _ _ _).alloc _).alloc _⟩
    have h := (RowOf.lit' 3 (w.alloc (.cells #[.int .i64 0, .slice none 0 0] 24)) #[.int .i64 1] (by decide) (b := w.heap.size + 1) (by simp))
    exact h
  have E0 : Hid (Ext w (((w.alloc (.cells #[.int .i64 0, .slice none 0 0] 24)).alloc (.cells #[.int .i64 1] 3)).alloc (.cells #[.int .i64 1, .slice (some ⟨w.heap.size + 1, 0, none⟩) 1 1] 24))) := (((Ext.refl w).alloc _).alloc _).alloc _
  obtain ⟨wA, hwA⟩ : ∃ wA, wA = (((w.alloc (.cells #[.int .i64 0, .slice none 0 0] 24)).alloc (.cells #[.int .i64 1] 3)).alloc (.cells #[.int .i64 1, .slice (some ⟨w.heap.size + 1, 0, none⟩) 1 1] 24)) := ⟨_, rfl⟩
  rw [← hwA] at HST E0 ⊢
  clear hwA
  go_loopw [5, 6, 7, 8, 9, 10] (fun a _ _ _ _ _ wr => ∃ (i N : Nat), i ≤ k ∧ a = .int .i64 i ∧ Hid (N = 2 ^ i) ∧ Ext w wr ∧ SyDone wr (w.heap.size + 1 + 1) w.heap.size N) (fun i _ _ _ _ _ _ => k - (intOf i).toNat)
  case atStart => exact ⟨0, 1, by omega, rfl, rfl, E0.out, HST.out⟩
  case round =>
    obtain ⟨i, N, hi, rfl, HN, hx, hst⟩ := hrel
    obtain ⟨ao, cap, hsb, hrd, hres⟩ := hst
    obtain ⟨wo, rfl⟩ : ∃ wo : World, wo = wr := ⟨_, rfl⟩
    have EO := Lib.hid hx
    have XO := Lib.hid hsb
    have RO := Lib.hid hrd
    have QO := Lib.hid hres
    clear hx hsb hrd hres HST
    by_cases hik : i < k
    · have h4 := pow_four hik hk
      rw [← HN.out] at h4
      have HN4 := Lib.hid h4
      have hN1 : 1 ≤ N := by omega
      have hN8 : N ≤ 8 := by omega
      clear h4
      obtain ⟨S, hS⟩ : ∃ S : Nat, S = N * N := ⟨_, rfl⟩
      have hS1 : S ≤ 64 := by rw [hS]; exact Nat.mul_le_mul hN8 hN8
      have hS0 : 0 < S := by rw [hS]; exact Nat.mul_pos hN1 hN1
      obtain ⟨M, hM⟩ : ∃ M : Nat, M = 4 * N * N := ⟨_, rfl⟩
      have hMS : M ≤ 4 * S ∧ 4 * S ≤ M := by rw [hM, hS, Nat.mul_assoc]; omega
      obtain ⟨hM1, hM2⟩ := hMS
      have hM' : 4 * (N : Int) * N = M := by rw [hM]; simp
      have HM := Lib.hid hM
      have HS := Lib.hid hS
      have hmk := mk_ints M (by omega)
      have k0 := XO.out.two
      have l0 := XO.out.lt
      obtain ⟨b, off, rfl, hb, hc⟩ := Reads.int RO.out.reads (by rw [tab_length]; rw [← HS.out]; exact hS0)
      have HC : Hid (∀ q, q < S → wo.cell? ⟨b, off + q, none⟩ = some (.int .i64 (flat N sylCell q))) := fun q hq => by
        have := hc q (by rw [tab_length, ← HS.out]; exact hq)
        rwa [nth_tab _ _ _ (by rw [← HS.out]; exact hq)] at this
      clear hc hS hM
      go_wp2
      have HIN : Hid (SyIn wo ((wo.alloc (.cells (madeCells #[.int .i64 0] M) 3)).alloc (.cells #[.int .i64 (2 * (N : Int)), .slice (some ⟨wo.heap.size, 0, none⟩) M M] 24)) wo.heap.size (wo.heap.size + 1) N M (sy4 N 0 0)) :=
        ⟨((Ext.refl wo).alloc _).alloc _, Blk.new' _ _ _ (by simp), by
          rw [tab_congr (sy4 N 0 0) (fun _ => 0) M (fun q _ => sy4_none), ← tab_zero]
          exact ((Ext.refl _).alloc _).row (RowOf.made wo M (by omega) rfl), Nat.le_refl _, rfl⟩
      obtain ⟨g, hg⟩ : ∃ g, g = wo.heap.size := ⟨_, rfl⟩
      obtain ⟨tb, htb⟩ : ∃ tb, tb = wo.heap.size + 1 := ⟨_, rfl⟩
      obtain ⟨wB, hwB⟩ : ∃ wB, wB = (wo.alloc (.cells (madeCells #[.int .i64 0] M) 3)).alloc (.cells #[.int .i64 (2 * (N : Int)), .slice (some ⟨wo.heap.size, 0, none⟩) M M] 24) := ⟨_, rfl⟩
      rw [← hwB, ← htb, ← hg] at HIN
      rw [← hwB, ← htb]
      try rw [← hg]
      clear hwB hg htb hmk k0 hM'
      go_loopw [8, 9, 10] (fun a _ _ wr => ∃ (a' : Nat), a' ≤ N ∧ a = .int .i64 a' ∧ SyIn wo wr g tb N M (sy4 N a' 0)) (fun i _ _ _ => N - (intOf i).toNat)
      case atStart => exact ⟨0, by omega, rfl, HIN.out⟩
      case round =>
        obtain ⟨a, ha, rfl, hst⟩ := hrel
        have H1 := Lib.hid hst
        clear hst HIN
        by_cases han : a < N
        · go_wp2
          go_loopw [9, 10] (fun b _ wr => ∃ (b' : Nat), b' ≤ N ∧ b = .int .i64 b' ∧ SyIn wo wr g tb N M (sy4 N a b')) (fun i _ _ => N - (intOf i).toNat)
          case atStart => exact ⟨0, by omega, rfl, H1.out⟩
          case round =>
            obtain ⟨c, hcN, rfl, hst⟩ := hrel
            have H2 := Lib.hid hst
            clear hst
            by_cases hcn : c < N
            · obtain ⟨p, hp⟩ : ∃ p : Nat, p = a * N := ⟨_, rfl⟩
              have hp' : (a : Int) * N = p := by rw [hp]; simp
              obtain ⟨u, hu⟩ : ∃ u : Nat, u = a * 2 * N := ⟨_, rfl⟩
              have hu' : (a : Int) * 2 * N = u := by rw [hu]; simp
              obtain ⟨v, hv⟩ : ∃ v : Nat, v = (N + a) * 2 * N := ⟨_, rfl⟩
              have hv' : ((N : Int) + a) * 2 * N = v := by rw [hv]; simp
              have hpS : p + c < S := by rw [hp, HS.out]; exact place_lt han hcn
              have huS : u ≤ 2 * p ∧ 2 * p ≤ u := by rw [hu, hp, Nat.mul_comm a 2, Nat.mul_assoc]; omega
              obtain ⟨huS, huS2⟩ := huS
              have hvS : v ≤ 2 * S + 2 * p ∧ 2 * S + 2 * p ≤ v := by rw [hv, hp, HS.out, Nat.add_mul, Nat.add_mul, Nat.mul_comm N 2, Nat.mul_comm a 2, Nat.mul_assoc, Nat.mul_assoc]; omega
              obtain ⟨hvS, hvS2⟩ := hvS
              have hpN : p + N ≤ S := by
                have := Nat.mul_le_mul_right N (show a + 1 ≤ N from han)
                rw [Nat.succ_mul] at this; rw [hp, HS.out]; exact this
              have HV : Hid (∀ q, q < M → sy4 N a (c + 1) q = upd (upd (upd (upd (sy4 N a c) (u + c) (sylCell a c)) (u + N + c) (sylCell a c)) (v + c) (sylCell a c)) (v + N + c) (-sylCell a c) q) := fun q hq => by
                rw [hu, hv]; exact sy4_step N HN4.out a han c hcn q (by rw [← HM.out]; exact hq)
              have c0 := (H2.out.ext.cell hb).trans (HC.out (p + c) hpS)
              rw [show flat N sylCell (p + c) = sylCell a c by rw [hp]; exact flat_at sylCell hcn] at c0
              have hs := sylCell_sign a c
              obtain ⟨x, hx⟩ : ∃ x, sylCell a c = x := ⟨_, rfl⟩
              rw [hx] at c0 hs HV
              have hx1 : -1 ≤ x := by omega
              have hx2 : x ≤ 1 := by omega
              clear hs hx hu hv hp
              have k1 := (XO.out.ext H2.out.ext).two
              rw [← HS.out] at k1
              have k2 := H2.out.box.two
              have z1 := H2.out.at (u + c) (by omega)
              have H3 := Lib.hid (H2.out.set (u + c) x (by omega))
              have z2 := H3.out.at (u + N + c) (by omega)
              have y2 := H3.out.box.two
              have H4 := Lib.hid (H3.out.set (u + N + c) x (by omega))
              have z3 := H4.out.at (v + c) (by omega)
              have y3 := H4.out.box.two
              have H5 := Lib.hid (H4.out.set (v + c) x (by omega))
              have z4 := H5.out.at (v + N + c) (by omega)
              have y4 := H5.out.box.two
              have H6 := Lib.hid ((H5.out.set (v + N + c) (-x) (by omega)).congr (fun q hq => (HV.out q hq).symm))
              clear HV
              go_wp2
              go_roundw
              case rel => exact ⟨c + 1, by omega, by go_num, H6.out⟩
              case measure => simp [intOf]; omega
            · obtain rfl : N = c := by omega
              have H3 := Lib.hid (H2.out.congr (fun q _ => sy4_row (by omega)))
              go_wp2
              go_roundw
              case rel => exact ⟨a + 1, by omega, by go_num, H3.out⟩
              case measure => simp [intOf]; omega
        · obtain rfl : N = a := by omega
          have H2 := Lib.hid (H1.out.congr (fun q _ => sy4_all (by omega)))
          have k1 := (XO.out.ext H2.out.ext).two
          have k2 := H2.out.box.two
          have k3 := (XO.out.ext H2.out.ext).f 0
          have k4 := (XO.out.ext H2.out.ext).f 1
          go_wp2
          have hpow : (2 ^ (i + 1) : Nat) = 2 * N := by rw [HN.out, Nat.pow_succ, Nat.mul_comm]
          have HD := Lib.hid hpow
          clear hpow
          have hgw := H2.out.ge
          have hlX := XO.out.lt
          have HDN : Hid (SyDone ((wr.setCell ⟨w.heap.size + 1 + 1, 0, none⟩ (.int .i64 (2 * (N : Int)))).setCell ⟨w.heap.size + 1 + 1, 1, none⟩ (.slice (some ⟨g, 0, none⟩) M M)) (w.heap.size + 1 + 1) w.heap.size (2 * N)) := by
            have h4 : 2 * N * (2 * N) = M := by rw [HM.out, Nat.mul_mul_mul_comm, Nat.mul_assoc 4 N N]
            refine ⟨some ⟨g, 0, none⟩, M, ?_, ?_, ?_⟩
            · have h := ((XO.out.ext H2.out.ext).set 0 (.int .i64 (2 * (N : Int)))).set 1 (.slice (some ⟨g, 0, none⟩) M M)
              rw [h4, show ((2 * N : Nat) : Int) = 2 * (N : Int) by simp]
              exact h
            · rw [h4]
              exact ((H2.out.row.beside ⟨w.heap.size + 1 + 1, 0, none⟩ (by simp; omega) _).beside ⟨w.heap.size + 1 + 1, 1, none⟩ (by simp; omega) _).mono (by omega)
            · exact ((QO.out.ext H2.out.ext).beside _ (by simp; omega) _).beside _ (by simp; omega) _
          have HE2 : Hid (Ext w ((wr.setCell ⟨w.heap.size + 1 + 1, 0, none⟩ (.int .i64 (2 * (N : Int)))).setCell ⟨w.heap.size + 1 + 1, 1, none⟩ (.slice (some ⟨g, 0, none⟩) M M))) :=
            ((EO.out.trans H2.out.ext).set (by simp; omega) _).set (by simp; omega) _
          go_roundw
          case rel => exact ⟨i + 1, 2 * N, by omega, by go_num, HD.out.symm, HE2.out, HDN.out⟩
          case measure => simp [intOf]; omega
    · obtain rfl : k = i := by omega
      have k0 := XO.out.two
      have k1 := QO.out.two
      have k2 := QO.out.f 0
      have k3 := QO.out.f 1
      have l0 := XO.out.lt
      go_wp2
      have HRB := Lib.hid ((QO.out.set 0 (.int .i64 N)).set 1 (.slice ao (N * N) cap))
      have e0 := HRB.out.c 0 (.int .i64 N) rfl
      have e1 := HRB.out.c 1 (.slice ao (N * N) cap) rfl
      have HR2 : Hid (RowOf 3 ((wo.setCell ⟨w.heap.size, 0, none⟩ (.int .i64 N)).setCell ⟨w.heap.size, 1, none⟩ (.slice ao (N * N) cap)) w.heap.size ao (N * N) cap (ints (tab (flat N sylCell) (N * N)))) :=
        ((RO.out.beside ⟨w.heap.size, 0, none⟩ (by simp) _).beside ⟨w.heap.size, 1, none⟩ (by simp) _).mono (by omega)
      refine bodyPost_ret (v := .tuple #[.agg #[.int .i64 N, .slice ao (N * N) cap], .int .i64 0]) (by simp [results, Try.results20, go_sem, e0, e1]) rfl ⟨ao, cap, by rw [← HN.out], by rw [← HN.out]; exact HR2.out, ?_⟩
      exact (EO.out.set (p := ⟨w.heap.size, 0, none⟩) (Nat.le_refl _) _).set (p := ⟨w.heap.size, 1, none⟩) (Nat.le_refl _) _

end Go.Proofs.Ytkdbdlkkjkiijaa
