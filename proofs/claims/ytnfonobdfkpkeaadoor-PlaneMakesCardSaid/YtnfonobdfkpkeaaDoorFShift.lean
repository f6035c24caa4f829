/- What field's shift answers: an element times x. No conditions. -/
import Derived.Test.YtnfonobdfkpkeaaDoorFNumber
namespace Go.Proofs.YtnfonobdfkpkeaaDoor
open Go.RowKit

/-- An element times x. -/
def shP (p k : Nat) (low : List Int) (f : Nat → Int) (i : Nat) : Int := if i < k then ((if 0 < i then f (i - 1) else 0) + (p - f (k - 1)) * nth low i) % p else 0
theorem shP_dig {p k : Nat} {low : List Int} {f : Nat → Int} (hp : 0 < p) : Dig p (shP p k low f) := fun m => by
  unfold shP
  split
  · exact ⟨Int.emod_nonneg _ (by omega), Int.emod_lt_of_pos _ (by omega)⟩
  · omega
/-- A round's world. -/
structure ShSt (w wr : World) (p k q : Int) (ao : Option Addr) (len cap : Nat) (f g : Nat → Int) : Prop where
  ext : Ext w wr
  rb : Blk wr w.heap.size #[.int .i64 p, .int .i64 k, .slice ao len cap, .int .i64 q] 55
  fb : Pol wr (w.heap.size + 1) f
  zb : Pol wr (w.heap.size + 1 + 1) (fun _ => 0)
  ob : Pol wr (w.heap.size + 1 + 1 + 1) g
theorem ShSt.start (w : World) (p k q : Int) (ao : Option Addr) (len cap : Nat) (f : Nat → Int) :
    ShSt w ((((w.alloc (.cells #[.int .i64 p, .int .i64 k, .slice ao len cap, .int .i64 q] 55)).alloc (.cells #[.int .i64 (f 0), .int .i64 (f 1), .int .i64 (f 2), .int .i64 (f 3), .int .i64 (f 4), .int .i64 (f 5), .int .i64 (f 6)] 63)).alloc (.cells #[.int .i64 0, .int .i64 0, .int .i64 0, .int .i64 0, .int .i64 0, .int .i64 0, .int .i64 0] 63)).alloc (.cells #[.int .i64 0, .int .i64 0, .int .i64 0, .int .i64 0, .int .i64 0, .int .i64 0, .int .i64 0] 63)) p k q ao len cap f (fun _ => 0) :=
  ⟨((((Ext.refl w).alloc _).alloc _).alloc _).alloc _, (((Blk.new _ _ _).alloc _).alloc _).alloc _, ((Pol.new' _ f (b := w.heap.size + 1) (by rw [World.size_alloc])).alloc _).alloc _, (Pol.new' _ (fun _ => 0) (b := w.heap.size + 1 + 1) (by rw [World.size_alloc, World.size_alloc])).alloc _, Pol.new' _ (fun _ => 0) (by rw [World.size_alloc, World.size_alloc, World.size_alloc])⟩
theorem ShSt.drew {w wr : World} {p k q : Int} {ao : Option Addr} {len cap : Nat} {f g : Nat → Int} (h : ShSt w wr p k q ao len cap f g) : ShSt w wr.drew p k q ao len cap f g := ⟨h.ext.drew, h.rb.drew, h.fb.drew, h.zb.drew, h.ob.drew⟩
theorem ShSt.set {w wr : World} {p k q : Int} {ao : Option Addr} {len cap : Nat} {f g : Nat → Int} (h : ShSt w wr p k q ao len cap f g) {j : Nat} (hj : j < 7) (v : Int) : ShSt w (wr.setCell ⟨w.heap.size + 1 + 1 + 1, j, none⟩ (.int .i64 v)) p k q ao len cap f (upd g j v) :=
  ⟨h.ext.set (by simp; omega) _, h.rb.beside _ (by simp; omega) _, h.fb.beside _ (by simp; omega) _, h.zb.beside _ (by simp) _, h.ob.set j hj v⟩
theorem ShSt.congr {w wr : World} {p k q : Int} {ao : Option Addr} {len cap : Nat} {f g g' : Nat → Int} (h : ShSt w wr p k q ao len cap f g) (he : ∀ i, i < 7 → g i = g' i) : ShSt w wr p k q ao len cap f g' := ⟨h.ext, h.rb, h.fb, h.zb, h.ob.congr he⟩
/-- The product, as far as a place. -/
def shU (p k : Nat) (low : List Int) (f : Nat → Int) (j i : Nat) : Int := if i < j then shP p k low f i else 0
theorem ShSt.next {w wr : World} {p k : Nat} {q : Int} {ao : Option Addr} {len cap : Nat} {f g : Nat → Int} {low : List Int} {y t : Int} {i : Nat} (h : ShSt w wr p k q ao len cap f g) (hi : i < 7) (hg : ∀ m, m ≠ i → g m = shU p k low f i m) (hy : y = if 0 < i then f (i - 1) else 0) (ht : t = f (k - 1)) (hk : i < k) :
    ShSt w (wr.setCell ⟨w.heap.size + 1 + 1 + 1, i, none⟩ (.int .i64 ((y + (p - t) * nth low i) % p))) p k q ao len cap f (shU p k low f (i + 1)) := (h.set hi _).congr fun m _ => by
  unfold upd
  by_cases e : m = i
  · subst e; rw [if_pos rfl]; unfold shU shP; rw [if_pos (by omega), if_pos hk, hy, ht]
  · rw [if_neg e, hg m e]
    unfold shU
    by_cases h : m < i
    · rw [if_pos h, if_pos (by omega)]
    · rw [if_neg h, if_neg (by omega)]

set_option maxHeartbeats 4000000 in
set_option maxRecDepth 100000 in
theorem shift_any (p k : Nat) (q : Int) (ao : Option Addr) (cap : Nat) (low : List Int) (f : Nat → Int) (w : World) (h2 : 2 ≤ p) (h61 : p ≤ 61) (hk1 : 1 ≤ k) (hk6 : k ≤ 6) (hl : low.length = k) (hr : Reads w ao (ints low)) (hld : Dig p (nth low)) (hf : Dig p f) :
    Calls Tryd.prog 34 #[.agg #[.int .i64 p, .int .i64 k, .slice ao k cap, .int .i64 q], .agg #[.int .i64 (f 0), .int .i64 (f 1), .int .i64 (f 2), .int .i64 (f 3), .int .i64 (f 4), .int .i64 (f 5), .int .i64 (f 6)]] w fun e w' => e = .returned (.agg #[.int .i64 ((shP p k low f) 0), .int .i64 ((shP p k low f) 1), .int .i64 ((shP p k low f) 2), .int .i64 ((shP p k low f) 3), .int .i64 ((shP p k low f) 4), .int .i64 ((shP p k low f) 5), .int .i64 ((shP p k low f) 6)]) ∧ Ext w w' := by
  have H0 := Lib.hid (ShSt.start w p k q ao k cap f)
  obtain ⟨b, off, rfl, hb, hc⟩ := Reads.int hr (by omega)
  have HC := Lib.hid hc
  have HL := Lib.hid hl
  have HF := Lib.hid hf
  have HLD := Lib.hid hld
  clear hl hr hc hf hld
  obtain ⟨T, hT⟩ : ∃ T, k - 1 = T := ⟨_, rfl⟩
  have hT' : (k : Int) - 1 = T := by omega
  have hTa : (0 : Int) ≤ (T : Int) := by omega
  have hTb : (T : Int) < 7 := by omega
  have k1 := H0.out.fb.at T (by omega)
  have hlt0 := H0.out.rb.lt
  obtain ⟨w0, hw0⟩ : ∃ w0, w0 = (((w.alloc (.cells #[.int .i64 p, .int .i64 k, .slice (some ⟨b, off, none⟩) k cap, .int .i64 q] 55)).alloc (.cells #[.int .i64 (f 0), .int .i64 (f 1), .int .i64 (f 2), .int .i64 (f 3), .int .i64 (f 4), .int .i64 (f 5), .int .i64 (f 6)] 63)).alloc (.cells #[.int .i64 0, .int .i64 0, .int .i64 0, .int .i64 0, .int .i64 0, .int .i64 0, .int .i64 0] 63)).alloc (.cells #[.int .i64 0, .int .i64 0, .int .i64 0, .int .i64 0, .int .i64 0, .int .i64 0, .int .i64 0] 63) := ⟨_, rfl⟩
  have htb := HF.out T
  obtain ⟨t, ht⟩ : ∃ t, f T = t := ⟨_, rfl⟩
  have HTE : Hid (t = f (k - 1)) := by show _ = _; rw [hT, ht]
  rw [ht] at k1 htb
  obtain ⟨ht1, ht2⟩ := htb
  clear ht hT
  go_enter Tryd.func34, Tryd.ntmps34
  go_wp2
  rw [← hw0] at H0 ⊢
  clear hw0 k1 hT' hlt0
  go_loopw [17] (fun a wr => ∃ i : Nat, i ≤ k ∧ a = .int .i64 i ∧ ShSt w wr p k q (some ⟨b, off, none⟩) k cap f (shU p k low f i)) (fun a _ => k - (intOf a).toNat)
  case atStart => exact ⟨0, by omega, rfl, H0.out.congr fun i _ => by show (0 : Int) = shU p k low f 0 i; unfold shU; rw [if_neg (by omega)]⟩
  case round =>
    obtain ⟨i, hi, rfl, hst⟩ := hrel
    have HS := Lib.hid hst
    clear hst H0
    by_cases hik : i < k
    · have hia : (0 : Int) ≤ (i : Int) := by omega
      have hib : (i : Int) < 7 := by omega
      obtain ⟨wo, rfl⟩ : ∃ wo : World, wo = wr := ⟨_, rfl⟩
      have hg0 : shU p k low f i i = 0 := by unfold shU; rw [if_neg (by omega)]
      by_cases hi0 : 0 < i
      · obtain ⟨j, hj⟩ : ∃ j, i - 1 = j := ⟨_, rfl⟩
        have hj' : (i : Int) - 1 = j := by omega
        have hja : (0 : Int) ≤ (j : Int) := by omega
        have hjb : (j : Int) < 7 := by omega
        have k6 := HS.out.fb.at j (by omega)
        have k7 := HS.out.ob.at i (by omega)
        have k8 := HS.out.ob.f i
        have HSN := Lib.hid (HS.out.set (j := i) (by omega) (f j))
        have hyb := HF.out j
        obtain ⟨y, hy⟩ : ∃ y, f j = y := ⟨_, rfl⟩
        have HYE : Hid (y = if 0 < i then f (i - 1) else 0) := by show _ = _; rw [if_pos hi0, hj, hy]
        rw [hy] at k6 HSN hyb
        obtain ⟨hy1, hy2⟩ := hyb
        have HUI : Hid (upd (shU p k low f i) i y i = y) := by show _ = _; unfold upd; rw [if_pos rfl]
        clear hj hy
        go_wp2
        obtain ⟨wq, hwq⟩ : ∃ wq, wq = wo.setCell ⟨w.heap.size + 1 + 1 + 1, i, none⟩ (.int .i64 y) := ⟨_, rfl⟩
        rw [← hwq] at HSN ⊢
        clear hwq k6 k7 k8 hj' hg0
        have k2 := HSN.out.rb.four
        obtain ⟨k2a, k2b, k2c, k2d⟩ := k2
        have k3 := HSN.out.ob.at i (by omega)
        have k4 := HSN.out.ob.f i
        have k5 := (HSN.out.ext.cell hb).trans (HC.out i (by rw [HL.out]; exact hik))
        rw [HUI.out] at k3
        have HNX := Lib.hid (HSN.out.next (i := i) (by omega) (fun m hm => by unfold upd; rw [if_neg hm]) HYE.out HTE.out hik)
        obtain ⟨l, hl⟩ : ∃ l, nth low i = l := ⟨_, rfl⟩
        have hlb := HLD.out i
        rw [hl] at k5 HNX hlb
        obtain ⟨hl1, hl2⟩ := hlb
        have hm1 : 0 ≤ ((p : Int) - t) * l := Int.mul_nonneg (by omega) (by omega)
        have hm2 : ((p : Int) - t) * l ≤ 61 * 61 := Int.mul_le_mul (by omega) (by omega) (by omega) (by omega)
        obtain ⟨z, hz⟩ : ∃ z, ((p : Int) - t) * l = z := ⟨_, rfl⟩
        rw [hz] at hm1 hm2 HNX
        clear hl
        go_region
        all_goals
          go_wp2
          exact ⟨⟨i + 1, by omega, by go_num, HNX.out.drew⟩, by simp [intOf]; omega⟩
      · have HYE : Hid ((0 : Int) = if 0 < i then f (i - 1) else 0) := by show _ = _; rw [if_neg hi0]
        go_wp2
        have k2 := HS.out.rb.four
        obtain ⟨k2a, k2b, k2c, k2d⟩ := k2
        have k3 := HS.out.ob.at i (by omega)
        have k4 := HS.out.ob.f i
        have k5 := (HS.out.ext.cell hb).trans (HC.out i (by rw [HL.out]; exact hik))
        rw [hg0] at k3
        have HNX := Lib.hid (HS.out.next (i := i) (by omega) (fun m _ => rfl) HYE.out HTE.out hik)
        obtain ⟨l, hl⟩ : ∃ l, nth low i = l := ⟨_, rfl⟩
        have hlb := HLD.out i
        rw [hl] at k5 HNX hlb
        obtain ⟨hl1, hl2⟩ := hlb
        have hm1 : 0 ≤ ((p : Int) - t) * l := Int.mul_nonneg (by omega) (by omega)
        have hm2 : ((p : Int) - t) * l ≤ 61 * 61 := Int.mul_le_mul (by omega) (by omega) (by omega) (by omega)
        obtain ⟨z, hz⟩ : ∃ z, ((p : Int) - t) * l = z := ⟨_, rfl⟩
        rw [hz] at hm1 hm2 HNX
        rw [Int.zero_add] at HNX
        clear hl
        go_region
        all_goals
          go_wp2
          exact ⟨⟨i + 1, by omega, by go_num, HNX.out.drew⟩, by simp [intOf]; omega⟩
    · obtain rfl : k = i := by omega
      have HO : Hid (Pol wr (w.heap.size + 1 + 1 + 1) (shP p k low f)) := HS.out.ob.congr fun i _ => by
        unfold shU
        by_cases h : i < k
        · rw [if_pos h]
        · rw [if_neg h]; unfold shP; rw [if_neg h]
      have k1 := HO.out.seven
      have k2 := HS.out.zb.seven
      have k3 := HS.out.zb.f
      have HR := Lib.hid (HS.out.zb.stored (shP p k low f))
      have HX : Hid (Ext w _) := HS.out.ext.stored (b := w.heap.size + 1 + 1) (by omega) (.int .i64 (shP p k low f 0)) (.int .i64 (shP p k low f 1)) (.int .i64 (shP p k low f 2)) (.int .i64 (shP p k low f 3)) (.int .i64 (shP p k low f 4)) (.int .i64 (shP p k low f 5)) (.int .i64 (shP p k low f 6))
      go_wp2
      have k4 := HR.out.seven
      exact bodyPost_ret (v := .agg #[.int .i64 ((shP p k low f) 0), .int .i64 ((shP p k low f) 1), .int .i64 ((shP p k low f) 2), .int .i64 ((shP p k low f) 3), .int .i64 ((shP p k low f) 4), .int .i64 ((shP p k low f) 5), .int .i64 ((shP p k low f) 6)]) (by simp [results, Tryd.results34, go_sem, k4]) rfl ⟨rfl, HX.out⟩

end Go.Proofs.YtnfonobdfkpkeaaDoor
