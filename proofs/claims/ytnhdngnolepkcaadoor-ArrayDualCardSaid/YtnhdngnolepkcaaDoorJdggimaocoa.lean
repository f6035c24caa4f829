/- What array.Linear answers where the arguments have a fault. -/
import Derived.Test.YtnhdngnolepkcaaDoorJlmibflkdfk
import Derived.Test.YtnhdngnolepkcaaDoorJiclkdngkcn
import Derived.Test.YtnhdngnolepkcaaDoorJdapojcpmko
import Derived.Test.YtnhdngnolepkcaaDoorJdjapdnilio
import Derived.Test.YtnhdngnolepkcaaDoorJdlamginjjf
import Derived.Test.YtnhdngnolepkcaaDoorJmanplccnef
namespace Go.Proofs.YtnhdngnolepkcaaDoor
open Go.RowKit
set_option linter.unusedVariables false

set_option maxHeartbeats 4000000 in
set_option maxRecDepth 100000 in
theorem linear_no (p k : Int) (ao bo : Option Addr) (len cap mc : Nat) (low : List Int) (n : Int) (xss : List (List Int)) (w : World) (hP : Primes w) (hl : low.length = len) (hr : Reads w ao (ints low)) (hbig : xss.length ≤ maxLen) (hx : ReadsL w bo xss) (h0 : withAll p k low n [(bo, mc, xss)] ≠ 0) :
    Calls Tryd.prog 9 #[.agg #[.int .i64 p, .int .i64 k, .slice ao len cap], .int .i64 n, .slice bo xss.length mc] w fun e w' => e = .returned (.tuple #[.slice none 0 0, .int .i64 (withAll p k low n [(bo, mc, xss)])]) ∧ Ext w w' := by
  have HXA : Hid (Ext w (w.alloc (.cells #[.int .i64 p, .int .i64 k, .slice ao len cap] 24))) := (Ext.refl w).alloc _
  have HXB := Lib.hid (HXA.out.alloc (.cells #[.int .i64 n] 3))
  have F0 := Lib.hid ((Blk.new w #[.int .i64 p, .int .i64 k, .slice ao len cap] 24).alloc (.cells #[.int .i64 n] 3))
  have N0 : Hid (Blk ((w.alloc (.cells #[.int .i64 p, .int .i64 k, .slice ao len cap] 24)).alloc (.cells #[.int .i64 n] 3)) (w.heap.size + 1) #[.int .i64 n] 3) := Blk.new' _ _ _ (by simp)
  have k0 := F0.out.three
  have k1 := N0.out.one
  have HB := Lib.hid (spBasis_no p k ao bo len cap mc low n xss _ (hP.ext HXB.out) hl (HXB.out.reads hr) hbig (hx.ext HXB.out) h0)
  obtain ⟨c, hc⟩ : ∃ c, withAll p k low n [(bo, mc, xss)] = c := ⟨_, rfl⟩
  obtain ⟨m, hm⟩ : ∃ m, xss.length = m := ⟨_, rfl⟩
  rw [hc] at HB h0 ⊢
  rw [hm] at HB ⊢
  have b1 : (c != 0) = true := by rw [bne_iff_ne]; exact h0
  clear hm hc hbig h0 hx
  go_enter Tryd.func9, Tryd.ntmps9
  go_wp2_with fail
  refine Calls.mono HB.out ?_
  rintro e w1 ⟨rfl, hx1⟩
  have EX := Lib.hid (HXB.out.trans hx1)
  clear k0 k1 hx1
  go_wp2
  exact bodyPost_ret (v := .tuple #[.slice none 0 0, .int .i64 c]) (by simp [results, Tryd.results9, go_sem]) rfl ⟨rfl, EX.out.alloc _⟩

end Go.Proofs.YtnhdngnolepkcaaDoor

/- What parterreref3.LinearOf answers. No conditions but a field. -/
namespace Go.Proofs.YtnhdngnolepkcaaDoor
open Go.RowKit
set_option linter.unusedVariables false

/-- The rows of the numbers that are marked. -/
def codeRows (q n : Nat) (T : Nat → Bool) (N : Nat) : List (List Int) := (codesR T 0 N).map fun c => nrow (opn q n c) n
theorem codeRows_len (q n : Nat) (T : Nat → Bool) (N : Nat) : (codeRows q n T N).length = (codesR T 0 N).length := by unfold codeRows; rw [List.length_map]
theorem codeRows_succ (q n : Nat) (T : Nat → Bool) (c : Nat) : codeRows q n T (c + 1) = if T c = true then codeRows q n T c ++ [nrow (opn q n c) n] else codeRows q n T c := by
  unfold codeRows
  rw [codesR_succ, Nat.zero_add]
  split
  · rw [List.map_append, List.map_cons, List.map_nil]
  · rfl

def LinRef (q n N : Nat) (T : Nat → Bool) (w : World) (e : Ending) (w' : World) : Prop :=
  Ext w w' ∧ ((128 < (codeRows q n T N).length ∧ e = .returned (.tuple #[.slice none 0 0, .int .i64 3])) ∨
    ((codeRows q n T N).length ≤ 128 ∧ ∃ oo oc, e = .returned (.tuple #[.slice oo (codeRows q n T N).length oc, .int .i64 0]) ∧ ReadsL w' oo (codeRows q n T N)))

set_option maxHeartbeats 8000000 in
set_option maxRecDepth 100000 in
theorem refLinearOf_any (p k n : Nat) (ao uo : Option Addr) (cap tcap : Nat) (low : List Int) (T : Nat → Bool) (w : World) (hF : IsField p k low) (hn1 : 1 ≤ n) (hn6 : n ≤ 6) (hbig : (p ^ k) ^ n ≤ 4096) (hr : Reads w uo (boolL T ((p ^ k) ^ n))) :
    Calls Tryd.prog 8 #[.agg #[.int .i64 p, .int .i64 k, .slice ao k cap], .int .i64 n, .slice uo ((p ^ k) ^ n) tcap] w (LinRef (p ^ k) n ((p ^ k) ^ n) T w) := by
  have hq2 : 2 ≤ p ^ k := one_lt_pow' hF.p2 hF.k1
  have E0 := Lib.hid (ext_box w #[.int .i64 p, .int .i64 k, .slice ao k cap] 24)
  have F0 := Lib.hid (Blk.new w #[.int .i64 p, .int .i64 k, .slice ao k cap] 24)
  have HOP : Hid (∀ W c, c < 100000 → _) := fun W c hc => openOf_any p k n c ao k cap low W hF hn1 hn6 hc
  obtain ⟨q, hq⟩ : ∃ q, p ^ k = q := ⟨_, rfl⟩
  rw [hq] at hq2 HOP hr hbig ⊢
  obtain ⟨N, hN⟩ : ∃ N, q ^ n = N := ⟨_, rfl⟩
  have hNpos : 0 < N := by rw [← hN]; exact Nat.pow_pos (by omega)
  rw [hN] at hr hbig ⊢
  have htb : ∃ b off, uo = some ⟨b, off, none⟩ ∧ b < w.heap.size ∧ ∀ j, j < N → w.cell? ⟨b, off + j, none⟩ = some (.bool (T j)) := by
    rcases hr with h | ⟨b, off, h1, h2, h3⟩
    · have := congrArg List.length h; rw [boolL_length] at this; simp at this; omega
    · exact ⟨b, off, h1, h2, fun j hj => h3 j _ (boolL_get T hj)⟩
  obtain ⟨bt, ot, rfl, hbt, hct⟩ := htb
  have HCT := Lib.hid hct
  have HRS : Hid (∀ c, codeRows q n T (c + 1) = if T c = true then codeRows q n T c ++ [nrow (opn q n c) n] else codeRows q n T c) := fun c => codeRows_succ q n T c
  have HRL : Hid (∀ c, (codeRows q n T c).length ≤ c) := fun c => by show _ ≤ _; rw [codeRows_len]; exact codesR_len T 0 c
  have HR0 : Hid (codeRows q n T 0 = []) := rfl
  obtain ⟨CR, hCR⟩ : ∃ CR, codeRows q n T = CR := ⟨_, rfl⟩
  have HCR := Lib.hid hCR
  rw [hCR] at HRS HRL HR0
  clear hF hr hct hq hN hCR
  go_enter Tryd.func8, Tryd.ntmps8
  go_upto_region 3 with fail
  obtain ⟨w2, hw2⟩ : ∃ w2, w2 = w.alloc (.cells #[.int .i64 p, .int .i64 k, .slice ao k cap] 24) := ⟨_, rfl⟩
  rw [← hw2] at E0 F0
  rw [← hw2]
  clear hw2
  go_loopg [8, 9] N (fun r y x wx => ∃ c : Nat, c + r = N ∧ x = .int .i64 c ∧ OwnTbl w2 wx y (CR c))
  case atStart => exact ⟨0, by omega, rfl, by rw [HR0.out]; exact ⟨none, 0, 0, rfl, Tbl.nil _ _ _, Ext.refl _⟩⟩
  case round =>
    obtain ⟨c, hcN, rfl, hown⟩ := hrel
    obtain ⟨ua, un, uc, rfl, hub, hux⟩ := hown
    have HUB := Lib.hid hub
    have HUX := Lib.hid hux
    have HUN : Hid ((CR c).length = un) := hub.length
    have hul : un ≤ 4096 := by have h1 := HRL.out c; have h2 := HUN.out; omega
    have hsz := hux.size
    clear hub hux
    cases gk with
    | zero =>
      obtain rfl : N = c := by omega
      by_cases hb : 128 < un
      · have b1 : decide (128 < (un : Int)) = true := decide_eq_true (by omega)
        have HB := Lib.hid hb
        clear hb
        go_wp2
        exact bodyPost_ret (v := .tuple #[.slice none 0 0, .int .i64 3]) (by simp [results, Tryd.results8, go_sem]) rfl ⟨E0.out.trans HUX.out, .inl ⟨by rw [HCR.out, HUN.out]; exact HB.out, rfl⟩⟩
      · have b1 : decide (128 < (un : Int)) = false := decide_eq_false (by omega)
        have HB : Hid (un ≤ 128) := by show _ ≤ _; omega
        clear hb
        go_wp2
        exact bodyPost_ret (v := .tuple #[.slice ua un uc, .int .i64 0]) (by simp [results, Tryd.results8, go_sem]) rfl ⟨E0.out.trans HUX.out, .inr ⟨by rw [HCR.out, HUN.out]; exact HB.out, ua, uc, by rw [HCR.out, HUN.out], by rw [HCR.out]; exact HUB.out.readsL⟩⟩
    | succ r2 =>
      have hcl : (c : Int) < (N : Int) := by omega
      have hcl' : c < N := by omega
      have EX := Lib.hid (E0.out.trans HUX.out)
      have k1 := (EX.out.cell hbt).trans (HCT.out c hcl')
      have HRSc := Lib.hid (HRS.out c)
      obtain ⟨tc, htc⟩ : ∃ tc, T c = tc := ⟨_, rfl⟩
      rw [htc] at k1 HRSc
      clear htc
      cases tc with
      | false =>
        rw [if_neg (by simp)] at HRSc
        go_wp2
        go_roundg r2
        case measure => omega
        case rel => exact ⟨c + 1, by omega, by go_num, by rw [HRSc.out]; exact ⟨ua, un, uc, rfl, HUB.out, HUX.out⟩⟩
      | true =>
        rw [if_pos rfl] at HRSc
        have k2 := (F0.out.ext HUX.out).three
        have HO := Lib.hid (HOP.out wr c (by omega))
        go_wp2_with fail
        refine Calls.mono HO.out ?_
        rintro e w4 ⟨gv, cv, rfl, hv⟩
        have HVR := Lib.hid hv.row
        have HU4 := Lib.hid (HUX.out.trans hv.ext)
        have HUBX := Lib.hid (HUB.out.ext hv.ext)
        have hlt := hv.lt
        have hsz2 := hv.ext.size
        clear hv k1 k2
        go_wp2_with (at_builtin; (refine wpList_appRow (w := w4) rfl (.tmp 25) (.tmp 27) rfl (fun b => w2.heap.size ≤ b) w2.heap.size (by rfl) HUBX.out (by rfl) (HVR.out.innerX _ _ (fun b hb => by omega) (fun b hb => (HUB.out.block b hb).2) (by unfold maxLen; omega)) (by omega) (by omega) ?_; intro ao8 cap8 w8 hr8 hg8 hb8; have HR8 := Lib.hid hr8; have HB8 := Lib.hid (hb8 _ _ HU4.out (Nat.le_refl _)); clear hr8 hg8 hb8))
        go_roundg r2
        case measure => omega
        case rel => exact ⟨c + 1, by omega, by go_num, by rw [HRSc.out]; exact ⟨ao8, un + 1, cap8, rfl, HR8.out, HB8.out⟩⟩

end Go.Proofs.YtnhdngnolepkcaaDoor
