/- What parterreref3.StrengthOf answers at runs: as array.Strength. -/
import Derived.Test.YtfggmgfobcgadaaSets
import Derived.Test.YtfggmgfobcgadaaTabs
namespace Go.Proofs.Ytfggmgfobcgadaa
open Go.RowKit Go.Maps

/-- The number that stands in a cell. -/
def rd1 (w : World) (g q : Nat) : Int := match w.cell? ⟨g, q, none⟩ with
  | some (.int _ x) => x
  | _ => 0
def rd (w : World) (g t : Nat) : List Int := tab (rd1 w g) t
theorem rd_row {w : World} {B g t cap : Nat} {xs : List Int} (h : RowOf 3 w B (some ⟨g, 0, none⟩) t cap (ints xs)) (hl : xs.length = t) : rd w g t = xs := by
  obtain ⟨_, _, hc, _⟩ := h.known
  subst hl
  have e := tab_congr (rd1 w g) (nth xs) xs.length (fun q hq => by unfold rd1; rw [hc q _ (ints_get xs q hq)])
  unfold rd
  rw [e, tab_of]

/-- Where the reference stands: the sets that have been looked at, and the one at hand. -/
structure SetSt (xss : List (List Int)) (k t A : Nat) (xs : List Int) : Prop where
  st : ∃ (done : List (List Int)) (f : Nat), sets k t = done ++ gen k t (f + 1) xs ∧ done.length + f = 70 ∧ ∀ ys ∈ done, GoodSet xss A ys
theorem SetSt.start (xss : List (List Int)) (k t A : Nat) : SetSt xss k t A (still t) := ⟨[], 70, rfl, rfl, by simp⟩
theorem SetSt.mem {xss : List (List Int)} {k t A : Nat} {xs : List Int} (h : SetSt xss k t A xs) : xs ∈ sets k t := by
  obtain ⟨done, f, h1, _, _⟩ := h.st
  rw [h1, gen]; simp
theorem SetSt.step {xss : List (List Int)} {k t A : Nat} {xs ys : List Int} (h : SetSt xss k t A xs) (hlen : (sets k t).length ≤ 70) (hg : GoodSet xss A xs) (hn : nextFrom k xs t = some ys) : SetSt xss k t A ys := by
  obtain ⟨done, f, h1, h2, h3⟩ := h.st
  have e : gen k t (f + 1) xs = xs :: gen k t f ys := by rw [gen, hn]
  rw [e] at h1
  cases f with
  | zero =>
    rw [h1] at hlen
    simp [gen] at hlen
    omega
  | succ f =>
    refine ⟨done ++ [xs], f, by rw [h1]; simp, by simp; omega, fun zs hz => ?_⟩
    rcases List.mem_append.1 hz with h | h
    · exact h3 zs h
    · rw [List.mem_singleton] at h; rw [h]; exact hg
theorem SetSt.last {xss : List (List Int)} {k t A : Nat} {xs : List Int} (h : SetSt xss k t A xs) (hg : GoodSet xss A xs) (hn : nextFrom k xs t = none) : ∀ zs ∈ sets k t, GoodSet xss A zs := by
  obtain ⟨done, f, h1, h2, h3⟩ := h.st
  have e : gen k t (f + 1) xs = [xs] := by rw [gen, hn]
  rw [e] at h1
  intro zs hz
  rw [h1] at hz
  rcases List.mem_append.1 hz with h | h
  · exact h3 zs h
  · rw [List.mem_singleton] at h; rw [h]; exact hg

set_option maxHeartbeats 8000000 in
set_option maxRecDepth 100000 in
theorem strengthOf_ok (S : Nat) (ao : Option Addr) (n cap : Nat) (xss : List (List Int)) (w : World) (hl : xss.length = n) (hr : ReadsL w ao xss) (hR : IsRuns S xss) :
    Calls Try.prog 19 #[.int .i64 S, .slice ao n cap] w fun e w' => ∃ t : Nat, e = .returned (.int .i64 t) ∧ StrengthIs S xss t ∧ Ext w w' := by
  obtain ⟨b, off, a0, q0, rfl, hb, hc⟩ := hR.first hr
  have hk8 := hR.k8
  have hk1 := hR.k1
  have h128 := hR.n128
  have h1n := hR.n1
  have hs2 := hR.s2
  have hs64 := hR.s64
  rw [hl] at h128 h1n
  obtain ⟨k, hk⟩ : ∃ k, (row xss 0).length = k := ⟨_, rfl⟩
  have HS : Hid (∀ t, (t ≤ k ∧ (∀ C, C < 2 ^ k → 1 ≤ onesOf C → onesOf C ≤ t → AlikeP S xss C) ∧ (t = k ∨ ∃ C, C < 2 ^ k ∧ onesOf C = t + 1 ∧ ¬ AlikeP S xss C)) → StrengthIs S xss t) := fun t h => by
    unfold StrengthIs; rw [hk]; exact h
  have HF : Hid (∀ t, 1 ≤ t → t ≤ k → (sets k t).length ≤ 70 ∧ (∀ xs ∈ sets k t, SetFacts k t xs) ∧ ∀ C, C < 2 ^ k → onesOf C = t → cols C k ∈ sets k t) := fun t h1 h2 => sets_facts (by rw [← hk]; exact hk8) h1 h2
  have HALF : Hid (∀ (i t : Nat) (co : Option Addr) (ccap : Nat) (xs : List Int) (w' : World), Ext w w' → i < n → xs.length = t → t ≤ 8 → Reads w' co (ints xs) → (∀ x ∈ xs, 0 ≤ x ∧ x < k) →
      Calls Try.prog 34 #[.slice (some ⟨b, off, none⟩) n cap, .slice co t ccap, .int .i64 i] w' fun e w'' => e = .returned (.int .i64 (cntOn xss xs (row xss i) n)) ∧ Drawn w' w'') := fun i t co ccap xs w' hx hi hxl ht hrd hxs =>
    alikeOf_any S i t _ co n cap ccap xss xs w' hl (hr.ext hx) hR hi hxl ht hrd (fun q hq => by rw [hk]; exact hxs _ (nth_mem xs q (by omega)))
  have HGA : Hid (∀ (t : Nat) (C : Nat), onesOf C = t → S ^ t ≤ n → n % S ^ t = 0 → (GoodSet xss (S ^ t) (cols C k) ↔ AlikeP S xss C)) := fun t C hC h1 h2 => by
    subst hC
    rw [← hl] at h1 h2
    exact good_alike hR hk h1 h2
  have HAD : Hid (∀ (t : Nat) (C : Nat), onesOf C = t → AlikeP S xss C → S ^ t ≤ n ∧ n % S ^ t = 0) := fun t C hC h => by
    have := alike_div h (by rw [hl]; exact h1n)
    rw [hC, hl] at this
    exact this
  have HGS : Hid (∀ A xs, (∀ i, i < n → cntOn xss xs (row xss i) n = n / A) → GoodSet xss A xs) := fun A xs h => by
    unfold GoodSet; rw [hl]; exact h
  have HGN : Hid (∀ A xs i, i < n → cntOn xss xs (row xss i) n ≠ n / A → ¬ GoodSet xss A xs) := fun A xs i hi hne h => hne (by unfold GoodSet at h; rw [hl] at h; exact h i hi)
  have HCL : Hid (∀ xs i, cntOn xss xs (row xss i) n ≤ n) := fun xs i => cntOn_le _ _ _ _
  rw [hk] at hk8 hk1 hc
  clear hl hr hR hk
  go_enter Try.func19, Try.ntmps19
  go_wp2
  go_loopw [6, 7] (fun y a wr => ∃ t T A : Nat, t ≤ k ∧ T = t + 1 ∧ a = .int .i64 T ∧ y = .int .i64 A ∧ A ≤ n ∧ Ext w wr ∧ Hid (A = S ^ t ∧ ∀ C, C < 2 ^ k → 1 ≤ onesOf C → onesOf C ≤ t → AlikeP S xss C)) (fun _ a _ => k + 2 - (intOf a).toNat)
  case atStart => exact ⟨0, 1, 1, by omega, rfl, by go_num, rfl, by omega, Ext.refl w, by simp, fun C _ h1 h2 => by omega⟩
  case round =>
    obtain ⟨t, T, A, htk, hTe, rfl, rfl, hAn, hx, HA⟩ := hrel
    have HX := Lib.hid hx
    have HTT := Lib.hid hTe
    have hTa : T ≤ t + 1 := by omega
    have hTb : t + 1 ≤ T := by omega
    clear hx hTe
    by_cases htl : t < k
    · have hA2 : A * S ≤ 128 * 64 := Nat.mul_le_mul (by omega) (by omega)
      have HA2 : Hid (A * S = S ^ T) := by show _ = _; rw [HTT.out, Nat.pow_succ, HA.out.1]
      have hA2' : (A : Int) * (S : Int) = ((A * S : Nat) : Int) := by rw [Int.natCast_mul]
      have hA1 : 1 ≤ A * S := by
        have := HA2.out
        have h := Nat.pow_pos (n := T) (show 0 < S by omega)
        omega
      obtain ⟨A2, hA2e⟩ : ∃ A2, A * S = A2 := ⟨_, rfl⟩
      rw [hA2e] at hA2 HA2 hA2' hA1
      have HSF := Lib.hid (HF.out T (by omega) (by omega))
      have HFIRST : Hid (∃ C, C < 2 ^ k ∧ onesOf C = T) := by
        have h := HSF.out.2.1 (still T) (by unfold sets; rw [gen]; simp)
        exact ⟨_, h.mask, h.ones⟩
      have hmod : (n : Int) % (A2 : Int) = ((n % A2 : Nat) : Int) := by simp
      have hdiv : (n : Int) / (A2 : Int) = ((n / A2 : Nat) : Int) := by simp
      have hz : ((A2 : Int) == 0) = false := by rw [beq_eq_false_iff_ne]; omega
      have HRET : Hid ((∃ C, C < 2 ^ k ∧ onesOf C = T ∧ ¬ AlikeP S xss C) → StrengthIs S xss t) := fun h => HS.out t ⟨by omega, HA.out.2, .inr (by rw [← HTT.out]; exact h)⟩
      clear hA2e
      by_cases hbig : n < A2
      · have HNO : Hid (StrengthIs S xss t) := by
          obtain ⟨C, hC, hone⟩ := HFIRST.out
          exact HRET.out ⟨C, hC, hone, fun h => by have := (HAD.out _ C hone h).1; rw [← HA2.out] at this; omega⟩
        clear hmod hdiv
        go_wp2
        exact bodyPost_ret (v := .int .i64 ((T : Int) - 1)) (by simp [results, Try.results19, go_sem]) rfl ⟨t, by rw [show (T : Int) - 1 = (t : Int) by omega], HNO.out, HX.out⟩
      · obtain ⟨m, hm⟩ : ∃ m, n % A2 = m := ⟨_, rfl⟩
        rw [hm] at hmod
        by_cases hm0 : m = 0
        · have b1 : ((m : Int) != 0) = false := by rw [hm0]; rfl
          have HM0 : Hid (n % A2 = 0) := by show _ = _; rw [hm, hm0]
          have HGA2 : Hid (∀ C, onesOf C = T → (GoodSet xss A2 (cols C k) ↔ AlikeP S xss C)) := fun C hC => by
            rw [HA2.out]
            exact HGA.out T C hC (by rw [← HA2.out]; omega) (by rw [← HA2.out]; exact HM0.out)
          clear hm hm0
          obtain ⟨wo, rfl⟩ : ∃ wo : World, wo = wr := ⟨_, rfl⟩
          go_wp2_with (go_at_call 33; go_loud (refine Calls.mono (still_any T wo (by omega)) ?_; rintro e w2 ⟨co, ccap, rfl, hrow, hx2⟩; have HROW := Lib.hid hrow; have HX2 := Lib.hid hx2; clear hrow hx2))
          obtain ⟨g, rfl⟩ : ∃ g, co = some ⟨g, 0, none⟩ := by
            rcases HROW.out.2 with ⟨_, h0⟩ | ⟨g, c', cur, h1, _⟩
            · omega
            · have : co = some ⟨g, 0, none⟩ ∧ ccap = c' := by simpa using h1
              exact ⟨g, this.1⟩
          have hBs := HX.out.size
          have hBg := HROW.out.known.1
          have H0 : Hid (SetSt xss k T A2 (still T) ∧ RowOf 3 w2 wo.heap.size (some ⟨g, 0, none⟩) T ccap (ints (still T)) ∧ Ext w w2) := ⟨SetSt.start _ _ _ _, HROW.out, HX.out.trans HX2.out⟩
          obtain ⟨B, hB⟩ : ∃ B, B = wo.heap.size := ⟨_, rfl⟩
          rw [← hB] at H0 hBs hBg
          clear hB HROW HX2
          go_loopw [9] (fun _ wr => ∃ xs : List Int, SetSt xss k T A2 xs ∧ RowOf 3 wr B (some ⟨g, 0, none⟩) T ccap (ints xs) ∧ Ext w wr) (fun _ w' => 100000000 - rank (rd w' g T))
          case atStart => exact ⟨_, H0.out⟩
          case round =>
            obtain ⟨xs, hss, hrow, hx⟩ := hrel
            have HSS := Lib.hid hss
            have HSX := Lib.hid (HSF.out.2.1 xs hss.mem)
            have HROW := Lib.hid hrow
            have HROW0 := Lib.hid hrow
            have HXW := Lib.hid hx
            clear hss hrow hx H0
            obtain ⟨wq, rfl⟩ : ∃ wq : World, wq = wr := ⟨_, rfl⟩
            go_wp2
            go_loopw [9] (fun a wr => ∃ i : Nat, i ≤ n ∧ a = .int .i64 i ∧ RowOf 3 wr B (some ⟨g, 0, none⟩) T ccap (ints xs) ∧ Ext w wr ∧ Hid (∀ i', i' < i → cntOn xss xs (row xss i') n = n / A2)) (fun a _ => n - (intOf a).toNat)
            case atStart => exact ⟨0, by omega, rfl, HROW.out, HXW.out, fun i' h => by omega⟩
            case round =>
              obtain ⟨i, hi, rfl, hrow, hx, HALL⟩ := hrel
              have HR2 := Lib.hid hrow
              have HX3 := Lib.hid hx
              clear hrow hx HROW HXW
              by_cases hin : i < n
              · have HC := Lib.hid (HALF.out i T (some ⟨g, 0, none⟩) ccap xs wr HX3.out hin HSX.out.len (by omega) (RowOf.reads HR2.out) HSX.out.lev)
                have hcle := HCL.out xs i
                obtain ⟨c, hcc⟩ : ∃ c, cntOn xss xs (row xss i) n = c := ⟨_, rfl⟩
                have HCC := Lib.hid hcc
                rw [hcc] at HC hcle
                clear hcc
                obtain ⟨d, hd⟩ : ∃ d, n / A2 = d := ⟨_, rfl⟩
                have HDD := Lib.hid hd
                rw [hd] at hdiv
                have hdn : d ≤ n := by rw [← hd]; exact Nat.div_le_self _ _
                have hwd : wrap64 (d : Int) = (d : Int) := IntWalk.wrap64_in _ (by omega)
                have HWD := Lib.hid hwd
                clear hwd
                clear hd
                by_cases hcd : c = d
                · have e1 : ((c : Int) != (d : Int)) = false := by rw [hcd]; simp
                  have HCD := Lib.hid hcd
                  clear hcd
                  go_wp2_with (go_at_call 34; refine Calls.mono HC.out ?_; rintro e w5 ⟨rfl, hd5⟩; have HD5 := Lib.hid hd5; clear hd5)
                  · go_roundw
                    case rel => exact ⟨i + 1, by omega, by go_num, HD5.out.ext.row HR2.out, HX3.out.drawn HD5.out, fun i' h => by
                      rcases Nat.lt_succ_iff_lt_or_eq.1 h with h | rfl
                      · exact HALL.out i' h
                      · rw [HCC.out, HCD.out, HDD.out]⟩
                    case measure => simp [intOf] <;> omega
                · have e1 : ((c : Int) != (d : Int)) = true := by rw [bne_iff_ne]; omega
                  have HNO : Hid (StrengthIs S xss t) := by
                    refine HRET.out ⟨maskOf xs, HSX.out.mask, HSX.out.ones, fun h => ?_⟩
                    have h1 := (HGA2.out (maskOf xs) HSX.out.ones).2 h
                    rw [HSX.out.co] at h1
                    exact HGN.out A2 xs i hin (by rw [HCC.out, HDD.out]; exact hcd) h1
                  clear hcd
                  go_wp2_with (go_at_call 34; refine Calls.mono HC.out ?_; rintro e w5 ⟨rfl, hd5⟩; have HD5 := Lib.hid hd5; clear hd5)
                  · exact bodyPost_ret (v := .int .i64 ((T : Int) - 1)) (by simp [results, Try.results19, go_sem]) rfl ⟨t, by rw [show (T : Int) - 1 = (t : Int) by omega], HNO.out, HX3.out.drawn HD5.out⟩
              · obtain rfl : n = i := by omega
                have HGD := Lib.hid (HGS.out A2 xs HALL.out)
                have HNS := Lib.hid (nextSet_any k T B g ccap xs wr hk8 HSX.out.len (by omega) (fun x hx => by have := HSX.out.lev x hx; omega) HR2.out)
                cases hnx : nextFrom k xs T with
                | none =>
                  have HNX := Lib.hid hnx
                  clear hnx
                  go_wp2_with (go_at_call 35; refine Calls.mono HNS.out ?_; rintro e w5 ⟨hn0, _⟩; obtain ⟨rfl, rfl⟩ := hn0 HNX.out; clear hn0)
                  go_roundw
                  case rel => exact ⟨T, T + 1, A2, by omega, rfl, by go_num, rfl, by omega, HX3.out, HA2.out, fun C h1 h2 h3 => by
                    rcases Nat.lt_or_ge (onesOf C) T with h4 | h4
                    · exact HA.out.2 C h1 h2 (by omega)
                    · have hC : onesOf C = T := by omega
                      exact (HGA2.out C hC).1 (HSS.out.last HGD.out HNX.out _ (HSF.out.2.2 C h1 hC))⟩
                  case measure => simp [intOf] <;> omega
                | some ys =>
                  have HNX := Lib.hid hnx
                  clear hnx
                  go_wp2_with (go_at_call 35; refine Calls.mono HNS.out ?_; rintro e w5 ⟨_, hn1⟩; obtain ⟨rfl, hr5, hg5⟩ := hn1 ys HNX.out; have HR5 := Lib.hid hr5; have HG5 := Lib.hid hg5; clear hn1 hr5 hg5)
                  have HSN := Lib.hid (HSS.out.step HSF.out.1 HGD.out HNX.out)
                  have HXB : Hid (Ext w w5) := Below.grown HX3.out HG5.out HX3.out.size (fun k' hk' => by cases hk'; omega)
                  go_roundw
                  case rel => exact ⟨ys, HSN.out, HR5.out, HXB.out⟩
                  case measure =>
                    have hm1 := rd_row HR5.out (HSF.out.2.1 ys HSN.out.mem).len
                    have hm2 := rd_row HROW0.out HSX.out.len
                    have hm3 := HSX.out.next ys HNX.out
                    have hm4 := (HSF.out.2.1 ys HSN.out.mem).rk
                    have hm5 := HSX.out.rk
                    rw [hm1, hm2]
                    omega
        · have b1 : ((m : Int) != 0) = true := by rw [bne_iff_ne]; omega
          have HNO : Hid (StrengthIs S xss t) := by
            obtain ⟨C, hC, hone⟩ := HFIRST.out
            exact HRET.out ⟨C, hC, hone, fun h => by have := (HAD.out _ C hone h).2; rw [← HA2.out, hm] at this; exact hm0 this⟩
          clear hm hm0
          go_wp2
          exact bodyPost_ret (v := .int .i64 ((T : Int) - 1)) (by simp [results, Try.results19, go_sem]) rfl ⟨t, by rw [show (T : Int) - 1 = (t : Int) by omega], HNO.out, HX.out⟩
    · have hk' : t = k := by omega
      have HKK := Lib.hid hk'
      clear hk'
      go_wp2
      go_ret
      exact ⟨k, rfl, HS.out k ⟨Nat.le_refl _, by rw [← HKK.out]; rw [← HKK.out] at HA; exact HA.out.2, .inl rfl⟩, HX.out⟩

end Go.Proofs.Ytfggmgfobcgadaa
