/- What parterreref1.Lists answers: are two lists of lists the same? Conditions: both can be read. -/
import Derived.Test.YthkafhmciapipaaDoorJikemibbpmi
import Derived.Test.YthkafhmciapipaaDoorJgcdkbgjmfo
import Derived.Test.YthkafhmciapipaaDoorJibjalifbim
import Derived.ProofKit
import Derived.OpenShut
import Derived.ShutString
import Derived.ChangeOld
import Derived.Deep.Slices
import Derived.Lib.SmallJoins
namespace Go.Proofs.YthkafhmciapipaaDoor
open Go.RowKit

set_option maxHeartbeats 400000 in
theorem lists_any (ao bo : Option Addr) (n m cap cap' : Nat) (xss yss : List (List Int)) (w : World) (hx : xss.length = n) (hy : yss.length = m) (hbig : n ≤ maxLen) (hbig' : m ≤ maxLen) (ra : ReadsL w ao xss) (rb : ReadsL w bo yss) :
    Calls Tryd.prog 17 #[.slice ao n cap, .slice bo m cap'] w fun e w' => e = .returned (.bool (decide (xss = yss))) ∧ Drawn w w' := by
  unfold maxLen at hbig hbig'
  have HX := Lib.hid hx
  have HY := Lib.hid hy
  have RA := Lib.hid ra
  have RB := Lib.hid rb
  clear hx ra rb hy
  by_cases hnm : n = m
  · subst hnm
    go_enter Tryd.func17, Tryd.ntmps17
    go_wp2
    go_loopw [5] (fun i wr => ∃ k : Nat, k ≤ n ∧ i = .int .i64 k ∧ Drawn w wr ∧ ∀ j, j < k → row xss j = row yss j) (fun i _ => n - (intOf i).toNat)
    case atStart => exact ⟨0, by omega, rfl, Drawn.refl _, fun j hj => by omega⟩
    case round =>
      obtain ⟨k, hk, rfl, hd, hall⟩ := hrel
      have HA := Lib.hid hall
      clear hall
      by_cases hlt : k < n
      · obtain ⟨b, off, rfl, hb, hc⟩ := RA.out.row (by rw [HX.out]; omega)
        obtain ⟨b', off', rfl, hb', hc'⟩ := RB.out.row (by rw [HY.out]; omega)
        obtain ⟨a1, q1, c1, r1, l1⟩ := hc k (by rw [HX.out]; omega)
        obtain ⟨a2, q2, c2, r2, l2⟩ := hc' k (by rw [HY.out]; omega)
        rw [← hd.cell] at c1 c2
        have HD := Lib.hid hd
        have HI : Hid (∀ w', Drawn wr w' → _) := fun w' hd' => ints_any a1 a2 _ _ q1 q2 (row xss k) (row yss k) w' rfl rfl l1 l2 ((hd.trans hd').ext.reads r1) ((hd.trans hd').ext.reads r2)
        unfold maxLen at l1 l2
        clear hc hc' hd r1 r2
        obtain ⟨p, hp⟩ : ∃ p, (row xss k).length = p := ⟨_, rfl⟩
        obtain ⟨q, hq⟩ : ∃ q, (row yss k).length = q := ⟨_, rfl⟩
        rw [hp] at c1 HI
        rw [hq] at c2 HI
        clear hp hq l1 l2
        by_cases he : row xss k = row yss k
        · have HE := Lib.hid he
          rw [decide_eq_true he] at HI
          clear he
          go_wp2_with fail
          go_quiet ((go_at_call 36; exact Calls.quiet_of (HI.out _ (Drawn.drewN _ _))))
          go_wp2
          go_roundw
          case rel => exact ⟨k + 1, by omega, by go_num, HD.out.trans (Drawn.drewN _ _), fun j hj => by
            rcases Nat.lt_succ_iff_lt_or_eq.1 hj with h | rfl
            · exact HA.out j h
            · exact HE.out⟩
          case measure => simp [intOf]; omega
        · have HE : Hid (xss ≠ yss) := fun e => he (by rw [e])
          rw [decide_eq_false he] at HI
          clear he
          go_wp2_with fail
          go_quiet ((go_at_call 36; exact Calls.quiet_of (HI.out _ (Drawn.drewN _ _))))
          go_wp2
          go_ret
          exact ⟨by rw [decide_eq_false HE.out]; rfl, HD.out.trans (Drawn.drewN _ _)⟩
      · have HE : Hid (xss = yss) := row_ext xss yss (by rw [HX.out, HY.out]) fun j hj => HA.out j (by rw [HX.out] at hj; omega)
        have HD := Lib.hid hd
        clear hd
        go_wp2
        go_ret
        exact ⟨by rw [decide_eq_true HE.out]; rfl, HD.out⟩
  · have hb2 : ((n : Int) != (m : Int)) = true := by rw [bne_iff_ne]; omega
    have HE : Hid (xss ≠ yss) := fun e => hnm (by rw [← HX.out, ← HY.out, e])
    clear hnm
    go_enter Tryd.func17, Tryd.ntmps17
    go_wp2
    go_ret
    exact ⟨by rw [decide_eq_false HE.out]; rfl, Drawn.refl _⟩

end Go.Proofs.YthkafhmciapipaaDoor

/- What is known of a list of ints that comes in as an argument. No conditions. -/
namespace Go.Proofs.YthkafhmciapipaaDoor
open Go.ChangeShapes Go.WideShapes Go.ChangeAt Go.RowKit

/-- A list of ints that came in. -/
structure IntsArg (w : World) (ao : Option Addr) (n cap : Nat) (xs : List Int) : Prop where
  len : xs.length = n
  big : n ≤ maxLen
  reads : Reads w ao (ints xs)
  rng : ∀ x ∈ xs, -9223372036854775808 ≤ x ∧ x ≤ 9223372036854775807

theorem spot_of_cell {w : World} {a : Addr} {v : Value} (h : w.cell? a = some v) : a = ⟨a.block, a.off, none⟩ := by
  obtain ⟨b, o, s⟩ := a
  unfold World.cell? at h
  cases s with
  | none => rfl
  | some k => simp at h; split at h <;> simp at h

theorem reads_of_add {w : World} {a : Addr} {xs : List Value} (h : ∀ i u, xs[i]? = some u → w.cell? (a.add i) = some u) : Reads w (some a) xs := by
  cases xs with
  | nil => exact .inl rfl
  | cons x xs =>
    have h0 := h 0 x rfl
    rw [show a.add 0 = a by simp [Addr.add]] at h0
    have ha := spot_of_cell h0
    have hb := World.block_lt_of_cell? w a h0
    refine .inr ⟨a.block, a.off, by rw [← ha], hb, fun j u hu => ?_⟩
    have := h j u hu
    rw [show a.add j = ⟨a.block, a.off + j, none⟩ by unfold Addr.add; split <;> rename_i hj; (rw [hj]; exact ha); rfl] at this
    exact this

theorem rng_of_wf {x : Int} (h : (Lit.int .i64 x).wf = true) : -9223372036854775808 ≤ x ∧ x ≤ 9223372036854775807 := by
  simpa [Lit.wf, IntKind.min, IntKind.max, IntKind.signed, IntKind.bits] using h

theorem intsArg_of_trod {H : Type} {enc : TypeId × Value → H} {W : World} {fuel : Nat} {v : Value} {x : DataW H × List MemPlace}
    (h : DataW.trod enc Tryd.prog W 0 (fun _ => true) true fuel 27 [v] = some x) : ∃ ao n cap xs, v = .slice ao n cap ∧ IntsArg W ao n cap xs := by
  rcases open_ints Tryd.underlying27 Tryd.underlying3 (by kernel_rfl) h with ⟨hcs, _⟩ | ⟨a, l, c, zs, hcs, _, hl, hm, hz, _, hcell, hwz⟩
  · obtain rfl : v = .slice none 0 0 := by simpa using hcs
    exact ⟨none, 0, 0, [], rfl, rfl, by decide, .inl rfl, by simp⟩
  · obtain rfl : v = .slice (some a) l c := by simpa using hcs
    have hz' : zs.length = c := by simpa using hz
    refine ⟨some a, l, c, zs.take l, rfl, by simp; omega, by omega, reads_of_add fun i u hu => ?_, fun n hn => rng_of_wf (hwz n (List.mem_of_mem_take hn))⟩
    have hi : i < l := by have := (List.getElem?_eq_some_iff.1 hu).1; simp [ints] at this; omega
    rw [hcell i (by omega)]
    rw [← hu]
    simp [ints, hi, List.getElem?_eq_getElem (show i < zs.length by omega)]

theorem open_intsArg {H : Type} {enc : TypeId × Value → H} {W : World} {base : Nat} {v : Value} {d : DataW H} {p : List MemPlace}
    (hv : Value.okWide Tryd.prog W .any base 27 v) (h : DataW.Trod enc Tryd.prog W 0 (fun _ => true) true 27 v d p) :
    ∃ ao n cap xs, v = .slice ao n cap ∧ IntsArg W ao n cap xs := by
  obtain ⟨a0, len0, cap0, rfl⟩ := okWide_slice Tryd.underlying27 hv
  obtain ⟨fuel, hf⟩ := h
  exact intsArg_of_trod (by simpa [Value.cells] using hf)

end Go.Proofs.YthkafhmciapipaaDoor

/- What is known of a field that comes in as an argument. No conditions. -/
namespace Go.Proofs.YthkafhmciapipaaDoor
open Go.ChangeShapes Go.WideShapes Go.ChangeAt Go.RowKit Go.Joins

theorem open_fieldArg {H : Type} {enc : TypeId × Value → H} {W : World} {base : Nat} {v : Value} {d : DataW H} {p : List MemPlace}
    (hv : Value.okWide Tryd.prog W .any base 29 v) (h : DataW.Trod enc Tryd.prog W 0 (fun _ => true) true 29 v d p) :
    ∃ (m k : Int) (ao : Option Addr) (n cap : Nat) (xs : List Int), v = .agg #[.int .i64 m, .int .i64 k, .slice ao n cap] ∧ IntsArg W ao n cap xs := by
  obtain ⟨c0, c1, c2, y0, y1, y2, m, rfl, rfl, rfl, h0, h1, h2⟩ := open_agg3 Tryd.underlying29 (by kernel_rfl) (by kernel_rfl) hv h
  obtain ⟨a, e0, _, _⟩ := DataW.trod_int Tryd.underlying3 h0
  obtain ⟨b, e1, _, _⟩ := DataW.trod_int Tryd.underlying3 h1
  obtain ⟨ao, n, cap, xs, rfl, hx⟩ := intsArg_of_trod h2
  simp at e0 e1
  subst e0 e1
  exact ⟨a, b, ao, n, cap, xs, rfl, hx⟩

end Go.Proofs.YthkafhmciapipaaDoor
