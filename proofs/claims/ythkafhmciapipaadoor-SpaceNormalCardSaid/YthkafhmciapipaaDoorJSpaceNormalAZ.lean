/- What space.Basis and space.Normal answer. Conditions: primes; what is read. -/
import Derived.Test.YthkafhmciapipaaDoorJSpaceNormalAS
import Derived.Test.YthkafhmciapipaaDoorJSpaceNormalAY
import Derived.Test.YthkafhmciapipaaDoorJSpaceNormalAF
namespace Go.Proofs.YthkafhmciapipaaDoor
open Go.RowKit
set_option linter.unusedSectionVars false

/-- One list of rows, boxed ahead of the call of with. -/
theorem readsAll_one {w : World} {ao : Option Addr} {mc : Nat} {xss : List (List Int)} {b : Nat} (hb : b = w.heap.size) (hx : ReadsL w ao xss) (hbig : xss.length ≤ maxLen) : ReadsAll (w.alloc (.cells #[.slice ao xss.length mc] 30)) b 0 [(ao, mc, xss)] := by
  subst hb
  refine ⟨by simp, fun j t ht => ?_⟩
  cases j with
  | zero =>
    obtain rfl : (ao, mc, xss) = t := by simpa using ht
    exact ⟨(Blk.new' _ _ _ (by simp)).one, hx.ext (ext_box _ _ _), hbig⟩
  | succ j => simp at ht
theorem readsAll_two {w : World} {ao bo : Option Addr} {mc nc : Nat} {xss yss : List (List Int)} {b : Nat} (hb : b = w.heap.size) (hx : ReadsL w ao xss) (hy : ReadsL w bo yss) (hbig : xss.length ≤ maxLen) (hbig2 : yss.length ≤ maxLen) : ReadsAll (w.alloc (.cells #[.slice ao xss.length mc, .slice bo yss.length nc] 30)) b 0 [(ao, mc, xss), (bo, nc, yss)] := by
  subst hb
  have hB := (Blk.new' w #[.slice ao xss.length mc, .slice bo yss.length nc] 30 rfl).two
  refine ⟨by simp, fun j t ht => ?_⟩
  match j, ht with
  | 0, ht =>
    obtain rfl : (ao, mc, xss) = t := by simpa using ht
    exact ⟨hB.1, hx.ext (ext_box _ _ _), hbig⟩
  | 1, ht =>
    obtain rfl : (bo, nc, yss) = t := by simpa using ht
    exact ⟨hB.2, hy.ext (ext_box _ _ _), hbig2⟩
  | j + 2, ht => simp at ht

/-- The room is open. -/
theorem withAll_ok {p k n : Nat} {low : List Int} {ts : List (Option Addr × Nat × List (List Int))} (hR : IsRoom p k low n) (ht : ∀ t, t ∈ ts → rowsFault (p ^ k) n t.2.2 = 0) : withAll p k low n ts = 0 := by
  unfold withAll
  rw [if_neg (fun h => h hR.fault), hR.fld.fault.2]
  exact allFault_zero ts ht
theorem withAll_is {p k n : Int} {low : List Int} {ts : List (Option Addr × Nat × List (List Int))} (h : withAll p k low n ts = 0) : ∃ P K N : Nat, p = P ∧ k = K ∧ n = N ∧ IsRoom P K low N ∧ ∀ t, t ∈ ts → rowsFault (P ^ K) N t.2.2 = 0 := by
  unfold withAll at h
  by_cases h2 : roomFault p k low n = 0
  · rw [if_neg (fun h => h h2)] at h
    obtain ⟨P, K, N, rfl, rfl, rfl, hR⟩ := roomFault_zero h2
    rw [hR.fld.fault.2] at h
    exact ⟨P, K, N, rfl, rfl, rfl, hR, allFault_each h⟩
  · rw [if_pos h2] at h; exact absurd h h2

/-- What with answers where all is right. -/
theorem withs_ok (p k n : Nat) (ao : Option Addr) (cap : Nat) (low : List Int) (b off m mc : Nat) (ts : List (Option Addr × Nat × List (List Int))) (w : World) (hP : Primes w) (hR : IsRoom p k low n) (hr : Reads w ao (ints low)) (hm : ts.length = m) (hm4 : m ≤ 4) (ht : ReadsAll w b off ts) (hq : ∀ t, t ∈ ts → rowsFault (p ^ k) n t.2.2 = 0) :
    Calls Tryd.prog 27 #[.agg #[.int .i64 p, .int .i64 k, .slice ao k cap], .int .i64 n, .slice (some ⟨b, off, none⟩) m mc] w fun e w' => ∃ r, e = .returned (.tuple #[.pointer (some ⟨r, 0, none⟩), .int .i64 0]) ∧ RoomAt w' r p k low n ∧ Ext w w' := by
  refine (withs_any p k ao k cap low n b off m mc ts w hP hR.fld.len hr hm hm4 ht).mono ?_
  rintro e w' ⟨v, rfl, hp, hx⟩
  rw [withAll_ok hR hq] at hp ⊢
  obtain ⟨P, K, N, r, e1, e2, e3, _, rfl, h3, _⟩ := hp.2 rfl
  obtain rfl : p = P := by omega
  obtain rfl : k = K := by omega
  obtain rfl : n = N := by omega
  exact ⟨r, rfl, h3, hx⟩
/-- What with answers where something is wrong. -/
theorem withs_no (p k : Int) (ao : Option Addr) (len cap : Nat) (low : List Int) (n : Int) (b off m mc : Nat) (ts : List (Option Addr × Nat × List (List Int))) (w : World) (hP : Primes w) (hl : low.length = len) (hr : Reads w ao (ints low)) (hm : ts.length = m) (hm4 : m ≤ 4) (ht : ReadsAll w b off ts) (h0 : withAll p k low n ts ≠ 0) :
    Calls Tryd.prog 27 #[.agg #[.int .i64 p, .int .i64 k, .slice ao len cap], .int .i64 n, .slice (some ⟨b, off, none⟩) m mc] w fun e w' => e = .returned (.tuple #[.pointer none, .int .i64 (withAll p k low n ts)]) ∧ Ext w w' := by
  refine (withs_any p k ao len cap low n b off m mc ts w hP hl hr hm hm4 ht).mono ?_
  rintro e w' ⟨v, rfl, hp, hx⟩
  obtain rfl := hp.1 h0
  exact ⟨rfl, hx⟩

section
variable {p k : Nat} {low : List Int} [hI : FldP p k low]

/-- The two walks of a room, over the field. -/
theorem basis_el (n b : Nat) (ao : Option Addr) (len cap : Nat) (V : List (Nat → El p k low)) (w : World) (hb : RoomAt w b p k low n) (hn1 : 1 ≤ n) (hn6 : n ≤ 6) (hz : Zero n V) (hlen : V.length = len) (hbig : len ≤ 100) (hr : ReadsL w ao (rowsN n (V.map toN))) :
    Calls Tryd.prog 28 #[.pointer (some ⟨b, 0, none⟩), .slice ao len cap] w fun e w' => ∃ (bo : Option Addr) (bl bcap : Nat) (xss : List (List Int)), e = .returned (.slice bo bl bcap) ∧ xss.length = bl ∧ ReadsL w' bo xss ∧ BasisI n xss (Span V) ∧ Ext w w' := by
  refine (basis_any p k n b low ao len cap (V.map toN) w hI.out hb hn1 hn6 (by rw [List.length_map, hlen]) hbig (allLt_toN n V) hr).mono ?_
  rintro e w' ⟨bo, bcap, rfl, h1, h2⟩
  exact ⟨bo, _, bcap, _, rfl, rowsN_length _ _, h1, basN_basis hz, h2⟩
theorem normal_el (n b : Nat) (ao : Option Addr) (len cap : Nat) (V : List (Nat → El p k low)) (w : World) (hb : RoomAt w b p k low n) (hn1 : 1 ≤ n) (hn6 : n ≤ 6) (hz : Zero n V) (hlen : V.length = len) (hbig : len ≤ 100) (hr : ReadsL w ao (rowsN n (V.map toN))) :
    Calls Tryd.prog 29 #[.pointer (some ⟨b, 0, none⟩), .slice ao len cap] w fun e w' => ∃ (bo : Option Addr) (bl bcap : Nat) (xss : List (List Int)), e = .returned (.slice bo bl bcap) ∧ xss.length = bl ∧ ReadsL w' bo xss ∧ BasisI n xss (Nul n (Span V)) ∧ Ext w w' := by
  have h := leadP_ok hz
  have hle := lead_el h
  rw [← basN_map] at hle
  refine (normal_any p k n b low ao len cap (V.map toN) (leadP n (basN p k low n (V.map toN))) w hI.out hb hn1 hn6 (by rw [List.length_map, hlen]) hbig (allLt_toN n V) hle hr).mono ?_
  rintro e w' ⟨bo, bcap, rfl, h1, h2⟩
  exact ⟨bo, _, bcap, _, rfl, rowsN_length _ _, h1, normN_basis hz, h2⟩
end

/-- The answers: a fault. -/
def SaysNo (f : FuncId) (args : Array Value) (w : World) (c : Int) : Prop := Calls Tryd.prog f args w fun e w' => e = .returned (.tuple #[.slice none 0 0, .int .i64 c]) ∧ Ext w w'
/-- .. a basis. -/
def SaysBasis {p k : Nat} {low : List Int} [FldP p k low] (f : FuncId) (args : Array Value) (w : World) (n : Nat) (S : (Nat → El p k low) → Prop) : Prop := Calls Tryd.prog f args w fun e w' => ∃ (bo : Option Addr) (bl bcap : Nat) (xss : List (List Int)), e = .returned (.tuple #[.slice bo bl bcap, .int .i64 0]) ∧ xss.length = bl ∧ ReadsL w' bo xss ∧ BasisI n xss S ∧ Ext w w'

set_option maxHeartbeats 4000000 in
theorem spBasis_no (p k : Int) (ao bo : Option Addr) (len cap mc : Nat) (low : List Int) (n : Int) (xss : List (List Int)) (w : World) (hP : Primes w) (hl : low.length = len) (hr : Reads w ao (ints low)) (hbig : xss.length ≤ maxLen) (hx : ReadsL w bo xss) (h0 : withAll p k low n [(bo, mc, xss)] ≠ 0) :
    SaysNo 12 #[.agg #[.int .i64 p, .int .i64 k, .slice ao len cap], .int .i64 n, .slice bo xss.length mc] w (withAll p k low n [(bo, mc, xss)]) := by
  have HXA : Hid (Ext w (w.alloc (.cells #[.int .i64 p, .int .i64 k, .slice ao len cap] 29))) := (Ext.refl w).alloc _
  have HXB := Lib.hid (HXA.out.alloc (.cells #[.slice bo xss.length mc] 30))
  have HW := Lib.hid (withs_no p k ao len cap low n (w.heap.size + 1) 0 1 1 [(bo, mc, xss)] _ (hP.ext HXB.out) hl (HXB.out.reads hr) rfl (by omega) (readsAll_one (by simp) (hx.ext HXA.out) hbig) h0)
  obtain ⟨c, hc⟩ : ∃ c, withAll p k low n [(bo, mc, xss)] = c := ⟨_, rfl⟩
  obtain ⟨m, hm⟩ : ∃ m, xss.length = m := ⟨_, rfl⟩
  unfold SaysNo
  rw [hc] at HW h0 ⊢
  rw [hm] at HW HXB ⊢
  have b1 : (c != 0) = true := by rw [bne_iff_ne]; exact h0
  clear hc hm hP hl hr hx hbig h0
  go_enter Tryd.func12, Tryd.ntmps12
  go_wp2_with fail
  refine Calls.mono HW.out ?_
  rintro e w1 ⟨rfl, hx1⟩
  have HX1 := Lib.hid (HXB.out.trans hx1)
  clear hx1
  go_wp2
  exact bodyPost_ret (v := .tuple #[.slice none 0 0, .int .i64 c]) (by simp [results, Tryd.results12, go_sem]) rfl ⟨rfl, HX1.out⟩

set_option maxHeartbeats 4000000 in
theorem spNormal_no (p k : Int) (ao bo : Option Addr) (len cap mc : Nat) (low : List Int) (n : Int) (xss : List (List Int)) (w : World) (hP : Primes w) (hl : low.length = len) (hr : Reads w ao (ints low)) (hbig : xss.length ≤ maxLen) (hx : ReadsL w bo xss) (h0 : withAll p k low n [(bo, mc, xss)] ≠ 0) :
    SaysNo 13 #[.agg #[.int .i64 p, .int .i64 k, .slice ao len cap], .int .i64 n, .slice bo xss.length mc] w (withAll p k low n [(bo, mc, xss)]) := by
  have HXA : Hid (Ext w (w.alloc (.cells #[.int .i64 p, .int .i64 k, .slice ao len cap] 29))) := (Ext.refl w).alloc _
  have HXB := Lib.hid (HXA.out.alloc (.cells #[.slice bo xss.length mc] 30))
  have HW := Lib.hid (withs_no p k ao len cap low n (w.heap.size + 1) 0 1 1 [(bo, mc, xss)] _ (hP.ext HXB.out) hl (HXB.out.reads hr) rfl (by omega) (readsAll_one (by simp) (hx.ext HXA.out) hbig) h0)
  obtain ⟨c, hc⟩ : ∃ c, withAll p k low n [(bo, mc, xss)] = c := ⟨_, rfl⟩
  obtain ⟨m, hm⟩ : ∃ m, xss.length = m := ⟨_, rfl⟩
  unfold SaysNo
  rw [hc] at HW h0 ⊢
  rw [hm] at HW HXB ⊢
  have b1 : (c != 0) = true := by rw [bne_iff_ne]; exact h0
  clear hc hm hP hl hr hx hbig h0
  go_enter Tryd.func13, Tryd.ntmps13
  go_wp2_with fail
  refine Calls.mono HW.out ?_
  rintro e w1 ⟨rfl, hx1⟩
  have HX1 := Lib.hid (HXB.out.trans hx1)
  clear hx1
  go_wp2
  exact bodyPost_ret (v := .tuple #[.slice none 0 0, .int .i64 c]) (by simp [results, Tryd.results13, go_sem]) rfl ⟨rfl, HX1.out⟩

section
variable {p k : Nat} {low : List Int} [hI : FldP p k low]

set_option maxHeartbeats 4000000 in
theorem spBasis_ok (n : Nat) (ao bo : Option Addr) (cap mc : Nat) (xss : List (List Int)) (w : World) (hP : Primes w) (hR : IsRoom p k low n) (hr : Reads w ao (ints low)) (hx : ReadsL w bo xss) (hq : rowsFault (p ^ k) n xss = 0) :
    SaysBasis 12 #[.agg #[.int .i64 p, .int .i64 k, .slice ao k cap], .int .i64 n, .slice bo xss.length mc] w n (Span (vecs (p := p) (k := k) (low := low) xss)) := by
  have hbig := (rowsFault_zero hq).1
  have HXA : Hid (Ext w (w.alloc (.cells #[.int .i64 p, .int .i64 k, .slice ao k cap] 29))) := (Ext.refl w).alloc _
  have HXB := Lib.hid (HXA.out.alloc (.cells #[.slice bo xss.length mc] 30))
  have HW := Lib.hid (withs_ok p k n ao cap low (w.heap.size + 1) 0 1 1 [(bo, mc, xss)] _ (hP.ext HXB.out) hR (HXB.out.reads hr) rfl (by omega) (readsAll_one (by simp) (hx.ext HXA.out) (by unfold maxLen; omega)) (fun t ht => by obtain rfl : t = (bo, mc, xss) := (by simpa using ht); exact hq))
  have HB : Hid (∀ b w', Ext w w' → RoomAt w' b p k low n → _) := fun b w' (h1 : Ext w w') (h2 : RoomAt w' b p k low n) => basis_el n b bo xss.length mc (vecs (p := p) (k := k) (low := low) xss) w' h2 hR.n1 hR.n6 (vecs_zero hq) (vecs_length xss) (by omega) (by rw [vecs_rows hq]; exact hx.ext h1)
  obtain ⟨S, hS⟩ : ∃ S, Span (vecs (p := p) (k := k) (low := low) xss) = S := ⟨_, rfl⟩
  obtain ⟨m, hm⟩ : ∃ m, xss.length = m := ⟨_, rfl⟩
  unfold SaysBasis
  rw [hm] at HW HXB HB ⊢
  rw [hS] at HB ⊢
  clear hP hr hx hbig hq hS hm hR
  go_enter Tryd.func12, Tryd.ntmps12
  go_wp2_with fail
  refine Calls.mono HW.out ?_
  rintro e w1 ⟨r, rfl, hra, hx1⟩
  have HX1 := Lib.hid (HXB.out.trans hx1)
  have HB1 := Lib.hid (HB.out r w1 HX1.out hra)
  clear hx1 hra
  go_wp2_with fail
  refine Calls.mono HB1.out ?_
  rintro e w2 ⟨ro, rl, rc, out, rfl, h1, h2, h3, h4⟩
  have HE := Lib.hid (And.intro h1 (And.intro h2 (And.intro h3 (HX1.out.trans h4))))
  clear h1 h2 h3 h4
  go_wp2
  exact bodyPost_ret (v := .tuple #[.slice ro rl rc, .int .i64 0]) (by simp [results, Tryd.results12, go_sem]) rfl ⟨ro, rl, rc, out, rfl, HE.out⟩

set_option maxHeartbeats 4000000 in
theorem spNormal_ok (n : Nat) (ao bo : Option Addr) (cap mc : Nat) (xss : List (List Int)) (w : World) (hP : Primes w) (hR : IsRoom p k low n) (hr : Reads w ao (ints low)) (hx : ReadsL w bo xss) (hq : rowsFault (p ^ k) n xss = 0) :
    SaysBasis 13 #[.agg #[.int .i64 p, .int .i64 k, .slice ao k cap], .int .i64 n, .slice bo xss.length mc] w n (Nul n (Span (vecs (p := p) (k := k) (low := low) xss))) := by
  have hbig := (rowsFault_zero hq).1
  have HXA : Hid (Ext w (w.alloc (.cells #[.int .i64 p, .int .i64 k, .slice ao k cap] 29))) := (Ext.refl w).alloc _
  have HXB := Lib.hid (HXA.out.alloc (.cells #[.slice bo xss.length mc] 30))
  have HW := Lib.hid (withs_ok p k n ao cap low (w.heap.size + 1) 0 1 1 [(bo, mc, xss)] _ (hP.ext HXB.out) hR (HXB.out.reads hr) rfl (by omega) (readsAll_one (by simp) (hx.ext HXA.out) (by unfold maxLen; omega)) (fun t ht => by obtain rfl : t = (bo, mc, xss) := (by simpa using ht); exact hq))
  have HB : Hid (∀ b w', Ext w w' → RoomAt w' b p k low n → _) := fun b w' (h1 : Ext w w') (h2 : RoomAt w' b p k low n) => normal_el n b bo xss.length mc (vecs (p := p) (k := k) (low := low) xss) w' h2 hR.n1 hR.n6 (vecs_zero hq) (vecs_length xss) (by omega) (by rw [vecs_rows hq]; exact hx.ext h1)
  obtain ⟨S, hS⟩ : ∃ S, Nul n (Span (vecs (p := p) (k := k) (low := low) xss)) = S := ⟨_, rfl⟩
  obtain ⟨m, hm⟩ : ∃ m, xss.length = m := ⟨_, rfl⟩
  unfold SaysBasis
  rw [hm] at HW HXB HB ⊢
  rw [hS] at HB ⊢
  clear hP hr hx hbig hq hS hm hR
  go_enter Tryd.func13, Tryd.ntmps13
  go_wp2_with fail
  refine Calls.mono HW.out ?_
  rintro e w1 ⟨r, rfl, hra, hx1⟩
  have HX1 := Lib.hid (HXB.out.trans hx1)
  have HB1 := Lib.hid (HB.out r w1 HX1.out hra)
  clear hx1 hra
  go_wp2_with fail
  refine Calls.mono HB1.out ?_
  rintro e w2 ⟨ro, rl, rc, out, rfl, h1, h2, h3, h4⟩
  have HE := Lib.hid (And.intro h1 (And.intro h2 (And.intro h3 (HX1.out.trans h4))))
  clear h1 h2 h3 h4
  go_wp2
  exact bodyPost_ret (v := .tuple #[.slice ro rl rc, .int .i64 0]) (by simp [results, Tryd.results13, go_sem]) rfl ⟨ro, rl, rc, out, rfl, HE.out⟩
end

end Go.Proofs.YthkafhmciapipaaDoor

/- field.Least(3, 1) is the field of three elements. Condition: primes. -/
namespace Go.Proofs.YthkafhmciapipaaDoor
open Go.RowKit

set_option maxHeartbeats 2000000 in
theorem least31 (w : World) (hP : Primes w) :
    Calls Tryd.prog 24 #[.int .i64 3, .int .i64 1] w fun e w' => ∃ ao cap, e = .returned (.tuple #[.agg #[.int .i64 3, .int .i64 1, .slice ao 1 cap], .int .i64 0]) ∧ Reads w' ao (ints [0]) ∧ Ext w w' := by
  have E0 : Hid (Ext w (w.alloc (.cells #[.int .i64 0, .int .i64 0, .slice none 0 0] 29))) := ext_box _ _ _
  have F0 := Lib.hid (Blk.new w #[.int .i64 0, .int .i64 0, .slice none 0 0] 29)
  have HO := Lib.hid (order_any 3 1 _ (hP.ext E0.out))
  rw [show ordF 3 1 = 3 from by decide +kernel] at HO
  have HD : Hid (∀ w', Calls Tryd.prog 41 #[.int .i64 3, .int .i64 0] w' fun e w'' => e = .returned (.agg #[.int .i64 0, .int .i64 0, .int .i64 0, .int .i64 0, .int .i64 0, .int .i64 0, .int .i64 0]) ∧ Ext w' w'') := fun w' => digits_any 3 0 w' (by omega) (by omega) (by omega)
  have HI : Hid (∀ w', Calls Tryd.prog 42 #[.int .i64 3, .int .i64 1, .agg #[.int .i64 0, .int .i64 0, .int .i64 0, .int .i64 0, .int .i64 0, .int .i64 0, .int .i64 0]] w' fun e w'' => e = .returned (.bool true) ∧ Ext w' w'') := fun w' => irreducible_any 3 1 (fun _ => 0) w' (by omega) (by omega) (by omega) (by omega) (by omega) (fun _ => ⟨Int.le_refl 0, show (0 : Int) < 3 by omega⟩)
  clear hP
  go_enter Tryd.func24, Tryd.ntmps24
  go_wp2_with fail
  obtain ⟨w0, hw0⟩ : ∃ w0, w0 = w.alloc (.cells #[.int .i64 0, .int .i64 0, .slice none 0 0] 29) := ⟨_, rfl⟩
  have hs0 : w0.heap.size = w.heap.size + 1 := by rw [hw0]; simp
  rw [← hw0] at HO E0 F0 ⊢
  clear hw0
  refine Calls.mono HO.out ?_
  rintro e w1 ⟨rfl, rfl⟩
  clear HO
  go_wp2
  go_loopw [20] (fun x wr => x = .int .i64 0 ∧ w0 = wr) (fun _ _ => 0)
  case atStart => exact ⟨rfl, rfl⟩
  case round =>
    obtain ⟨rfl, rfl⟩ := hrel
    go_wp2_with fail
    refine Calls.mono (HD.out _) ?_
    rintro e w2 ⟨rfl, hx2⟩
    have E2 := Lib.hid (E0.out.trans hx2)
    have F2 := Lib.hid (F0.out.ext hx2)
    have P2 := Lib.hid (Blk.new w2 #[.int .i64 0, .int .i64 0, .int .i64 0, .int .i64 0, .int .i64 0, .int .i64 0, .int .i64 0] 66)
    clear hx2
    have k2 := And.intro (P2.out.c 0 _ rfl) (And.intro (P2.out.c 1 _ rfl) (And.intro (P2.out.c 2 _ rfl) (And.intro (P2.out.c 3 _ rfl) (And.intro (P2.out.c 4 _ rfl) (And.intro (P2.out.c 5 _ rfl) (P2.out.c 6 _ rfl))))))
    go_wp2_with fail
    refine Calls.mono (HI.out _) ?_
    rintro e w3 ⟨rfl, hx3⟩
    have F3 := Lib.hid ((F2.out.alloc (.cells #[.int .i64 0, .int .i64 0, .int .i64 0, .int .i64 0, .int .i64 0, .int .i64 0, .int .i64 0] 66)).ext hx3)
    have P3 := Lib.hid (P2.out.ext hx3)
    have E3 := Lib.hid ((E2.out.alloc (.cells #[.int .i64 0, .int .i64 0, .int .i64 0, .int .i64 0, .int .i64 0, .int .i64 0, .int .i64 0] 66)).trans hx3)
    have C3 : Hid (∀ j u, (ints [0])[j]? = some u → (w3.alloc (.cells #[] 3)).cell? ⟨w2.heap.size, 0 + j, none⟩ = some u) := fun j u hu => by
      match j, hu with
      | 0, hu => simp [ints] at hu; subst hu; exact (P3.out.alloc _).c 0 _ rfl
    clear hx3 k2
    go_wp2_with (at_builtin; refine wpList_appList eInt rfl (.tmp 32) (.tmp 34) rfl w3.heap.size (by rfl) (RowOf.lit 3 w3 #[] (by decide)) (by rfl) (m := 1) (ys := ints [0]) rfl C3.out (ints_oneCell' [0]) (by simp) (by simp) ?_; intro ao4 cap4 w4 hr4 hg4 hb4; have HR4 : Hid (RowOf 3 w4 w3.heap.size ao4 1 cap4 (ints [0])) := Lib.hid hr4; have HX4 := Lib.hid (hb4 _ _ ((Ext.refl w3).alloc (.cells #[] 3)) (Nat.le_refl _)); clear hr4 hg4 hb4; have F4 := Lib.hid (F3.out.ext HX4.out); have k4 := F4.out.three; have k5 := F4.out.f; have hsz := F3.out.lt)
    have HE := Lib.hid ((E3.out.trans HX4.out))
    have HRD : Hid (Reads (((w4.setCell ⟨w.heap.size, 0, none⟩ (.int .i64 3)).setCell ⟨w.heap.size, 1, none⟩ (.int .i64 1)).setCell ⟨w.heap.size, 2, none⟩ (.slice ao4 1 cap4)) ao4 (ints [0])) := (((HR4.out.beside ⟨w.heap.size, 0, none⟩ hsz _).beside ⟨w.heap.size, 1, none⟩ hsz _).beside ⟨w.heap.size, 2, none⟩ hsz _).reads
    have HB := Lib.hid (((F4.out.set 0 (.int .i64 3)).set 1 (.int .i64 1)).set 2 (.slice ao4 1 cap4))
    have k6 := HB.out.c 0 (.int .i64 3) rfl
    have k7 := HB.out.c 1 (.int .i64 1) rfl
    have k8 := HB.out.c 2 (.slice ao4 1 cap4) rfl
    go_wp2
    refine bodyPost_ret (v := .tuple #[.agg #[.int .i64 3, .int .i64 1, .slice ao4 1 cap4], .int .i64 0]) (by simp [results, Tryd.results24, go_sem, k6, k7, k8]) rfl ⟨ao4, cap4, rfl, HRD.out, ((HE.out.set (Nat.le_refl _) _).set (Nat.le_refl _) _).set (Nat.le_refl _) _⟩

end Go.Proofs.YthkafhmciapipaaDoor
