/- What is known of a field that comes in as an argument. No conditions. -/
import Derived.Test.YtnhdngnolepkcaaDoorJmnophcmkpd
import Derived.Lib.SmallJoins
import Derived.Test.YtnhdngnolepkcaaDoorJpoobehflpg
import Derived.Deep.Matrix
import Derived.Test.YtnhdngnolepkcaaDoorJgcbbhaijld
import Derived.Test.YtnhdngnolepkcaaDoorJebjdfmdajh
import Derived.Test.YtnhdngnolepkcaaDoorJdggimaocoa
namespace Go.Proofs.YtnhdngnolepkcaaDoor
set_option maxRecDepth 100000
open Go.ChangeShapes Go.WideShapes Go.ChangeAt Go.RowKit Go.Joins

theorem open_fieldArg {H : Type} {enc : TypeId × Value → H} {W : World} {base : Nat} {v : Value} {d : DataW H} {p : List MemPlace}
    (hv : Value.okWide Tryd.prog W .any base 24 v) (h : DataW.Trod enc Tryd.prog W 0 (fun _ => true) true 24 v d p) :
    ∃ (m k : Int) (ao : Option Addr) (n cap : Nat) (xs : List Int), v = .agg #[.int .i64 m, .int .i64 k, .slice ao n cap] ∧ IntsArg W ao n cap xs := by
  obtain ⟨c0, c1, c2, y0, y1, y2, m, rfl, rfl, rfl, h0, h1, h2⟩ := open_agg3 Tryd.underlying24 (by kernel_rfl) (by kernel_rfl) hv h
  obtain ⟨a, e0, _, _⟩ := DataW.trod_int Tryd.underlying3 h0
  obtain ⟨b, e1, _, _⟩ := DataW.trod_int Tryd.underlying3 h1
  obtain ⟨ao, n, cap, xs, rfl, hx⟩ := intsArg_of_trod h2
  simp at e0 e1
  subst e0 e1
  exact ⟨a, b, ao, n, cap, xs, rfl, hx⟩

end Go.Proofs.YtnhdngnolepkcaaDoor

/- What is known of a list of lists of ints that comes in as an argument. No conditions. -/
namespace Go.Proofs.YtnhdngnolepkcaaDoor
set_option maxRecDepth 100000
open Go.ChangeShapes Go.WideShapes Go.ChangeAt Go.RowKit

/-- A list of lists that came in. -/
structure ListsArg (w : World) (ao : Option Addr) (n cap : Nat) (xss : List (List Int)) : Prop where
  len : xss.length = n
  big : n ≤ maxLen
  reads : ReadsL w ao xss
  rng : ∀ xs ∈ xss, ∀ x ∈ xs, -9223372036854775808 ≤ x ∧ x ≤ 9223372036854775807

theorem open_listsArg {H : Type} {enc : TypeId × Value → H} {W : World} {base : Nat} {v : Value} {d : DataW H} {p : List MemPlace}
    (hv : Value.okWide Tryd.prog W .any base 25 v) (h : DataW.Trod enc Tryd.prog W 0 (fun _ => true) true 25 v d p) :
    ∃ ao n cap xss, v = .slice ao n cap ∧ ListsArg W ao n cap xss := by
  obtain ⟨a0, len0, cap0, rfl⟩ := okWide_slice Tryd.underlying25 hv
  obtain ⟨fuel, hf⟩ := h
  have hf' : DataW.trod enc Tryd.prog W 0 (fun _ => true) true fuel 25 [.slice a0 len0 cap0] = some (d, p) := by simpa [Value.cells] using hf
  rcases Go.Deep.open_int_rows Tryd.underlying25 Tryd.underlying22 Tryd.underlying3 (by kernel_rfl) (by kernel_rfl) hf' with ⟨hcs, _⟩ | ⟨a, len, cap, A, L, C, Z, hcs, _, hl, hm, _, hr⟩
  · obtain ⟨rfl, rfl, rfl⟩ : a0 = none ∧ len0 = 0 ∧ cap0 = 0 := by simpa using hcs
    exact ⟨none, 0, 0, [], rfl, rfl, by decide, ReadsL.nil _ _, by simp⟩
  · obtain ⟨rfl, rfl, rfl⟩ : a0 = some a ∧ len0 = len ∧ cap0 = cap := by simpa using hcs
    have hrow : ∀ r, r < len0 → row ((List.range len0).map fun r => (Z r).take (L r)) r = (Z r).take (L r) := fun r hr' => by
      rw [row_eq _ _ (by simpa using hr')]; simp
    refine ⟨some a, len0, cap0, (List.range len0).map fun r => (Z r).take (L r), rfl, by simp, by omega, ⟨(List.range len0).map fun r => .slice (A r) (L r) (C r), reads_of_add fun i u hu => ?_, by simp, fun j v hv => ?_⟩, fun xs hxs x hx => ?_⟩
    · have hi : i < len0 := by have := (List.getElem?_eq_some_iff.1 hu).1; simpa using this
      rw [(hr i (by omega)).1, ← hu]
      simp [hi]
    · have hj : j < len0 := by have := (List.getElem?_eq_some_iff.1 hv).1; simpa using this
      obtain ⟨h1, h2, h3, h4, h5, h6, h7⟩ := hr j (by omega)
      rw [hrow j hj]
      have hlen : ((Z j).take (L j)).length = L j := by simp; omega
      refine ⟨A j, C j, by rw [hlen]; simpa [hj] using hv.symm, ?_, by rw [hlen]; omega⟩
      rcases hA : A j with _ | a'
      · have := h6 hA
        have h0 : L j = 0 := by omega
        rw [h0]; exact .inl rfl
      · refine reads_of_add fun i u hu => ?_
        have hi : i < L j := by have := (List.getElem?_eq_some_iff.1 hu).1; simp [ints] at this; omega
        rw [(h7 a' hA).2 i (by omega), ← hu]
        simp [ints, hi, List.getElem?_eq_getElem (show i < (Z j).length by omega)]
    · obtain ⟨r, hr1, rfl⟩ := List.mem_map.1 hxs
      obtain ⟨h1, h2, h3, h4, h5, h6, h7⟩ := hr r (by have := List.mem_range.1 hr1; omega)
      exact rng_of_wf (h5 x (List.mem_of_mem_take hx))

end Go.Proofs.YtnhdngnolepkcaaDoor

/- What ArrayMakes returns. Condition: primes. -/
namespace Go.Proofs.YtnhdngnolepkcaaDoor
open Go.RowKit
set_option linter.unusedVariables false
set_option linter.unusedSectionVars false

section
variable {p k : Nat} {low : List Int} [hI : FldP p k low]

/-- How many there are. -/
theorem card_codes {n : Nat} {V : List (Nat → El p k low)} (hz : Zero n V) : Card (Span V) (codesR (linT n V) 0 ((p ^ k) ^ n)).length := by
  refine ⟨(codesR (linT n V) 0 ((p ^ k) ^ n)).map (vOf n), ?_, fun x => ?_, by rw [List.length_map]⟩
  · refine List.Pairwise.map _ (fun a b h => h) (List.Pairwise.imp_of_mem (fun {a b} ha hb h e => h ?_) (codesR_nodup (linT n V) ((p ^ k) ^ n)))
    exact vOf_inj (mem_codesR.1 ha).1 (mem_codesR.1 hb).1 e
  · rw [List.mem_map]
    constructor
    · rintro ⟨c, hc, rfl⟩
      exact linT_iff.1 (mem_codesR.1 hc).2
    · intro hx
      have hsup := (span_sub hz).sup x hx
      refine ⟨cOf n x, mem_codesR.2 ⟨cOf_lt n x, ?_⟩, vOf_cOf hsup⟩
      rw [linT_iff, vOf_cOf hsup]; exact hx

theorem linear_rows (n : Nat) (ao bo : Option Addr) (cap mc : Nat) (xss : List (List Int)) (w : World) (hP : Primes w) (hR : IsRoom p k low n) (hr : Reads w ao (ints low)) (hx : ReadsL w bo xss) (hq : rowsFault (p ^ k) n xss = 0) (c : Int) (R : List (List Int))
    (hc : (128 < (codeRows (p ^ k) n (linT n (vecs (p := p) (k := k) (low := low) xss)) ((p ^ k) ^ n)).length ∧ c = 3 ∧ R = []) ∨ ((codeRows (p ^ k) n (linT n (vecs (p := p) (k := k) (low := low) xss)) ((p ^ k) ^ n)).length ≤ 128 ∧ c = 0 ∧ R = codeRows (p ^ k) n (linT n (vecs (p := p) (k := k) (low := low) xss)) ((p ^ k) ^ n))) :
    Calls Tryd.prog 9 #[.agg #[.int .i64 p, .int .i64 k, .slice ao k cap], .int .i64 n, .slice bo xss.length mc] w fun e w' => ∃ oo on oc, e = .returned (.tuple #[.slice oo on oc, .int .i64 c]) ∧ ReadsL w' oo R ∧ R.length = on ∧ Ext w w' := by
  refine (linear_ok n ao bo cap mc xss w hP hR hr hx hq).mono ?_
  rintro e w' ⟨hx', d, _, hd, h⟩
  have hcd := hd.unique (card_codes (vecs_zero hq))
  rw [← codeRows_len (p ^ k) n] at hcd
  rcases h with ⟨h1, rfl⟩ | ⟨h1, oo, on, oc, rfl, h2, h3⟩
  · rcases hc with ⟨_, rfl, rfl⟩ | ⟨g, _, _⟩
    · exact ⟨none, 0, 0, rfl, ReadsL.nil _ _, rfl, hx'⟩
    · omega
  · rcases hc with ⟨g, _, _⟩ | ⟨_, rfl, rfl⟩
    · omega
    · exact ⟨oo, on, oc, rfl, h2, by rw [codeRows_len]; exact h3, hx'⟩

theorem linearOf_rows (n : Nat) (ao uo : Option Addr) (cap tcap : Nat) (V : List (Nat → El p k low)) (T : Nat → Bool) (w : World) (hR : IsRoom p k low n) (hr : Reads w uo (boolL T ((p ^ k) ^ n))) (hT : Marks n T (Span V)) (c : Int) (R : List (List Int))
    (hc : (128 < (codeRows (p ^ k) n (linT n V) ((p ^ k) ^ n)).length ∧ c = 3 ∧ R = []) ∨ ((codeRows (p ^ k) n (linT n V) ((p ^ k) ^ n)).length ≤ 128 ∧ c = 0 ∧ R = codeRows (p ^ k) n (linT n V) ((p ^ k) ^ n))) :
    Calls Tryd.prog 8 #[.agg #[.int .i64 p, .int .i64 k, .slice ao k cap], .int .i64 n, .slice uo ((p ^ k) ^ n) tcap] w fun e w' => ∃ oo on oc, e = .returned (.tuple #[.slice oo on oc, .int .i64 c]) ∧ ReadsL w' oo R ∧ R.length = on ∧ Ext w w' := by
  have he : codeRows (p ^ k) n T ((p ^ k) ^ n) = codeRows (p ^ k) n (linT n V) ((p ^ k) ^ n) := by
    unfold codeRows
    rw [codesR_congr fun c hc => Bool.eq_iff_iff.2 ((hT c hc).trans linT_iff.symm)]
  refine (refLinearOf_any p k n ao uo cap tcap low T w hR.fld hR.n1 hR.n6 hR.big hr).mono ?_
  rintro e w' ⟨hx', h⟩
  rw [he] at h
  rcases h with ⟨h1, rfl⟩ | ⟨h1, oo, oc, rfl, h2⟩
  · rcases hc with ⟨_, rfl, rfl⟩ | ⟨g, _, _⟩
    · exact ⟨none, 0, 0, rfl, ReadsL.nil _ _, rfl, hx'⟩
    · omega
  · rcases hc with ⟨g, _, _⟩ | ⟨_, rfl, rfl⟩
    · omega
    · exact ⟨oo, _, oc, rfl, h2, rfl, hx'⟩
end

/-- ArrayMakes at any input. -/
theorem arrayMakes_any (p k : Int) (ao : Option Addr) (len cap : Nat) (low : List Int) {w : World} (hf : IntsArg w ao len cap low) (n : Int) (_ : -9223372036854775808 ≤ n ∧ n ≤ 9223372036854775807)
    (bo : Option Addr) (m mc : Nat) (xss : List (List Int)) (hx : ListsArg w bo m mc xss) (so : Option Addr) (sn sc : Nat) (sqs : List (Int × List Int)) (hs : SqsArg w so sn sc sqs) (hP : Primes w) :
    Calls Tryd.prog 3 #[.agg #[.int .i64 p, .int .i64 k, .slice ao len cap], .int .i64 n, .slice bo m mc, .slice so sn sc] w fun e w' => e = .returned (.bool true) ∧ Below w.heap.size w w' := by
  obtain rfl := hx.len
  have hs1 := fun W (h : Ext w W) => arraySquares_all so sn sc sqs W hs.len hs.big (hs.reads.ext h)
  have hs2 := fun W (h : Ext w W) => refSquares_all so sn sc sqs W hs.len hs.big (hs.reads.ext h)
  have hroom := fun W (h : Ext w W) => refRoomFault_any p k ao len cap low n W hf.len (h.reads hf.reads)
  by_cases h0 : withAll p k low n [(bo, mc, xss)] = 0
  · obtain ⟨P, K, N, rfl, rfl, rfl, hR, hq⟩ := withAll_is h0
    haveI : FldP P K low := ⟨hR.fld⟩
    obtain rfl : len = K := by rw [← hf.len]; exact hR.fld.len
    have hq : rowsFault (P ^ len) N xss = 0 := hq (bo, mc, xss) (by simp)
    have hbig : xss.length ≤ 12 := (rowsFault_zero hq).1
    rw [hR.fault] at hroom
    have hra := fun W (h : Ext w W) => refRowsFault_any P len N ao bo len cap xss.length mc low xss W hR.fld hR.n6 rfl hx.big (hx.reads.ext h)
    rw [hq] at hra
    obtain ⟨c, R, hc⟩ : ∃ (c : Int) (R : List (List Int)), (128 < (codeRows (P ^ len) N (linT N (vecs (p := P) (k := len) (low := low) xss)) ((P ^ len) ^ N)).length ∧ c = 3 ∧ R = []) ∨ ((codeRows (P ^ len) N (linT N (vecs (p := P) (k := len) (low := low) xss)) ((P ^ len) ^ N)).length ≤ 128 ∧ c = 0 ∧ R = codeRows (P ^ len) N (linT N (vecs (p := P) (k := len) (low := low) xss)) ((P ^ len) ^ N)) := by
      by_cases h : 128 < (codeRows (P ^ len) N (linT N (vecs (p := P) (k := len) (low := low) xss)) ((P ^ len) ^ N)).length
      · exact ⟨3, [], .inl ⟨h, rfl, rfl⟩⟩
      · exact ⟨0, _, .inr ⟨by omega, rfl, rfl⟩⟩
    have hRl : R.length ≤ 128 := by
      rcases hc with ⟨_, _, rfl⟩ | ⟨h, _, rfl⟩
      · simp
      · exact h
    refine makes_walk P len ao bo so len cap xss.length mc sn sc N sqs w 0 0 c R hRl (.inr (.inr ⟨rfl, rfl⟩)) hroom (fun _ => hra) (fun _ _ W h => ?_) (fun W h => ?_) hs1 hs2
    · refine (span_ref (p := P) (k := len) (low := low) N xss.length ao bo cap mc (vecs xss) W hR (h.reads hf.reads) (vecs_zero hq) (vecs_length xss) (by omega) (by rw [vecs_rows hq]; exact hx.reads.ext h)).mono ?_
      rintro e w' ⟨g, T, rfl, ht, hm⟩
      exact ⟨_, _, _, rfl, ht.ext, fun W' h' => linearOf_rows N ao _ cap _ (vecs xss) T W' hR (h'.reads ht.reads) hm c R hc⟩
    · exact linear_rows N ao bo cap mc xss W (hP.ext h) hR (h.reads hf.reads) (hx.reads.ext h) hq c R hc
  · have hl := fun W (h : Ext w W) => linear_no p k ao bo len cap mc low n xss W (hP.ext h) hf.len (h.reads hf.reads) hx.big (hx.reads.ext h) h0
    have hl' : ∀ W, Ext w W → Calls Tryd.prog 9 #[.agg #[.int .i64 p, .int .i64 k, .slice ao len cap], .int .i64 n, .slice bo xss.length mc] W fun e w' => ∃ oo on oc, e = .returned (.tuple #[.slice oo on oc, .int .i64 (withAll p k low n [(bo, mc, xss)])]) ∧ ReadsL w' oo [] ∧ ([] : List (List Int)).length = on ∧ Ext W w' := fun W h => (hl W h).mono fun e w' ⟨h1, h2⟩ => ⟨none, 0, 0, h1, ReadsL.nil _ _, rfl, h2⟩
    clear hl
    by_cases hr : roomFault p k low n = 0
    · obtain ⟨P, K, N, rfl, rfl, rfl, hR⟩ := roomFault_zero hr
      have hra := fun W (h : Ext w W) => refRowsFault_any P K N ao bo len cap xss.length mc low xss W hR.fld hR.n6 rfl hx.big (hx.reads.ext h)
      have he : withAll P K low N [(bo, mc, xss)] = rowsFault (P ^ K) N xss := by
        unfold withAll
        rw [if_neg (fun h => h hR.fault), hR.fld.fault.2]
        show allFault (P ^ K) N [(bo, mc, xss)] = _
        unfold allFault allFault
        by_cases h2 : rowsFault (P ^ K) N xss = 0
        · simp [h2]
        · simp [h2]
      rw [hr] at hroom
      rw [he] at hl' h0
      exact makes_walk P K ao bo so len cap xss.length mc sn sc N sqs w 0 _ _ [] (by simp) (.inr (.inl ⟨rfl, h0, rfl, rfl⟩)) hroom (fun _ => hra) (fun _ h => absurd h h0) hl' hs1 hs2
    · have he : withAll p k low n [(bo, mc, xss)] = roomFault p k low n := by unfold withAll; rw [if_pos hr]
      rw [he] at hl' h0
      exact makes_walk p k ao bo so len cap xss.length mc sn sc n sqs w _ 0 _ [] (by simp) (.inl ⟨h0, rfl, rfl⟩) hroom (fun h => absurd h h0) (fun h => absurd h h0) hl' hs1 hs2

end Go.Proofs.YtnhdngnolepkcaaDoor
