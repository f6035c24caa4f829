/- What space.open answers at whatever comes; rows that are looked at. Condition: the variable of primes holds them. -/
import Derived.Test.YtnhdngnolepkcaaDoorJaoapmhdgmm
import Derived.Test.YtnhdngnolepkcaaDoorJpihnipoceb
import Derived.Deep.RegionHeld3
import Derived.Deep.DeepCutAuto
import Derived.BigQuiet
import Derived.Test.YtnhdngnolepkcaaDoorJmanplccnef
import Derived.Lib.SliceRun
import Derived.Deep.RegionLaw
namespace Go.Proofs.YtnhdngnolepkcaaDoor
open Go.RowKit

/-- What is wrong with a field and a length. -/
def roomFault (p k : Int) (low : List Int) (n : Int) : Int :=
  if fieldFault p k low ≠ 0 then fieldFault p k low else if n < 1 ∨ 6 < n then 1 else if 4096 < (ordF p k) ^ n.toNat then 3 else 0
/-- What is right. -/
structure IsRoom (p k : Nat) (low : List Int) (n : Nat) : Prop where
  fld : IsField p k low
  n1 : 1 ≤ n
  n6 : n ≤ 6
  big : (p ^ k) ^ n ≤ 4096
theorem roomFault_zero {p k : Int} {low : List Int} {n : Int} (h : roomFault p k low n = 0) : ∃ P K N : Nat, p = P ∧ k = K ∧ n = N ∧ IsRoom P K low N := by
  unfold roomFault at h
  by_cases h0 : fieldFault p k low = 0
  · rw [if_neg (fun h' => h' h0)] at h
    by_cases h1 : n < 1 ∨ 6 < n
    · rw [if_pos h1] at h; omega
    · rw [if_neg h1] at h
      obtain ⟨P, K, rfl, rfl, hF, ho⟩ := fieldFault_zero h0
      rw [ho] at h
      by_cases h2 : 4096 < (P ^ K) ^ n.toNat
      · rw [if_pos h2] at h; omega
      · obtain ⟨N, rfl⟩ : ∃ N : Nat, n = N := ⟨n.toNat, by omega⟩
        exact ⟨P, K, N, rfl, rfl, rfl, hF, by omega, by omega, by simpa using h2⟩
  · rw [if_pos h0] at h; exact absurd h h0
theorem IsRoom.fault {p k : Nat} {low : List Int} {n : Nat} (h : IsRoom p k low n) : roomFault p k low n = 0 := by
  unfold roomFault
  rw [if_neg (fun h' => h' h.fld.fault.1), if_neg (by have := h.n1; have := h.n6; omega), h.fld.fault.2]
  have := h.big
  rw [if_neg (by simpa using this)]

/-- A pointer at a room. -/
def RoomPtr (w w' : World) (p k : Int) (low : List Int) (n : Int) (c : Int) (v : Option Addr) : Prop :=
  (c ≠ 0 → v = none) ∧ (c = 0 → ∃ (P K N b : Nat), p = P ∧ k = K ∧ n = N ∧ IsRoom P K low N ∧ v = some ⟨b, 0, none⟩ ∧ RoomAt w' b P K low N ∧ w.heap.size ≤ b)

theorem open_any' (p k : Int) (ao : Option Addr) (len cap : Nat) (low : List Int) (n : Int) (w : World) (hP : Primes w) (hl : low.length = len) (hr : Reads w ao (ints low)) :
    Calls Tryd.prog 57 #[.agg #[.int .i64 p, .int .i64 k, .slice ao len cap], .int .i64 n] w fun e w' => ∃ v, e = .returned (.tuple #[.pointer v, .int .i64 (roomFault p k low n)]) ∧ RoomPtr w w' p k low n (roomFault p k low n) v ∧ Ext w w' := by
  by_cases h0 : fieldFault p k low = 0
  · obtain ⟨P, K, rfl, rfl, hF, ho⟩ := fieldFault_zero h0
    by_cases h1 : n < 1 ∨ 6 < n
    · have hf : roomFault P K low n = 1 := by unfold roomFault; rw [if_neg (fun h' => h' h0), if_pos h1]
      rw [hf]
      exact (open_range P K ao len cap low n w hP hl hr h0 h1).mono fun e w' ⟨he, hx⟩ => ⟨none, he, ⟨fun _ => rfl, fun h => absurd h (by decide)⟩, hx⟩
    · obtain ⟨N, rfl⟩ : ∃ N : Nat, n = N := ⟨n.toNat, by omega⟩
      obtain rfl : len = K := by rw [← hl]; exact hF.len
      refine (open_is P len N ao cap low w hP hF hr (by omega) (by omega)).mono fun e w' ⟨g1, g2⟩ => ?_
      by_cases h2 : 4096 < (P ^ len) ^ N
      · have hf : roomFault P len low N = 3 := by unfold roomFault; rw [if_neg (fun h' => h' h0), if_neg h1, ho, if_pos (by simpa using h2)]
        rw [hf]
        obtain ⟨he, hx⟩ := g1 h2
        exact ⟨none, he, ⟨fun _ => rfl, fun h => absurd h (by decide)⟩, hx⟩
      · have hR : IsRoom P len low N := ⟨hF, by omega, by omega, by omega⟩
        rw [hR.fault]
        obtain ⟨b, he, hb, hw, hx⟩ := g2 (by omega)
        exact ⟨some ⟨b, 0, none⟩, he, ⟨fun h => absurd rfl h, fun _ => ⟨P, len, N, b, rfl, rfl, rfl, hR, rfl, hb, hw⟩⟩, hx⟩
  · have hf : roomFault p k low n = fieldFault p k low := by unfold roomFault; rw [if_pos h0]
    rw [hf]
    exact (open_no p k ao len cap low n w hP hl hr h0).mono fun e w' ⟨he, hx⟩ => ⟨none, he, ⟨fun _ => rfl, fun h => absurd h h0⟩, hx⟩

/-- What is wrong with a row, with rows. -/
def rowFault (q n : Nat) (xs : List Int) : Int := if xs.length ≠ n then 2 else if xs.any (badDg q) = true then 1 else 0
def rowsFault1 (q n : Nat) : List (List Int) → Int
  | [] => 0
  | xs :: r => if rowFault q n xs ≠ 0 then rowFault q n xs else rowsFault1 q n r
def rowsFault (q n : Nat) (xss : List (List Int)) : Int := if 12 < xss.length then 3 else rowsFault1 q n xss

set_option maxHeartbeats 1000000 in
theorem checkRow_pred (p k n b r : Nat) (low : List Int) (xs : List Int) (w : World) (hb : RoomAt w b p k low n) (hr : Blk w r #[.pointer (some ⟨b, 0, none⟩)] 63) :
    PredOn 65 #[.pointer (some ⟨r, 0, none⟩)] xs (badDg (p ^ k : Nat)) w := by
  intro x hx w' hd
  obtain ⟨fo, mo, so, io, fc, mc, sc, ic, h1, h2, h3, h4⟩ := hb.ex
  have k1 := (hr.drawn hd).one
  have k2 := (h1.drawn hd).eight
  obtain ⟨q, hq⟩ : ∃ q, p ^ k = q := ⟨_, rfl⟩
  rw [hq] at k2
  rw [hq]
  clear hd h1 h2 h3 h4 hb hr hx
  have hcs : decide (x < 0) = true ∧ badDg q x = true ∨ (decide (x < 0) = false ∧ decide ((q : Int) ≤ x) = badDg q x) := by
    unfold badDg
    by_cases h : x < 0
    · exact .inl ⟨decide_eq_true h, by rw [decide_eq_true h]; rfl⟩
    · exact .inr ⟨decide_eq_false h, by rw [decide_eq_false h]; rfl⟩
  obtain ⟨v, hv⟩ : ∃ v, badDg q x = v := ⟨_, rfl⟩
  rw [hv] at hcs ⊢
  clear hv
  rcases hcs with ⟨d1, rfl⟩ | ⟨d1, d2⟩
  · go_enter Tryd.func65, Tryd.ntmps65
    go_wp2
    go_ret
    exact ⟨rfl, Drawn.refl _⟩
  · go_enter Tryd.func65, Tryd.ntmps65
    go_wp2
    go_ret
    exact ⟨by rw [← d2]; rfl, Drawn.refl _⟩

set_option maxHeartbeats 1000000 in
theorem checkRow_any (p k n b : Nat) (low : List Int) (ao : Option Addr) (len cap : Nat) (xs : List Int) (w : World) (hb : RoomAt w b p k low n) (hl : xs.length = len) (hbig : len ≤ maxLen) (hr : Reads w ao (ints xs)) :
    Calls Tryd.prog 45 #[.pointer (some ⟨b, 0, none⟩), .slice ao len cap] w fun e w' => e = .returned (.int .i64 (rowFault (p ^ k) n xs)) ∧ Ext w w' := by
  have E0 := Lib.hid ((Ext.refl w).alloc (.cells #[.pointer (some ⟨b, 0, none⟩)] 63))
  have X0 := Lib.hid (Blk.new w #[.pointer (some ⟨b, 0, none⟩)] 63)
  have HB := Lib.hid (hb.ext E0.out)
  have HC := Lib.hid (containsFunc_any 65 #[.pointer (some ⟨w.heap.size, 0, none⟩)] ao len cap xs (badDg (p ^ k : Nat)) _ hl hbig (E0.out.reads hr) (checkRow_pred p k n b w.heap.size low xs _ HB.out X0.out) (fun _ _ => rfl))
  obtain ⟨fo, mo, so, io, fc, mc, sc, ic, h1, h2, h3, h4⟩ := HB.out.ex
  have k1 := h1.eight
  have k0 := X0.out.one
  have HN : Hid (rowFault (p ^ k) n xs = if (len : Int) ≠ n then 2 else if xs.any (badDg (p ^ k : Nat)) = true then 1 else 0) := by
    show _ = _
    unfold rowFault
    rw [hl]
    have h : (len ≠ n) ↔ ((len : Int) ≠ (n : Int)) := by omega
    simp only [h]
  obtain ⟨c, hc⟩ : ∃ c, xs.any (badDg (p ^ k : Nat)) = c := ⟨_, rfl⟩
  rw [hc] at HC HN
  rw [HN.out]
  unfold maxLen at hbig
  clear hb hl hr h1 h2 h3 h4 hc
  by_cases e : (len : Int) = n
  · have b1 : ((len : Int) != (n : Int)) = false := by rw [e]; simp
    rw [if_neg (fun h => h e)]
    clear e HN
    cases c with
    | true =>
      go_enter Tryd.func45, Tryd.ntmps45
      go_wp2_with fail
      refine Calls.mono HC.out ?_
      rintro e w1 ⟨rfl, hd⟩
      have HD := Lib.hid hd
      clear hd
      go_wp2
      go_ret
      exact ⟨rfl, E0.out.drawn HD.out⟩
    | false =>
      go_enter Tryd.func45, Tryd.ntmps45
      go_wp2_with fail
      refine Calls.mono HC.out ?_
      rintro e w1 ⟨rfl, hd⟩
      have HD := Lib.hid hd
      clear hd
      go_wp2
      go_ret
      exact ⟨rfl, E0.out.drawn HD.out⟩
  · have b1 : ((len : Int) != (n : Int)) = true := by rw [bne_iff_ne]; exact e
    rw [if_pos e]
    clear e HN
    go_enter Tryd.func45, Tryd.ntmps45
    go_wp2
    go_ret
    exact ⟨rfl, E0.out⟩

/-- The fault of rows, as far as a place. -/
theorem rowsFault1_hit {q n : Nat} : ∀ (xss : List (List Int)) (j : Nat), j < xss.length → (∀ i, i < j → rowFault q n (row xss i) = 0) → rowFault q n (row xss j) ≠ 0 → rowsFault1 q n xss = rowFault q n (row xss j)
  | xs :: r, 0, _, _, h => by
    have : row (xs :: r) 0 = xs := rfl
    rw [this] at h ⊢
    rw [rowsFault1, if_pos h]
  | xs :: r, j + 1, hj, ha, h => by
    have h0 := ha 0 (by omega)
    have : row (xs :: r) 0 = xs := rfl
    rw [this] at h0
    rw [rowsFault1, if_neg (fun h' => h' h0)]
    have : row (xs :: r) (j + 1) = row r j := by unfold row; rfl
    rw [this] at h ⊢
    exact rowsFault1_hit r j (by simpa using hj) (fun i hi => by have := ha (i + 1) (by omega); exact this) h
theorem rowsFault1_all {q n : Nat} : ∀ (xss : List (List Int)), (∀ i, i < xss.length → rowFault q n (row xss i) = 0) → rowsFault1 q n xss = 0
  | [], _ => rfl
  | xs :: r, ha => by
    have h0 := ha 0 (by simp)
    have : row (xs :: r) 0 = xs := rfl
    rw [this] at h0
    rw [rowsFault1, if_neg (fun h' => h' h0)]
    exact rowsFault1_all r fun i hi => ha (i + 1) (by simpa using hi)

set_option maxHeartbeats 1000000 in
theorem check_any (p k n b : Nat) (low : List Int) (ao : Option Addr) (len cap : Nat) (xss : List (List Int)) (w : World) (hb : RoomAt w b p k low n) (hl : xss.length = len) (hbig : len ≤ maxLen) (hr : ReadsL w ao xss) :
    Calls Tryd.prog 58 #[.pointer (some ⟨b, 0, none⟩), .slice ao len cap] w fun e w' => e = .returned (.int .i64 (rowsFault (p ^ k) n xss)) ∧ Ext w w' := by
  have HB := Lib.hid hb
  have HL := Lib.hid hl
  have HR := Lib.hid hr
  unfold maxLen at hbig
  have HU : Hid (rowsFault (p ^ k) n xss = if 12 < len then 3 else rowsFault1 (p ^ k) n xss) := by show _ = _; unfold rowsFault; rw [hl]
  rw [HU.out]
  clear hb hl hr
  by_cases h12 : 12 < len
  · have b1 : decide (12 < (len : Int)) = true := decide_eq_true (by omega)
    rw [if_pos h12]
    go_enter Tryd.func58, Tryd.ntmps58
    go_wp2
    go_ret
    exact ⟨rfl, Ext.refl _⟩
  · have b1 : decide (12 < (len : Int)) = false := decide_eq_false (by omega)
    rw [if_neg h12]
    go_enter Tryd.func58, Tryd.ntmps58
    go_wp2
    go_loopw [13] (fun x wr => ∃ j : Nat, j ≤ len ∧ x = .int .i64 j ∧ Ext w wr ∧ ∀ i, i < j → rowFault (p ^ k) n (row xss i) = 0) (fun x _ => len - (intOf x).toNat)
    case atStart => exact ⟨0, by omega, rfl, Ext.refl _, fun i hi => by omega⟩
    case round =>
      obtain ⟨j, hj, rfl, hx, ha⟩ := hrel
      have HX := Lib.hid hx
      have HA := Lib.hid ha
      clear hx ha
      by_cases hlt : j < len
      · obtain ⟨b', off, rfl, _, hrow⟩ := (ReadsL.ext HR.out HX.out).row (by rw [HL.out]; omega)
        obtain ⟨aj, cj, hc, hrd, hln⟩ := hrow j (by rw [HL.out]; exact hlt)
        have HJ := Lib.hid (checkRow_any p k n b low aj (row xss j).length cj (row xss j) wr (HB.out.ext HX.out) rfl hln hrd)
        obtain ⟨N, hN⟩ : ∃ N, (row xss j).length = N := ⟨_, rfl⟩
        rw [hN] at hc HJ
        have HZ : Hid (∀ v, rowFault (p ^ k) n (row xss j) = v → v ≠ 0 → rowsFault1 (p ^ k) n xss = v) := fun v hv h0 => by
          rw [rowsFault1_hit xss j (by rw [HL.out]; exact hlt) HA.out (by rw [hv]; exact h0), hv]
        obtain ⟨v, hv⟩ : ∃ v, rowFault (p ^ k) n (row xss j) = v := ⟨_, rfl⟩
        have HV := Lib.hid hv
        rw [hv] at HJ
        clear hrow hrd hln hN hv
        by_cases h0 : v = 0
        · have b2 : (v != 0) = false := by rw [h0]; rfl
          have H0 := Lib.hid h0
          clear h0
          go_wp2_with fail
          refine Calls.mono HJ.out ?_
          rintro e w2 ⟨rfl, hx2⟩
          have HX2 := Lib.hid (HX.out.trans hx2)
          clear hx2
          go_wp2
          go_roundw
          case rel => exact ⟨j + 1, by omega, by go_num, HX2.out, fun i hi => by
            rcases Nat.lt_succ_iff_lt_or_eq.1 hi with h | rfl
            · exact HA.out i h
            · rw [HV.out]; exact H0.out⟩
          case measure => simp [intOf]; omega
        · have b2 : (v != 0) = true := by rw [bne_iff_ne]; exact h0
          have HE := Lib.hid (HZ.out v HV.out h0)
          clear h0
          go_wp2_with fail
          refine Calls.mono HJ.out ?_
          rintro e w2 ⟨rfl, hx2⟩
          have HX2 := Lib.hid (HX.out.trans hx2)
          clear hx2
          go_wp2
          go_ret
          exact ⟨by rw [HE.out]; rfl, HX2.out⟩
      · obtain rfl : len = j := by omega
        have HE := Lib.hid (rowsFault1_all (q := p ^ k) (n := n) xss fun i hi => HA.out i (by rw [HL.out] at hi; exact hi))
        go_wp2
        go_ret
        exact ⟨by rw [HE.out]; rfl, HX.out⟩

end Go.Proofs.YtnhdngnolepkcaaDoor

/- Rows of elements: one times an element, one less another times an element. No conditions but the room. -/
namespace Go.Proofs.YtnhdngnolepkcaaDoor
open Go.RowKit

/-- The row of a function. -/
def nrow (f : Nat → Nat) (n : Nat) : List Int := tab (fun j => ((f j : Nat) : Int)) n
theorem nrow_length (f : Nat → Nat) (n : Nat) : (nrow f n).length = n := tab_length _ _
theorem nth_nrow (f : Nat → Nat) {n j : Nat} (h : j < n) : nth (nrow f n) j = (f j : Nat) := nth_tab _ _ _ h

/-- A row of a table of a room. -/
theorem RoomAt.mulAt {w : World} {b p k : Nat} {low : List Int} {n : Nat} (h : RoomAt w b p k low n) : ∃ (mo : Option Addr) (mc : Nat), w.cell? ⟨b, 5, none⟩ = some (.slice mo (p ^ k) mc) ∧
    ∀ a, a < p ^ k → ∃ (bm om : Nat) (ao : Option Addr) (ac : Nat), mo = some ⟨bm, om, none⟩ ∧ w.cell? ⟨bm, om + a, none⟩ = some (.slice ao (p ^ k) ac) ∧ ∀ c, c < p ^ k → ∃ (br or : Nat), ao = some ⟨br, or, none⟩ ∧ w.cell? ⟨br, or + c, none⟩ = some (.int .i64 (mulF p k (nth low) a c : Nat)) := by
  obtain ⟨fo, mo, so, io, fc, mc, sc, ic, h1, h2, h3, h4⟩ := h.ex
  refine ⟨mo, mc, h1.c 5 _ rfl, fun a ha => ?_⟩
  obtain ⟨bm, om, rfl, _, hr⟩ := h2.row (by rw [ltab_length]; omega)
  obtain ⟨ao, ac, hc, hrd, _⟩ := hr a (by rw [ltab_length]; exact ha)
  rw [row_ltab _ _ _ ha] at hc hrd
  have hl : (mulR p k low (p ^ k) a).length = p ^ k := tab_length _ _
  rw [hl] at hc
  refine ⟨bm, om, ao, ac, rfl, hc, fun c hc' => ?_⟩
  obtain ⟨br, or, rfl, _, hcell⟩ := Reads.int hrd (by rw [hl]; omega)
  refine ⟨br, or, rfl, ?_⟩
  have := hcell c (by rw [hl]; exact hc')
  rw [this]
  unfold mulR
  rw [nth_tab _ _ _ hc']
theorem RoomAt.addAt {w : World} {b p k : Nat} {low : List Int} {n : Nat} (h : RoomAt w b p k low n) : ∃ (mo : Option Addr) (mc : Nat), w.cell? ⟨b, 6, none⟩ = some (.slice mo (p ^ k) mc) ∧
    ∀ a, a < p ^ k → ∃ (bm om : Nat) (ao : Option Addr) (ac : Nat), mo = some ⟨bm, om, none⟩ ∧ w.cell? ⟨bm, om + a, none⟩ = some (.slice ao (p ^ k) ac) ∧ Reads w ao (ints (addR p k (p ^ k) a)) ∧ ∀ c, c < p ^ k → ∃ (br or : Nat), ao = some ⟨br, or, none⟩ ∧ w.cell? ⟨br, or + c, none⟩ = some (.int .i64 (addF p k a c : Nat)) := by
  obtain ⟨fo, mo, so, io, fc, mc, sc, ic, h1, h2, h3, h4⟩ := h.ex
  refine ⟨so, sc, h1.c 6 _ rfl, fun a ha => ?_⟩
  obtain ⟨bm, om, rfl, _, hr⟩ := h3.row (by rw [ltab_length]; omega)
  obtain ⟨ao, ac, hc, hrd, _⟩ := hr a (by rw [ltab_length]; exact ha)
  rw [row_ltab _ _ _ ha] at hc hrd
  have hl : (addR p k (p ^ k) a).length = p ^ k := tab_length _ _
  rw [hl] at hc
  refine ⟨bm, om, ao, ac, rfl, hc, hrd, fun c hc' => ?_⟩
  obtain ⟨br, or, rfl, _, hcell⟩ := Reads.int hrd (by rw [hl]; omega)
  refine ⟨br, or, rfl, ?_⟩
  have := hcell c (by rw [hl]; exact hc')
  rw [this]
  unfold addR
  rw [nth_tab _ _ _ hc']

set_option maxHeartbeats 2000000 in
theorem scale_any (p k n b m a : Nat) (low : List Int) (ao : Option Addr) (cap : Nat) (f : Nat → Nat) (w : World) (hb : RoomAt w b p k low n) (hm : m ≤ 64) (hf : ∀ j, j < m → f j < p ^ k) (ha : a < p ^ k) (hr : Reads w ao (ints (nrow f m))) :
    Calls Tryd.prog 62 #[.pointer (some ⟨b, 0, none⟩), .slice ao m cap, .int .i64 a] w fun e w' => ∃ v, e = .returned v ∧ OwnInts w w' v (nrow (fun j => mulF p k (nth low) a (f j)) m) := by
  have HB := Lib.hid hb
  have HR := Lib.hid hr
  have HF := Lib.hid hf
  obtain ⟨q, hq⟩ : ∃ q, p ^ k = q := ⟨_, rfl⟩
  have HQ := Lib.hid hq
  rw [hq] at HF ha
  clear hb hr hf hq
  go_enter Tryd.func62, Tryd.ntmps62
  go_wp2
  go_loopw [7, 12] (fun x y wr => ∃ j : Nat, j ≤ m ∧ y = .int .i64 j ∧ OwnInts w wr x (nrow (fun j => mulF p k (nth low) a (f j)) j)) (fun _ y _ => m - (intOf y).toNat)
  case atStart => exact ⟨0, by omega, rfl, OwnInts.nil (Ext.refl _)⟩
  case round =>
    obtain ⟨j, hj, rfl, hown⟩ := hrel
    obtain ⟨ao3, len2, cap3, rfl, hrow, hx⟩ := hown
    have HRW := Lib.hid hrow
    have HX := Lib.hid hx
    have hl2 : len2 = j := by have := hrow.length; rw [ints_length, nrow_length] at this; omega
    have hBw := hx.size
    clear hrow hx
    subst hl2
    by_cases hjm : len2 < m
    · obtain ⟨br, ofr, rfl, _, hcr⟩ := Reads.int (HX.out.reads HR.out) (by rw [nrow_length]; omega)
      have k1 := hcr len2 (by rw [nrow_length]; exact hjm)
      rw [nth_nrow f hjm] at k1
      obtain ⟨mo, mc, k2, hmul⟩ := (HB.out.ext HX.out).mulAt
      rw [HQ.out] at k2 hmul
      obtain ⟨bm, om, ar, ac, rfl, k3, hcell⟩ := hmul a ha
      have hfj := HF.out len2 hjm
      have HV : Hid (nrow (fun j => mulF p k (nth low) a (f j)) (len2 + 1) = nrow (fun j => mulF p k (nth low) a (f j)) len2 ++ [((mulF p k (nth low) a (f len2) : Nat) : Int)]) := rfl
      obtain ⟨x, hxx⟩ : ∃ x, f len2 = x := ⟨_, rfl⟩
      rw [hxx] at k1 hfj HV
      obtain ⟨bz, oz, rfl, k4⟩ := hcell x hfj
      obtain ⟨y, hy⟩ : ∃ y, mulF p k (nth low) a x = y := ⟨_, rfl⟩
      rw [hy] at k4 HV
      clear hcr hmul hcell hxx hy
      go_wp2_with (at_builtin; refine wpList_appInt eInt rfl (.tmp 16) (.tmp 27) rfl w.heap.size (by rfl) HRW.out (by rfl) (by omega) hBw ?_; intro ao4 cap4 w4 hr4 hg4 hb4)
      have HR4 : Hid (RowOf 3 w4 w.heap.size ao4 (len2 + 1) cap4 (ints (nrow (fun j => mulF p k (nth low) a (f j)) (len2 + 1)))) := by
        show RowOf _ _ _ _ _ _ _
        rw [HV.out]; simpa [ints_append, ints_one] using hr4
      have HX4 : Hid (Ext w w4) := hb4 _ _ HX.out (Nat.le_refl _)
      clear hr4 hg4 hb4
      go_roundw
      case rel => exact ⟨len2 + 1, by omega, by go_num, ao4, len2 + 1, cap4, rfl, HR4.out, HX4.out⟩
      case measure => simp [intOf]; omega
    · obtain rfl : len2 = m := by omega
      go_wp2
      go_ret
      exact ⟨_, rfl, ao3, len2, cap3, rfl, HRW.out, HX.out⟩

/-- Where 0 stands in the row of sums. -/
theorem neg_at {p k : Nat} {low : List Int} (hF : IsField p k low) (a : Nat) : idxFrom (fun x => (0 : Int) == x) (addR p k (p ^ k) a) 0 = (negF p k a : Nat) := by
  have hp : 0 < p := by have := hF.p2; omega
  have hn : negF p k a < p ^ k := negF_lt hp a
  have hl : (addR p k (p ^ k) a).length = p ^ k := tab_length _ _
  have h := idxFrom_hit (fun x => (0 : Int) == x) (addR p k (p ^ k) a) 0 (negF p k a) (by rw [hl]; exact hn) (by
    unfold addR
    rw [nth_tab _ _ _ hn, addF_neg hp]; rfl) (fun i hi => by
    unfold addR
    rw [nth_tab _ _ _ (by omega)]
    show ((0 : Int) == _) = false
    rw [beq_eq_false_iff_ne]
    intro e
    have e : addF p k a i = 0 := by omega
    have h1 : addF p k (negF p k a) (addF p k a i) = i := by rw [← addF_assoc hp, addF_comm (negF p k a), addF_neg hp, addF_comm, addF_zero hp i (by omega)]
    rw [e, addF_zero hp _ hn] at h1
    omega)
  rw [h]
  omega

set_option maxHeartbeats 4000000 in
set_option maxRecDepth 100000 in
theorem less_any (p k n b m a : Nat) (low : List Int) (ao bo : Option Addr) (cap bcap : Nat) (f g : Nat → Nat) (w : World) (hF : IsField p k low) (hb : RoomAt w b p k low n) (hm : m ≤ 64) (hf : ∀ j, j < m → f j < p ^ k) (hg : ∀ j, j < m → g j < p ^ k) (ha : a < p ^ k)
    (hr : Reads w ao (ints (nrow f m))) (hr2 : Reads w bo (ints (nrow g m))) :
    Calls Tryd.prog 64 #[.pointer (some ⟨b, 0, none⟩), .slice ao m cap, .slice bo m bcap, .int .i64 a] w fun e w' => ∃ v, e = .returned v ∧ OwnInts w w' v (nrow (fun j => addF p k (f j) (mulF p k (nth low) (negF p k a) (g j))) m) := by
  have HB := Lib.hid hb
  have HR := Lib.hid hr
  have HR2 := Lib.hid hr2
  have HF := Lib.hid hf
  have HG := Lib.hid hg
  have hp : 0 < p := by have := hF.p2; omega
  have hn : negF p k a < p ^ k := negF_lt hp a
  have HML : Hid (∀ x y, mulF p k (nth low) x y < p ^ k) := fun x y => mulF_lt hp x y
  have h64 := hF.big
  have HNG := neg_at hF a
  obtain ⟨so, sc, k1, hadd⟩ := hb.addAt
  obtain ⟨bm, om, ar, ac, rfl, k2, hrd, _⟩ := hadd a ha
  have HIX := index_any ar (p ^ k) ac (addR p k (p ^ k) a) 0 w (tab_length _ _) (by unfold maxLen; omega) hrd
  rw [HNG] at HIX
  have HIX := Lib.hid HIX
  obtain ⟨ng, hng⟩ : ∃ ng, negF p k a = ng := ⟨_, rfl⟩
  rw [hng] at hn HIX
  rw [hng]
  obtain ⟨q, hq⟩ : ∃ q, p ^ k = q := ⟨_, rfl⟩
  have HQ := Lib.hid hq
  rw [hq] at HF HG ha h64 k1 k2 hn HIX HML
  clear hb hr hr2 hf hg hq HNG hng hrd hadd hF hp
  go_enter Tryd.func64, Tryd.ntmps64
  go_wp2_with fail
  refine Calls.mono HIX.out ?_
  rintro e w1 ⟨rfl, rfl⟩
  clear k1 k2
  obtain ⟨w, rfl⟩ : ∃ w' : World, w' = w1 := ⟨_, rfl⟩
  go_wp2
  go_loopw [10, 23] (fun x y wr => ∃ j : Nat, j ≤ m ∧ y = .int .i64 j ∧ OwnInts w wr x (nrow (fun j => addF p k (f j) (mulF p k (nth low) ng (g j))) j)) (fun _ y _ => m - (intOf y).toNat)
  case atStart => exact ⟨0, by omega, rfl, OwnInts.nil (Ext.refl _)⟩
  case round =>
    obtain ⟨j, hj, rfl, hown⟩ := hrel
    obtain ⟨ao3, len2, cap3, rfl, hrow, hx⟩ := hown
    have HRW := Lib.hid hrow
    have HX := Lib.hid hx
    have hl2 : len2 = j := by have := hrow.length; rw [ints_length, nrow_length] at this; omega
    have hBw := hx.size
    clear hrow hx
    subst hl2
    by_cases hjm : len2 < m
    · obtain ⟨br, ofr, rfl, _, hcr⟩ := Reads.int HR.out (by rw [nrow_length]; omega)
      have k1 := hcr len2 (by rw [nrow_length]; exact hjm)
      rw [nth_nrow f hjm] at k1
      obtain ⟨br2, ofr2, rfl, _, hcr2⟩ := Reads.int HR2.out (by rw [nrow_length]; omega)
      have k1b := hcr2 len2 (by rw [nrow_length]; exact hjm)
      rw [nth_nrow g hjm] at k1b
      have hfj := HF.out len2 hjm
      have hgj := HG.out len2 hjm
      have HV : Hid (nrow (fun j => addF p k (f j) (mulF p k (nth low) ng (g j))) (len2 + 1) = nrow (fun j => addF p k (f j) (mulF p k (nth low) ng (g j))) len2 ++ [((addF p k (f len2) (mulF p k (nth low) ng (g len2)) : Nat) : Int)]) := rfl
      obtain ⟨x, hxx⟩ : ∃ x, f len2 = x := ⟨_, rfl⟩
      obtain ⟨z, hzz⟩ : ∃ x, g len2 = x := ⟨_, rfl⟩
      rw [hxx] at k1 hfj HV
      rw [hzz] at k1b hgj HV
      have hml := HML.out ng z
      obtain ⟨mo, mc, k2, hmul⟩ := HB.out.mulAt
      rw [HQ.out] at k2 hmul
      obtain ⟨bm, om, ar, ac, rfl, k3, hcell⟩ := hmul ng hn
      obtain ⟨bz, oz, rfl, k4⟩ := hcell z hgj
      obtain ⟨y, hy⟩ : ∃ y, mulF p k (nth low) ng z = y := ⟨_, rfl⟩
      rw [hy] at k4 HV hml
      obtain ⟨so, sc, k5, hadd⟩ := HB.out.addAt
      rw [HQ.out] at k5 hadd
      obtain ⟨bs, os, ats, asc, rfl, k6, _, hcell2⟩ := hadd x hfj
      obtain ⟨bt, ot, rfl, k7⟩ := hcell2 y hml
      obtain ⟨v, hv⟩ : ∃ v, addF p k x y = v := ⟨_, rfl⟩
      rw [hv] at k7 HV
      clear hcr hcr2 hmul hadd hcell hcell2 hxx hzz hy hv
      have HS : Hid (∀ W, Ext w W → W.cell? ⟨br, ofr + len2, none⟩ = some (.int .i64 x) ∧ W.cell? ⟨br2, ofr2 + len2, none⟩ = some (.int .i64 z) ∧ W.cell? ⟨b, 5, none⟩ = some (.slice (some ⟨bm, om, none⟩) q mc) ∧ W.cell? ⟨bm, om + ng, none⟩ = some (.slice (some ⟨bz, oz, none⟩) q ac) ∧
          W.cell? ⟨bz, oz + z, none⟩ = some (.int .i64 y) ∧ W.cell? ⟨b, 6, none⟩ = some (.slice (some ⟨bs, os, none⟩) q sc) ∧ W.cell? ⟨bs, os + x, none⟩ = some (.slice (some ⟨bt, ot, none⟩) q asc) ∧ W.cell? ⟨bt, ot + y, none⟩ = some (.int .i64 v)) := fun W h => by
        have key : ∀ c o u, w.cell? ⟨c, o, none⟩ = some u → W.cell? ⟨c, o, none⟩ = some u := fun c o u hu => (h.cell (World.block_lt_of_cell? w _ hu)).trans hu
        exact ⟨key _ _ _ k1, key _ _ _ k1b, key _ _ _ k2, key _ _ _ k3, key _ _ _ k4, key _ _ _ k5, key _ _ _ k6, key _ _ _ k7⟩
      have kk := (HS.out wr HX.out).1
      go_upto_region 6 with fail
      go_region_held3 (fun w' => w'.cell? ⟨br, ofr + len2, none⟩ = some (.int .i64 x) ∧ w'.cell? ⟨br2, ofr2 + len2, none⟩ = some (.int .i64 z) ∧ w'.cell? ⟨b, 5, none⟩ = some (.slice (some ⟨bm, om, none⟩) q mc) ∧ w'.cell? ⟨bm, om + ng, none⟩ = some (.slice (some ⟨bz, oz, none⟩) q ac) ∧ w'.cell? ⟨bz, oz + z, none⟩ = some (.int .i64 y) ∧ w'.cell? ⟨b, 6, none⟩ = some (.slice (some ⟨bs, os, none⟩) q sc) ∧ w'.cell? ⟨bs, os + x, none⟩ = some (.slice (some ⟨bt, ot, none⟩) q asc) ∧ w'.cell? ⟨bt, ot + y, none⟩ = some (.int .i64 v)) (first | (refine HS.out _ ?_; (repeat (first | exact HX.out | exact HX4.out | refine Ext.alloc ?_ _ | refine Ext.drew ?_)); done))
        ((first | (refine step_app eInt rfl (.tmp 28) (.tmp 51) rfl w.heap.size ?_ (World.ownsRow.drew (World.ownsRow.alloc HRW.out _)) ⟨wr.heap.size, 0, none⟩ (.int .i64 v) ?_ ?_ rfl ?_ ?_ ?_; (next => (first | rfl | (simp [Act.eval, Act.put]; done))); (next => (first | rfl | (simp [Act.eval, Act.put]; done))); (next => simp [World.cell?_alloc_at]); (next => omega); (next => simp; omega); intro ao4 cap4 w4 hr4 hg4 hb4; have HX4 := Lib.hid (hb4 _ _ (HX.out.alloc (.cells #[.int .i64 v] 3)).drew (Nat.le_refl _)); have HR4 := Lib.hid hr4; clear hr4 hg4 hb4) | fail))
      all_goals
        go_wp2
        have HR5 : Hid (RowOf 3 w4 w.heap.size ao4 (len2 + 1) cap4 (ints (nrow (fun j => addF p k (f j) (mulF p k (nth low) ng (g j))) (len2 + 1)))) := by
          show RowOf _ _ _ _ _ _ _
          rw [HV.out]; simpa [ints_append, ints_one] using HR4.out
        go_roundw
        case rel => exact ⟨len2 + 1, by omega, by go_num, ao4, len2 + 1, cap4, rfl, HR5.out, HX4.out⟩
        case measure => simp [intOf]; omega
    · obtain rfl : len2 = m := by omega
      go_wp2
      go_ret
      exact ⟨_, rfl, ao3, len2, cap3, rfl, HRW.out, HX.out⟩

end Go.Proofs.YtnhdngnolepkcaaDoor

/- slices.Clone and slices.Delete at lists of rows. Conditions: as the theorems say. -/
namespace Go.Proofs.YtnhdngnolepkcaaDoor
open Go.RowKit

set_option maxHeartbeats 400000 in
theorem clone_rows (ao : Option Addr) (n cap : Nat) (vs : List Value) (w : World) (hn : vs.length = n) (hbig : n ≤ 1000) (h1 : ∀ v ∈ vs, v.oneCell' = true) (hr : Reads w ao vs) :
    Calls Tryd.prog 46 #[.slice ao n cap] w fun e w' => ∃ ao' cap', e = .returned (.slice ao' n cap') ∧ RowOf 22 w' w.heap.size ao' n cap' vs ∧ Ext w w' := by
  have hq := Lib.run_eql_slice_nil (P := Tryd.prog) w 25 22 ao n cap 0 0 Tryd.underlying25
  have HN := Lib.hid hn
  have H1 := Lib.hid h1
  rcases ao with _ | ⟨b, off, s⟩
  · obtain rfl : vs = [] := by
      rcases hr with h | ⟨b, off, h, _⟩
      · exact h
      · cases h
    obtain rfl : n = 0 := by simpa using hn.symm
    clear hn hr h1
    go_enter Tryd.func46, Tryd.ntmps46
    go_wp2
    go_ret
    exact ⟨none, 0, rfl, RowOf.nil _ _ _, Ext.refl _⟩
  · obtain ⟨ad, had⟩ : ∃ ad : Addr, (⟨b, off, s⟩ : Addr) = ad := ⟨_, rfl⟩
    rw [had] at hr hq ⊢
    have HC : Hid (∀ j u, vs[j]? = some u → (w.alloc (.cells #[] 22)).cell? (ad.add j) = some u) := fun j u hu => by
      rcases hr with h | ⟨b', off', h, hlt, hc⟩
      · subst h; simp at hu
      · obtain rfl := Option.some.inj h
        rw [Addr.add_lit, World.cell?_alloc_past _ _ _ hlt]
        exact hc j u hu
    have HL : Hid (vs.length = n * 1) := by show _ = _; omega
    obtain ⟨i, hi, hz, hsz, hby⟩ := info_parts eRow.inf
    have h63 : 0 + n ≤ maxLen := by unfold maxLen; omega
    have hby2 : (0 + n) * 24 ≤ 140737488355328 := by omega
    have h00 : w.heap.size ≤ (w.alloc (.cells #[] 22)).heap.size := by simp
    clear hn hr h1 had
    go_enter Tryd.func46, Tryd.ntmps46
    go_wp2_with (at_builtin; refine wpList_append_own _ rfl (.tmp 5) (.tmp 6) 25 rfl w.heap.size 22 i (.slice none 0 0) 1 24 eRow.und hi hz hsz hby eRow.cel (by decide) _ 0 [] rfl (RowOf.lit 22 w #[] (by decide)) ad n cap vs rfl HL.out HC.out H1.out h63 hby2 h00 ?_; intro v' w1 hr1 hg1 hz1)
    obtain ⟨ao', cap', rfl⟩ := RowOf.shape hr1
    go_ret
    exact ⟨ao', cap', by simp, by unfold RowOf; simpa using hr1, ((Ext.refl w).alloc _).grown hg1 (by simp) (fun k hk => by cases hk; exact Nat.le_refl _)⟩

theorem RowOf.setCells {e : TypeId} {B g n cap : Nat} : ∀ (vs : List Value) (o : Nat) (w : World) (xs : List Value), RowOf e w B (some ⟨g, 0, none⟩) n cap xs → o + vs.length ≤ xs.length →
    RowOf e (w.setCells g o vs) B (some ⟨g, 0, none⟩) n cap (xs.take o ++ vs ++ xs.drop (o + vs.length))
  | [], o, w, xs, h, _ => by simpa [World.setCells] using h
  | v :: vs, o, w, xs, h, hl => by
    have h1 := RowOf.setCells vs (o + 1) _ _ (h.stored o v) (by simp at hl ⊢; omega)
    have e1 : (xs.set o v).take (o + 1) ++ vs ++ (xs.set o v).drop (o + 1 + vs.length) = xs.take o ++ (v :: vs) ++ xs.drop (o + (v :: vs).length) := by
      simp at hl
      have ho : o < xs.length := by omega
      have e2 : (xs.set o v).take (o + 1) = xs.take o ++ [v] := by
        rw [List.take_add_one, List.take_set, List.set_eq_of_length_le (by simp; omega)]
        simp [ho]
      rw [List.drop_set_of_lt (by omega), e2, List.length_cons, show o + 1 + vs.length = o + (vs.length + 1) by omega]
      simp
    rw [e1] at h1
    exact h1
theorem RowOf.shrink {e : TypeId} {w : World} {B g n cap : Nat} {xs : List Value} (h : RowOf e w B (some ⟨g, 0, none⟩) (n + 1) cap xs) : RowOf e w B (some ⟨g, 0, none⟩) n cap (xs.take n) := by
  obtain ⟨h1, h2⟩ := h
  refine ⟨by rw [List.length_take]; omega, .inr ?_⟩
  rcases h2 with ⟨h3, _⟩ | ⟨g', c, cur, h3, h4, h5, h6, h7, h8, h9⟩
  · simp at h3
  · obtain ⟨rfl, -, rfl⟩ : g = g' ∧ n + 1 = n + 1 ∧ cap = c := by simpa using h3
    exact ⟨g, cap, cur, rfl, h4, h5, by omega, h7, h8, by rw [← h9, List.take_take]; congr 1; omega⟩

/-- A store behind the row's end. -/
theorem RowOf.past {e : TypeId} {w : World} {B g n cap : Nat} {xs : List Value} (h : RowOf e w B (some ⟨g, 0, none⟩) n cap xs) (v : Value) : RowOf e (w.setCell ⟨g, n, none⟩ v) B (some ⟨g, 0, none⟩) n cap xs := by
  obtain ⟨h1, h2⟩ := h
  refine ⟨h1, .inr ?_⟩
  rcases h2 with ⟨h3, _⟩ | ⟨g', c, cur, h3, h4, h5, h6, h7, h8, h9⟩
  · simp at h3
  · obtain ⟨rfl, -, rfl⟩ : g = g' ∧ n = n ∧ cap = c := by simpa using h3
    refine ⟨g, cap, cur.setIfInBounds n v, rfl, h4, ?_, h6, h7, by simp [h8], by rw [Array.toList_setIfInBounds, List.take_set, List.set_eq_of_length_le (by simp; omega), h9]⟩
    have := Blk.set (w := w) (b := g) (cs := cur) (t := e) h5 n v
    exact this
theorem grown_setCells (g : Nat) : ∀ (vs : List Value) (o : Nat) (w : World), w.grownBy (w.setCells g o vs) (some g)
  | [], _, w => ⟨rfl, rfl, rfl, Nat.le_refl _, fun _ _ _ => rfl⟩
  | v :: vs, o, w => by
    have h : w.grownBy (w.setCell ⟨g, o, none⟩ v) (some g) := ⟨rfl, rfl, rfl, by simp, fun i _ hne => Below.heap_setCell w _ _ i (fun e => hne (by rw [e]))⟩
    exact h.trans (grown_setCells g vs (o + 1) _)


theorem row_zero : ∀ w, (zeroValue 22).run Tryd.prog w = .ok (.slice none 0 0) w := fun w => by
  obtain ⟨i, hi, hz, -, -⟩ := info_parts eRow.inf
  simp [zeroValue, typeInfo, hi, hz]

set_option maxHeartbeats 4000000 in
set_option maxRecDepth 1000000 in
theorem delete_rows (n i g cap B : Nat) (vs : List Value) (w : World) (hn : vs.length = n) (hi : i < n) (hbig : n ≤ 1000) (ho : ∀ v ∈ vs, v.oneCell' = true) (h : RowOf 22 w B (some ⟨g, 0, none⟩) n cap vs) :
    Calls Tryd.prog 63 #[.slice (some ⟨g, 0, none⟩) n cap, .int .i64 i, .int .i64 ((i : Int) + 1)] w fun e w' =>
      e = .returned (.slice (some ⟨g, 0, none⟩) (n - 1 : Nat) cap) ∧ RowOf 22 w' B (some ⟨g, 0, none⟩) (n - 1) cap (vs.take i ++ vs.drop (i + 1)) ∧ w.grownBy w' (some g) := by
  obtain ⟨i0, hi0, hz0, hz1, hz2⟩ := info_parts eRow.inf
  obtain ⟨hB, hg, hc, hf⟩ := h.known
  have hcap : n ≤ cap ∧ cap ≤ maxLen := by
    rcases h.2 with ⟨h3, _⟩ | ⟨g', c, cur, h3, h4, h5, h6, h7, h8, h9⟩
    · simp at h3
    · obtain ⟨-, -, rfl⟩ : g = g' ∧ n = n ∧ cap = c := by simpa using h3
      exact ⟨h6, h7⟩
  obtain ⟨hcap1, hcap2⟩ := hcap
  unfold maxLen at hcap2
  have hml : (vs.drop (i + 1)).length = n - (i + 1) := by rw [List.length_drop, hn]
  have hget : ∀ j, j < n → vs[j]? = some (vs.getD j (.slice none 0 0)) := fun j hj => by rw [List.getD_eq_getElem?_getD, List.getElem?_eq_getElem (by omega)]; rfl
  obtain ⟨A, hA, hnews⟩ : ∃ A : Addr, (if cap = i + 1 then some (⟨g, 0, none⟩ : Addr) else some ⟨g, i + 1, none⟩) = some A ∧ Hid (∀ j u, (vs.drop (i + 1))[j]? = some u → w.drew.cell? (A.add j) = some u) := by
    by_cases h : cap = i + 1
    · refine ⟨⟨g, 0, none⟩, by simp [h], fun j u hu => ?_⟩
      have h0 : (vs.drop (i + 1)).length = 0 := by omega
      rw [List.length_eq_zero_iff.1 h0] at hu
      simp at hu
    · refine ⟨⟨g, i + 1, none⟩, by simp [h], fun j u hu => ?_⟩
      rw [List.getElem?_drop] at hu
      rw [Addr.add_lit]
      exact hc (i + 1 + j) _ hu
  have s1 : Hid ((vs.drop (i + 1)).length = (n - (i + 1)) * 1) := by show _ = _; omega
  have s2 : Hid (∀ u ∈ vs.drop (i + 1), u.oneCell' = true) := fun u hu => ho u (List.mem_of_mem_drop hu)
  have s3 : Hid (∀ j, j < (vs.drop (i + 1)).length → (w.drew.cell? ⟨g, 0 + i * 1 + j, none⟩).isSome = true ∧ w.drew.frozen? ⟨g, 0 + i * 1 + j, none⟩ = false) := by
    intro j hj
    rw [show 0 + i * 1 + j = i + j by omega]
    exact ⟨by show (w.cell? _).isSome = true; rw [hc (i + j) _ (hget _ (by omega))]; rfl, hf (i + j)⟩
  have HR : Hid (RowOf 22 (w.drew.setCells g (0 + i * 1) (vs.drop (i + 1))) B (some ⟨g, 0, none⟩) n cap (vs.take i ++ vs.drop (i + 1) ++ vs.drop (n - 1))) := by
    have h1 := RowOf.setCells (vs.drop (i + 1)) (0 + i * 1) w.drew vs h (by omega)
    rw [show 0 + i * 1 + (vs.drop (i + 1)).length = n - 1 by omega, show 0 + i * 1 = i by omega] at h1
    rw [show 0 + i * 1 = i by omega]
    exact h1
  have HGR : Hid (w.drew.grownBy (w.drew.setCells g (0 + i * 1) (vs.drop (i + 1))) (some g)) := grown_setCells g _ _ _
  obtain ⟨h2a, h2b, h2c, h2d⟩ := HR.out.known
  have hlast := h2c (n - 1) (vs.getD (n - 1) (.slice none 0 0)) (by
    rw [List.getElem?_append_right (by simp; omega)]
    simp only [List.length_append, List.length_take]
    rw [List.getElem?_drop, show n - 1 + (n - 1 - (min i vs.length + (vs.drop (i + 1)).length)) = n - 1 by omega]
    exact hget _ (by omega))
  have hlf := h2d (n - 1)
  have HCUT : Hid ((vs.take i ++ vs.drop (i + 1) ++ vs.drop (n - 1)).take (n - 1) = vs.take i ++ vs.drop (i + 1)) := by
    show _ = _
    rw [List.take_left' (by simp; omega)]
  have hic : i ≤ cap := by omega
  have hwr : IntKind.i64.wrap ((i : Int) + 1) = (i : Int) + 1 := IntWalk.i64_in _ (by omega)
  have hp0 : (0 : Int) ≤ (i : Int) + 1 := by omega
  have hp1 : (i : Int) + 1 ≤ (n : Int) := by omega
  have hp2 : ((i : Int) + 1).toNat = i + 1 := by omega
  have hne : ((i : Int) == (i : Int) + 1) = false := by rw [beq_eq_false_iff_ne]; omega
  have hin : i + (n - (i + 1)) = n - 1 := by omega
  have HW0 : Hid (w.grownBy w.drew (some g)) := grownBy_of_ext (Ext.refl w).drew _
  clear hc hf h hml h2c h2d ho hget
  go_enter Tryd.func63, Tryd.ntmps63
  go_wp2_with fail
  go_region_law (refine step_append_room rfl (.tmp 22) (.tmp 25) 25 rfl 22 i0 1 Tryd.underlying25 hi0 hz1 g 0 i cap (by simp [Act.eval, Act.put]) A (n - (i + 1)) (cap - (i + 1)) (vs.drop (i + 1)) (by simp [Act.eval, Act.put]) s1.out hnews.out s2.out (by omega) s3.out ?_)
  obtain ⟨w1, hw1⟩ : ∃ w1, w1 = w.drew.setCells g i (vs.drop (i + 1)) := ⟨_, rfl⟩
  rw [show 0 + i * 1 = i by omega] at HR HGR h2b hlast hlf
  rw [← hw1] at HR HGR h2b hlast hlf ⊢
  have hone : n - (n - 1) = 1 := by omega
  obtain ⟨lv, hlv⟩ : ∃ lv, vs.getD (n - 1) (.slice none 0 0) = lv := ⟨_, rfl⟩
  rw [hlv] at hlast
  have hcl : ∀ ty, (Builtin.clear_ #[25] ty #[.slice (some ⟨g, n - 1, none⟩) (n - (n - 1)) (cap - (n - 1))]).run Tryd.prog w1 = .ok (.tuple #[]) (w1.setCell ⟨g, n - 1, none⟩ (.slice none 0 0)) := fun ty => by
    have h := Lib.run_clear_slice (P := Tryd.prog) w1 25 22 ty (.slice none 0 0) Tryd.underlying25 row_zero rfl rfl g (n - 1) 1 (cap - (n - 1)) (by omega)
      (fun j hj => by rw [show n - 1 + j = n - 1 by omega, hlast]; rfl) (fun j hj => by rw [show n - 1 + j = n - 1 by omega]; exact hlf)
    rw [hone]
    exact h
  clear hw1 s1 s2 s3 hnews hA hwr hp0 hp1 hp2 hone hlv
  go_wp2
  go_ret
  obtain ⟨m, rfl⟩ : ∃ m, n = m + 1 := ⟨n - 1, by omega⟩
  have hr := HR.out.shrink
  rw [show m + 1 - 1 = m by omega] at HCUT hr ⊢
  rw [HCUT.out] at hr
  refine ⟨by simp, hr.past (.slice none 0 0), ?_⟩
  exact (HW0.out.trans HGR.out).trans (grown_setCells g [.slice none 0 0] m w1)

end Go.Proofs.YtnhdngnolepkcaaDoor
