/- What field.Squares answers. Condition: the variable of primes holds them. -/
import Derived.Test.YthfjlemlpgkedaaDoorFOpen
import Derived.Test.YthfjlemlpgkedaaDoorFMul
import Derived.Test.YthfjlemlpgkedaaDoorFieldMath
import Derived.Test.YthfjlemlpgkedaaDoorBools
import Derived.Test.YthfjlemlpgkedaaDoorOwnInts
namespace Go.Proofs.YthfjlemlpgkedaaDoor
open Go.RowKit

/-- Is a number the square of one below m, but of 0? -/
def sqSeen (p k : Nat) (low : List Int) (m s : Nat) : Bool := (List.range m).any fun a => decide (1 ≤ a) && mulF p k (nth low) a a == s
theorem sqSeen_true {p k : Nat} {low : List Int} {m s : Nat} : sqSeen p k low m s = true ↔ ∃ a, 1 ≤ a ∧ a < m ∧ mulF p k (nth low) a a = s := by
  unfold sqSeen
  rw [List.any_eq_true]
  constructor
  · rintro ⟨a, h1, h2⟩
    simp at h1 h2
    exact ⟨a, h2.1, h1, h2.2⟩
  · rintro ⟨a, h1, h2, h3⟩
    exact ⟨a, by simpa using h2, by simp [h1, h3]⟩
theorem sqSeen_succ {p k : Nat} {low : List Int} {m : Nat} (hm : 1 ≤ m) (s : Nat) : sqSeen p k low (m + 1) s = if s = mulF p k (nth low) m m then true else sqSeen p k low m s := by
  by_cases h : s = mulF p k (nth low) m m
  · rw [if_pos h, sqSeen_true]; exact ⟨m, hm, by omega, h.symm⟩
  · rw [if_neg h]
    unfold sqSeen
    rw [List.range_succ, List.any_append]
    have : (mulF p k (nth low) m m == s) = false := by rw [beq_eq_false_iff_ne]; exact fun e => h e.symm
    simp [this]
/-- The squares, in order, below a number. -/
def sqUp (f : Nat → Bool) : Nat → List Int
  | 0 => []
  | s + 1 => sqUp f s ++ if f s = true then [(s : Int)] else []
theorem sqUp_mem (f : Nat → Bool) (x : Int) : ∀ n, x ∈ sqUp f n ↔ ∃ s : Nat, s < n ∧ x = s ∧ f s = true
  | 0 => by simp [sqUp]
  | n + 1 => by
    rw [sqUp, List.mem_append, sqUp_mem f x n]
    constructor
    · rintro (⟨s, h1, h2, h3⟩ | h)
      · exact ⟨s, by omega, h2, h3⟩
      · by_cases hf : f n = true
        · rw [if_pos hf] at h; exact ⟨n, by omega, by simpa using h, hf⟩
        · rw [if_neg hf] at h; simp at h
    · rintro ⟨s, h1, h2, h3⟩
      rcases Nat.lt_succ_iff_lt_or_eq.1 h1 with h | rfl
      · exact .inl ⟨s, h, h2, h3⟩
      · right; rw [if_pos h3, h2]; simp
theorem sqUp_len (f : Nat → Bool) : ∀ n, (sqUp f n).length ≤ n
  | 0 => by simp [sqUp]
  | n + 1 => by
    have := sqUp_len f n
    rw [sqUp, List.length_append]
    split <;> simp <;> omega

theorem run_index_bool (w : World) (cs : Array Value) (k : Nat) (b : Bool) (hk : k < 64) (hc : cs[k]? = some (.bool b)) : (Instr.index 54 (.agg cs) (.int .i64 (k : Int))).run Tryd.prog w = .ok (.bool b) w := by
  have h1 : (sizeOf 4).run Tryd.prog w = .ok 1 w := by kernel_rfl
  have h2 : (isAgg 4).run Tryd.prog w = .ok false w := by kernel_rfl
  have h3 : (0 : Int) ≤ (k : Int) ∧ (k : Int) < ((64 : Nat) : Int) := by omega
  simp only [Instr.index, asIntOf, Sem.run_bind, Sem.run_pure, Result.andThen_ok, run_underlying Tryd.underlying54, if_pos h3, h1, part, h2, Int.toNat_natCast, Nat.mul_one, hc]
  rfl

/-- In the first loop. -/
structure FqSt (w wr : World) (p k : Nat) (ao : Option Addr) (len cap : Nat) (q : Int) (low : List Int) (b m : Nat) : Prop where
  ext : Ext w wr
  b0 : w.heap.size ≤ b
  rb : Blk wr b #[.int .i64 p, .int .i64 k, .slice ao len cap, .int .i64 q] 51
  sb : Blk wr (b + 1) (bools (sqSeen p k low m) 64) 54
theorem FqSt.start {w w1 : World} (hx : Ext w w1) (p k : Nat) (ao : Option Addr) (len cap : Nat) (q : Int) (low : List Int) :
    FqSt w ((w1.alloc (.cells #[.int .i64 p, .int .i64 k, .slice ao len cap, .int .i64 q] 51)).alloc (.cells (bools (fun _ => false) 64) 54)) p k ao len cap q low w1.heap.size 1 := by
  have e1 : bools (sqSeen p k low 1) 64 = bools (fun _ => false) 64 := bools_congr _ _ _ fun s _ => by simp [sqSeen]
  refine ⟨(hx.alloc _).alloc _, hx.size, (Blk.new _ _ _).alloc _, ?_⟩
  rw [e1]; exact Blk.new' _ _ _ (by simp)
theorem FqSt.ext' {w wr w2 : World} {p k : Nat} {ao : Option Addr} {len cap : Nat} {q : Int} {low : List Int} {b m : Nat} (h : FqSt w wr p k ao len cap q low b m) (hx : Ext wr w2) : FqSt w w2 p k ao len cap q low b m :=
  ⟨h.ext.trans hx, h.b0, h.rb.ext hx, h.sb.ext hx⟩
theorem FqSt.next {w wr : World} {p k : Nat} {ao : Option Addr} {len cap : Nat} {q : Int} {low : List Int} {b m s : Nat} (h : FqSt w wr p k ao len cap q low b m) (hm : 1 ≤ m) (hs : mulF p k (nth low) m m = s) :
    FqSt w (wr.setCell ⟨b + 1, s, none⟩ (.bool true)) p k ao len cap q low b (m + 1) := by
  refine ⟨h.ext.set (by have := h.b0; simp; omega) _, h.b0, h.rb.beside _ (by simp) _, ?_⟩
  have := h.sb.set s (.bool true)
  rw [bools_set] at this
  rw [bools_congr (sqSeen p k low (m + 1)) _ 64 (fun x _ => by rw [sqSeen_succ hm, hs])]
  exact this
/-- The row of truth values as a list. -/
def boolsL (f : Nat → Bool) : List Value := (List.range 64).map fun q => Value.bool (f q)
theorem boolsL_at {w : World} {b : Nat} {f : Nat → Bool} {t : TypeId} (h : Blk w b (bools f 64) t) : w.rangeAt b 0 (boolsL f) := fun j v hv => by
  have hj : j < 64 := by have := (List.getElem?_eq_some_iff.1 hv).1; simpa [boolsL] using this
  rw [Nat.zero_add]
  refine h.c j v ?_
  rw [bools_get _ _ _ hj, ← hv]
  simp [boolsL, hj]

set_option maxHeartbeats 4000000 in
theorem squares_ok (p k : Nat) (ao : Option Addr) (cap : Nat) (low : List Int) (w : World) (hP : Primes w) (hF : IsField p k low) (hr : Reads w ao (ints low)) :
    Calls Tryd.prog 12 #[.agg #[.int .i64 p, .int .i64 k, .slice ao k cap]] w fun e w' => ∃ ao2 n2 cap2, e = .returned (.tuple #[.slice ao2 n2 cap2, .int .i64 0]) ∧ OwnInts w w' (.slice ao2 n2 cap2) (sqUp (sqSeen p k low (p ^ k)) 64) := by
  obtain ⟨hz, ho⟩ := hF.fault
  have h64 := hF.big
  have hl := hF.len
  have HX0 : Hid (Ext w (w.alloc (.cells #[.int .i64 p, .int .i64 k, .slice ao k cap] 24))) := (Ext.refl w).alloc _
  have HW := Lib.hid (open_any p k ao k cap low _ (hP.ext HX0.out) hl (HX0.out.reads hr))
  have HZ := Lib.hid hz
  have HOF := Lib.hid ho
  have HM : Hid (∀ a : Nat, a < p ^ k → ∀ w', Ext w w' → _) := fun a ha w' (hx : Ext w w') => mul_any p k a a (p ^ k : Nat) ao cap low w' hF.p2 hF.p61 hF.k1 hF.k6 h64 (by omega) (by omega) hF.len (hx.reads hr) hF.dig
  have HML : Hid (∀ a, mulF p k (nth low) a a < p ^ k) := fun a => mulF_lt (by have := hF.p2; omega) a a
  have HPOS : Hid (1 ≤ p ^ k) := Nat.pos_of_ne_zero (fun h => by have := Nat.pow_eq_zero.1 h; have := hF.p2; omega)
  obtain ⟨q, hq⟩ : ∃ q, p ^ k = q := ⟨_, rfl⟩
  rw [hq] at HM HOF HML HPOS h64 ⊢
  have h1q := HPOS.out
  clear hP hF hl hr hz ho hq HPOS
  go_enter Tryd.func12, Tryd.ntmps12
  go_wp2_with fail
  refine Calls.mono HW.out ?_
  rintro e w1 ⟨hwi, hx⟩
  obtain rfl := hwi.2 HZ.out
  rw [HOF.out]
  have HX1 := Lib.hid (HX0.out.trans hx)
  have H0 := Lib.hid (FqSt.start HX1.out p k ao k cap q low)
  clear hx hwi
  go_wp2
  rw [falses]
  obtain ⟨w0, hw0⟩ : ∃ w0, w0 = (w1.alloc (.cells #[.int .i64 p, .int .i64 k, .slice ao k cap, .int .i64 q] 51)).alloc (.cells (bools (fun _ => false) 64) 54) := ⟨_, rfl⟩
  rw [← hw0] at H0 ⊢
  obtain ⟨b, hb⟩ : ∃ b, w1.heap.size = b := ⟨_, rfl⟩
  rw [hb] at H0 ⊢
  clear hw0
  go_loopw [7] (fun a wr => ∃ m : Nat, 1 ≤ m ∧ m ≤ q ∧ a = .int .i64 m ∧ FqSt w wr p k ao k cap q low b m) (fun a _ => q - (intOf a).toNat)
  case atStart => exact ⟨1, by omega, h1q, rfl, H0.out⟩
  case round =>
    obtain ⟨m, hm1, hmq, rfl, hst⟩ := hrel
    have HS := Lib.hid hst
    clear hst H0
    by_cases hlt : m < q
    · have hcall := Lib.hid (HM.out m hlt wr HS.out.ext)
      obtain ⟨s, hs⟩ : ∃ s, mulF p k (nth low) m m = s := ⟨_, rfl⟩
      have HSS := Lib.hid hs
      have hs64 : s < 64 := by have := HML.out m; omega
      rw [hs] at hcall
      have k1 := HS.out.rb.four
      clear hs
      go_wp2_with fail
      refine Calls.mono hcall.out ?_
      rintro e w2 ⟨rfl, hx⟩
      have HS2 := Lib.hid (HS.out.ext' hx)
      have k2 := HS2.out.sb.c s _ (bools_get _ 64 _ hs64)
      have k3 := HS2.out.sb.f s
      have HN := Lib.hid (HS2.out.next hm1 HSS.out)
      clear hx k1
      go_wp2
      go_roundw
      case rel => exact ⟨m + 1, by omega, by omega, by go_num, HN.out⟩
      case measure => simp [intOf]; omega
    · obtain rfl : q = m := by omega
      have k1 := HS.out.rb.four
      have HRG := Lib.hid (boolsL_at HS.out.sb)
      have HXW := Lib.hid HS.out.ext
      go_wp2_with ((with_reducible refine wpList_load_mid rfl 54 (.tmp 6) rfl (b + 1) 0 rfl (boolsL (sqSeen p k low q)) (.array 64 4) HRG.out Tryd.underlying54 rfl (by kernel_rfl) ?_))
      have HI : Hid (∀ s : Nat, s < 64 → ∀ w, (Instr.index 54 (.agg (boolsL (sqSeen p k low q)).toArray) (.int .i64 (s : Int))).run Tryd.prog w = .ok (.bool (sqSeen p k low q s)) w) := fun s hs w => run_index_bool w _ s _ hs (by simp [boolsL, hs])
      generalize (boolsL (sqSeen p k low q)).toArray = A at HI ⊢
      obtain ⟨f, hf⟩ : ∃ f, sqSeen p k low q = f := ⟨_, rfl⟩
      have HFF := Lib.hid hf
      rw [hf] at HI
      obtain ⟨wo, rfl⟩ : ∃ wo : World, wo = wr := ⟨_, rfl⟩
      clear hf k1 HRG HS
      have H2 : Hid (OwnInts wo wo (.slice none 0 0) (sqUp f 0)) := OwnInts.nil (Ext.refl wo)
      go_loopw [8, 31] (fun y a wr => ∃ s : Nat, s ≤ 64 ∧ a = .int .i64 s ∧ OwnInts wo wr y (sqUp f s)) (fun _ a _ => 64 - (intOf a).toNat)
      case atStart => exact ⟨0, by omega, rfl, H2.out⟩
      case round =>
        obtain ⟨s, hs64, rfl, hti⟩ := hrel
        clear H2
        obtain ⟨ao5, n5, cap5, rfl, hrow5, hx5⟩ := hti
        have hle5 := sqUp_len f s
        have hn5 := hrow5.1
        rw [ints_length, Nat.mul_one] at hn5
        rw [hn5] at hle5
        have HROW := Lib.hid hrow5
        have HX5 := Lib.hid hx5
        have hsz5 := hx5.size
        clear hrow5 hx5
        by_cases hsl : s < 64
        · have hi := HI.out s hsl
          have HCU : Hid (sqUp f (s + 1) = sqUp f s ++ if f s = true then [(s : Int)] else []) := rfl
          obtain ⟨x, hx⟩ : ∃ x, f s = x := ⟨_, rfl⟩
          rw [hx] at hi HCU
          clear hx
          cases x with
          | false =>
            go_wp2
            go_roundw
            case rel => exact ⟨s + 1, by omega, by go_num, by rw [HCU.out, if_neg (by simp), List.append_nil]; exact ⟨_, _, _, rfl, HROW.out, HX5.out⟩⟩
            case measure => simp [intOf]; omega
          | true =>
            go_wp2_with (at_builtin; refine wpList_appInt eInt rfl (.tmp 36) (.tmp 38) rfl wo.heap.size (by rfl) HROW.out (by rfl) (by omega) (by omega) ?_; intro ao4 cap4 w4 hr4 hg4 hb4; have HR4 := Lib.hid hr4; have HB4 := Lib.hid (hb4 _ _ HX5.out (Nat.le_refl _)); clear hr4 hg4 hb4)
            go_roundw
            case rel => exact ⟨s + 1, by omega, by go_num, by rw [HCU.out, if_pos rfl]; exact ⟨_, _, _, rfl, by rw [ints_append]; exact HR4.out, HB4.out⟩⟩
            case measure => simp [intOf]; omega
        · obtain rfl : s = 64 := by omega
          go_wp2
          go_ret2
          exact ⟨_, _, _, rfl, by rw [HFF.out]; exact OwnInts.back HXW.out ⟨_, _, _, rfl, HROW.out, HX5.out⟩⟩

set_option maxHeartbeats 1000000 in
theorem squares_no (p k : Int) (ao : Option Addr) (len cap : Nat) (low : List Int) (w : World) (hP : Primes w) (hl : low.length = len) (hr : Reads w ao (ints low)) (h0 : fieldFault p k low ≠ 0) :
    Calls Tryd.prog 12 #[.agg #[.int .i64 p, .int .i64 k, .slice ao len cap]] w fun e w' => e = .returned (.tuple #[.slice none 0 0, .int .i64 (fieldFault p k low)]) ∧ Ext w w' := by
  have hx0 : Ext w (w.alloc (.cells #[.int .i64 p, .int .i64 k, .slice ao len cap] 24)) := (Ext.refl w).alloc _
  have HX0 := Lib.hid hx0
  have HO := Lib.hid (open_any p k ao len cap low _ (hP.ext hx0) hl (hx0.reads hr))
  clear hP hl hr hx0
  obtain ⟨c, hc⟩ : ∃ c, fieldFault p k low = c := ⟨_, rfl⟩
  have HC := Lib.hid hc
  rw [hc] at h0 ⊢
  clear hc
  go_enter Tryd.func12, Tryd.ntmps12
  go_wp2_with fail
  refine Calls.mono HO.out ?_
  rintro e w1 ⟨hoi, hx⟩
  obtain rfl := hoi.1 (by rw [HC.out]; exact h0)
  rw [HC.out]
  have HX := Lib.hid (HX0.out.trans hx)
  have b1 : (c != 0) = true := by rw [bne_iff_ne]; exact h0
  clear hx hoi h0
  go_wp2
  go_ret2
  exact ⟨rfl, HX.out.alloc _⟩

end Go.Proofs.YthfjlemlpgkedaaDoor
