/- What field.Add answers at elements of a field. Condition: the variable of primes holds them. -/
import Derived.Test.YtnhdngnolepkcaaDoorJcnbnjdcfnn
import Derived.Test.YtnhdngnolepkcaaDoorJopiplgejoi
import Derived.Test.YtnhdngnolepkcaaDoorJcfffccoojo
namespace Go.Proofs.YtnhdngnolepkcaaDoor
open Go.RowKit

theorem twoInts (w : World) (a b : Int) {c : Nat} (hc : c = w.heap.size) : Reads (w.alloc (.cells #[.int .i64 a, .int .i64 b] 3)) (some ⟨c, 0, none⟩) (ints [a, b]) := by
  have h := Blk.new' w #[.int .i64 a, .int .i64 b] 3 hc
  refine .inr ⟨c, 0, rfl, h.lt, fun j u hu => ?_⟩
  rw [Nat.zero_add]
  refine h.c j u ?_
  rw [← hu]
  simp [ints]

set_option maxHeartbeats 2000000 in
theorem fieldAdd_ok (p k a b : Nat) (ao : Option Addr) (len cap : Nat) (low : List Int) (w : World) (hP : Primes w) (hF : IsField p k low) (hl : low.length = len) (hr : Reads w ao (ints low)) (ha : a < p ^ k) (hb : b < p ^ k) :
    Calls Tryd.prog 69 #[.agg #[.int .i64 p, .int .i64 k, .slice ao len cap], .int .i64 a, .int .i64 b] w fun e w' => e = .returned (.tuple #[.int .i64 (addF p k a b : Nat), .int .i64 0]) ∧ Ext w w' := by
  obtain ⟨hz, ho⟩ := hF.fault
  have h64 := hF.big
  have hwf : withFault p k low [(a : Int), (b : Int)] = 0 := by
    obtain ⟨q, hq⟩ : ∃ q, p ^ k = q := ⟨_, rfl⟩
    rw [hq] at ha hb ho
    rw [withFault_ok hz, ho, if_neg]
    simp [badDg]
    omega
  have HX0 : Hid (Ext w ((w.alloc (.cells #[.int .i64 p, .int .i64 k, .slice ao len cap] 24)).alloc (.cells #[.int .i64 a, .int .i64 b] 3))) := ((Ext.refl w).alloc _).alloc _
  have HW := Lib.hid (with_any p k ao len cap low [(a : Int), (b : Int)] (some ⟨w.heap.size + 1, 0, none⟩) 2 2 _ (hP.ext HX0.out) hl (HX0.out.reads hr) rfl (by decide) (twoInts (w.alloc (.cells #[.int .i64 p, .int .i64 k, .slice ao len cap] 24)) (a : Int) (b : Int) (by rw [World.size_alloc])))
  have HWF := Lib.hid hwf
  have HOF := Lib.hid ho
  have HM : Hid (∀ w', Ext w w' → _) := fun w' (hx : Ext w w') => add_any p k a b (p ^ k : Nat) ao len cap w' hF.p2 hF.p61 hF.k1 hF.k6 h64 (by omega) (by omega)
  obtain ⟨v, hv⟩ : ∃ v, addF p k a b = v := ⟨_, rfl⟩
  rw [hv] at HM ⊢
  obtain ⟨q, hq⟩ : ∃ q, p ^ k = q := ⟨_, rfl⟩
  rw [hq] at HM HOF
  clear hP hF hl hr ha hb hz ho h64 hwf hv hq
  go_enter Tryd.func69, Tryd.ntmps69
  go_wp2_with fail
  refine Calls.mono HW.out ?_
  rintro e w1 ⟨hwi, hx⟩
  obtain rfl := hwi.2 HWF.out
  rw [HOF.out]
  have HX1 := Lib.hid ((HX0.out.trans hx).alloc (.cells #[.int .i64 p, .int .i64 k, .slice ao len cap, .int .i64 q] 98))
  have HB : Hid (Blk (w1.alloc (.cells #[.int .i64 p, .int .i64 k, .slice ao len cap, .int .i64 q] 98)) w1.heap.size #[.int .i64 p, .int .i64 k, .slice ao len cap, .int .i64 q] 98) := Blk.new _ _ _
  clear hx hwi
  go_wp2_with fail
  refine Calls.mono (HM.out _ HX1.out) ?_
  rintro e w2 ⟨rfl, hx⟩
  have HX2 := Lib.hid (HX1.out.trans hx)
  clear hx
  go_wp2
  go_ret2
  exact ⟨rfl, HX2.out⟩

end Go.Proofs.YtnhdngnolepkcaaDoor

/- A product by shifts is the product; plain but for the words of the walk. -/
namespace Go.Proofs.YtnhdngnolepkcaaDoor
open Go.RowKit

/-- A factor, shifted again and again. -/
def mulX (p k : Nat) (low : List Int) (a : Nat) : Nat → Nat → Int
  | 0 => dgI p a
  | i + 1 => shP p k low (mulX p k low a i)
/-- A sum, as far as a place. -/
def mulIn (p : Nat) (O x : Nat → Int) (y : Int) (j m : Nat) : Int := if m < j then (O m + x m * y) % p else O m
/-- The product, as far as a digit. -/
def mulO (p k : Nat) (low : List Int) (a b : Nat) : Nat → Nat → Int
  | 0 => fun _ => 0
  | i + 1 => mulIn p (mulO p k low a b i) (mulX p k low a i) (dgI p b i) k
theorem mulIn_succ (p : Nat) (O x : Nat → Int) (y : Int) (j m : Nat) : mulIn p O x y (j + 1) m = upd (mulIn p O x y j) j ((O j + x j * y) % p) m := by
  unfold upd mulIn
  by_cases e : m = j
  · subst e; rw [if_pos (by omega), if_pos rfl]
  · rw [if_neg e]
    by_cases h : m < j
    · rw [if_pos (by omega), if_pos h]
    · rw [if_neg (by omega), if_neg h]
theorem mulX_dig {p k : Nat} {low : List Int} (hp : 0 < p) (a : Nat) : ∀ i, Dig p (mulX p k low a i)
  | 0 => dgI_dig hp a
  | _ + 1 => shP_dig hp
theorem mulIn_dig {p : Nat} {O x : Nat → Int} {y : Int} (hp : 0 < p) (h : Dig p O) (j : Nat) : Dig p (mulIn p O x y j) := fun m => by
  unfold mulIn
  split
  · exact ⟨Int.emod_nonneg _ (by omega), Int.emod_lt_of_pos _ (by omega)⟩
  · exact h m
theorem mulO_dig {p k : Nat} {low : List Int} (hp : 0 < p) (a b : Nat) : ∀ i, Dig p (mulO p k low a b i)
  | 0 => fun _ => by show (0 : Int) ≤ 0 ∧ (0 : Int) < p; omega
  | i + 1 => mulIn_dig hp (mulO_dig hp a b i) k

theorem mulX_cg {p k : Nat} {low : List Int} (a : Nat) : ∀ i m, m < k → Cg p (mulX p k low a i m) (sm (fun j => (dgt p a j : Int) * pwx k (nth low) (i + j) m) k)
  | 0, m, hm => by
    refine Cg.of_eq ?_
    rw [sm_one (k := m) k hm (fun j hj he => by rw [Nat.zero_add, pwx_small (nth low) j m hj hm, if_neg (Ne.symm he), Int.mul_zero]), Nat.zero_add, pwx_small (nth low) m m hm hm, if_pos rfl, Int.mul_one]
    rfl
  | i + 1, m, hm => by
    have e : sm (fun j => (dgt p a j : Int) * pwx k (nth low) (i + 1 + j) m) k = sm (fun j => (dgt p a j : Int) * pwx k (nth low) (i + j + 1) m) k := sm_congr k fun j _ => by rw [show i + 1 + j = i + j + 1 by omega]
    rw [e, sum_step (k := k) (nth low) (fun j => (dgt p a j : Int)) (fun j => i + j) k m]
    have ih1 := mulX_cg (p := p) (k := k) (low := low) a i (k - 1) (by omega)
    show Cg p (shP p k low (mulX p k low a i) m) _
    unfold shP
    rw [if_pos hm]
    refine (Cg.mod _ _).trans ?_
    have h2 : Cg p ((p - mulX p k low a i (k - 1)) * nth low m) (-(mulX p k low a i (k - 1) * nth low m)) := ⟨nth low m, by rw [Int.sub_mul]; omega⟩
    by_cases h0 : 0 < m
    · rw [if_pos h0, if_pos h0, Int.sub_eq_add_neg]
      exact (mulX_cg (p := p) (k := k) (low := low) a i (m - 1) (by omega)).add (h2.trans (ih1.mul_right _).neg)
    · rw [if_neg h0, if_neg h0, Int.sub_eq_add_neg]
      exact (Cg.refl _ _).add (h2.trans (ih1.mul_right _).neg)
theorem mulO_cg {p k : Nat} {low : List Int} (a b : Nat) : ∀ i m, m < k → Cg p (mulO p k low a b i m) (sm (fun i => sm (fun j => (dgt p b i : Int) * (dgt p a j : Int) * pwx k (nth low) (i + j) m) k) i)
  | 0, m, _ => Cg.refl _ _
  | i + 1, m, hm => by
    show Cg p (mulIn p (mulO p k low a b i) (mulX p k low a i) (dgI p b i) k m) _
    unfold mulIn
    rw [if_pos hm, sm]
    refine (Cg.mod _ _).trans ((mulO_cg a b i m hm).add ?_)
    have h1 := (mulX_cg (p := p) (low := low) a i m hm).mul_right (dgI p b i)
    refine h1.trans (Cg.of_eq ?_)
    rw [← sm_mulr]
    exact sm_congr k fun j _ => by unfold dgI; rw [Int.mul_comm, Int.mul_assoc]
theorem mulO_num {p k : Nat} {low : List Int} (hp : 0 < p) (a b : Nat) : num p (fun m => (mulO p k low a b k m).toNat) k = mulF p k (nth low) a b := by
  unfold mulF
  refine num_congr k fun m hm => ?_
  have h1 := mulO_cg (p := p) (low := low) a b k m hm
  have h2 := mulO_dig (p := p) (k := k) (low := low) hp a b k m
  have h3 := mod_bd hp (prd p k (nth low) a b m)
  have h4 := (h1.trans (Cg.mod (p : Int) (prd p k (nth low) a b m)).symm).eq h2.1 h2.2 h3.1 h3.2
  rw [h4]

end Go.Proofs.YtnhdngnolepkcaaDoor
