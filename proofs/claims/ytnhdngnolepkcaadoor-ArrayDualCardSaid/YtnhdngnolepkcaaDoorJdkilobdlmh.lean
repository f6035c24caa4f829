/- The product by all pairs, folded: it is the product; plain. -/
import Derived.Test.YtnhdngnolepkcaaDoorJnonaehfcpg
import Derived.Test.YtnhdngnolepkcaaDoorJcjilpgjace
import Derived.Test.YtnhdngnolepkcaaDoorJcnbnjdcfnn
namespace Go.Proofs.YtnhdngnolepkcaaDoor
open Go.RowKit

theorem sm_upd (f c : Nat → Int) (q : Nat) (v : Int) : ∀ N, q < N → sm (fun n => upd f q v n * c n) N = sm (fun n => f n * c n) N + (v - f q) * c q
  | 0, h => by omega
  | N + 1, h => by
    rw [sm, sm]
    by_cases e : q = N
    · subst e
      have : sm (fun n => upd f q v n * c n) q = sm (fun n => f n * c n) q := sm_congr q fun i hi => by unfold upd; rw [if_neg (by omega)]
      rw [this]
      unfold upd
      rw [if_pos rfl, Int.sub_mul]; omega
    · rw [sm_upd f c q v N (by omega)]
      unfold upd
      rw [if_neg (Ne.symm e)]; omega

/-- A row of products. -/
def prI (p i : Nat) (x : Int) (y f : Nat → Int) : Nat → Nat → Int
  | 0 => f
  | j + 1 => upd (prI p i x y f j) (i + j) ((prI p i x y f j (i + j) + x * y j) % p)
/-- All rows of products. -/
def prR (p k : Nat) (x y : Nat → Int) : Nat → Nat → Int
  | 0 => fun _ => 0
  | i + 1 => prI p i (x i) y (prR p k x y i) k
/-- A fold. -/
def rdI (p k i : Nat) (c : Int) (low f : Nat → Int) : Nat → Nat → Int
  | 0 => upd f i 0
  | j + 1 => upd (rdI p k i c low f j) (i - k + j) ((rdI p k i c low f j (i - k + j) - c * low j) % p)
/-- All folds, from the place N - 1 on down. -/
def rdS (p k N : Nat) (low f : Nat → Int) : Nat → Nat → Int
  | 0 => f
  | c + 1 => rdI p k (N - 1 - c) (rdS p k N low f c (N - 1 - c)) low (rdS p k N low f c) k

def Dig2 (p : Nat) (f : Nat → Int) : Prop := ∀ m, 0 ≤ f m ∧ f m < p
theorem upd_dig2 {p : Nat} {f : Nat → Int} (h : Dig2 p f) {q : Nat} {v : Int} (h0 : 0 ≤ v) (h1 : v < p) : Dig2 p (upd f q v) := fun m => by
  unfold upd; split
  · exact ⟨h0, h1⟩
  · exact h m
section
variable {p k : Nat} (hp : 0 < p)
include hp
theorem prI_dig {i : Nat} {x : Int} {y f : Nat → Int} (h : Dig2 p f) : ∀ j, Dig2 p (prI p i x y f j)
  | 0 => h
  | j + 1 => upd_dig2 (prI_dig h j) (mod_bd hp _).1 (mod_bd hp _).2
theorem prR_dig (x y : Nat → Int) : ∀ i, Dig2 p (prR p k x y i)
  | 0 => fun _ => by show (0 : Int) ≤ 0 ∧ (0 : Int) < p; omega
  | i + 1 => prI_dig hp (prR_dig x y i) k
theorem rdI_dig {i : Nat} {c : Int} {low f : Nat → Int} (h : Dig2 p f) : ∀ j, Dig2 p (rdI p k i c low f j)
  | 0 => upd_dig2 h (by omega) (by omega)
  | j + 1 => upd_dig2 (rdI_dig h j) (mod_bd hp _).1 (mod_bd hp _).2
theorem rdS_dig {N : Nat} {low f : Nat → Int} (h : Dig2 p f) : ∀ c, Dig2 p (rdS p k N low f c)
  | 0 => h
  | c + 1 => rdI_dig hp (rdS_dig h c) k
end

/-- What the places weigh. -/
def wgt (k N : Nat) (low : Nat → Int) (m : Nat) (f : Nat → Int) : Int := sm (fun n => f n * pwx k low n m) N
theorem wgt_prI {p k N i m : Nat} {x : Int} {y f low : Nat → Int} : ∀ j, i + j ≤ N → Cg p (wgt k N low m (prI p i x y f j)) (wgt k N low m f + sm (fun j => x * y j * pwx k low (i + j) m) j)
  | 0, _ => Cg.of_eq (by simp [prI, sm])
  | j + 1, h => by
    have ih := wgt_prI (p := p) (k := k) (N := N) (i := i) (m := m) (x := x) (y := y) (f := f) (low := low) j (by omega)
    show Cg p (wgt k N low m (upd (prI p i x y f j) (i + j) ((prI p i x y f j (i + j) + x * y j) % p))) _
    unfold wgt at ih ⊢
    rw [sm_upd _ _ _ _ N (by omega), sm]
    have h1 : Cg p (((prI p i x y f j (i + j) + x * y j) % p - prI p i x y f j (i + j)) * pwx k low (i + j) m) (x * y j * pwx k low (i + j) m) := by
      refine Cg.mul_right _ ?_
      have := (Cg.mod (p : Int) (prI p i x y f j (i + j) + x * y j)).sub (Cg.refl (p : Int) (prI p i x y f j (i + j)))
      refine this.trans (Cg.of_eq (by omega))
    refine (ih.add h1).trans (Cg.of_eq (by omega))
theorem wgt_prR {p k N m : Nat} {x y low : Nat → Int} : ∀ i, i + k ≤ N + 1 → i ≤ k → Cg p (wgt k N low m (prR p k x y i)) (sm (fun i => sm (fun j => x i * y j * pwx k low (i + j) m) k) i)
  | 0, _, _ => Cg.of_eq (by
    show wgt k N low m (fun _ => 0) = 0
    unfold wgt; exact sm_nil N fun i _ => by simp)
  | i + 1, h, hk => by
    have h1 := wgt_prI (p := p) (k := k) (N := N) (i := i) (m := m) (x := x i) (y := y) (f := prR p k x y i) (low := low) k (by omega)
    have ih := wgt_prR (p := p) (k := k) (N := N) (m := m) (x := x) (y := y) (low := low) i (by omega) (by omega)
    rw [sm]
    exact h1.trans (ih.add (Cg.refl _ _))
theorem wgt_rdI {p k N i m : Nat} {low f : Nat → Int} (hi : i < N) (hk : 1 ≤ k) (hki : k ≤ i) : ∀ j, j ≤ k → Cg p (wgt k N low m (rdI p k i (f i) low f j)) (wgt k N low m f - f i * (pwx k low i m + sm (fun j => low j * pwx k low (i - k + j) m) j))
  | 0, _ => Cg.of_eq (by
    show wgt k N low m (upd f i 0) = _
    unfold wgt
    rw [sm_upd _ _ _ _ N hi, sm, Int.add_zero, Int.zero_sub, Int.neg_mul]; omega)
  | j + 1, h => by
    have ih := wgt_rdI (p := p) (k := k) (N := N) (i := i) (m := m) (low := low) (f := f) hi hk hki j (by omega)
    show Cg p (wgt k N low m (upd (rdI p k i (f i) low f j) (i - k + j) ((rdI p k i (f i) low f j (i - k + j) - f i * low j) % p))) _
    unfold wgt at ih ⊢
    rw [sm_upd _ _ _ _ N (by omega), sm]
    have h1 : Cg p (((rdI p k i (f i) low f j (i - k + j) - f i * low j) % p - rdI p k i (f i) low f j (i - k + j)) * pwx k low (i - k + j) m) (-(f i * low j) * pwx k low (i - k + j) m) := by
      refine Cg.mul_right _ ?_
      have := (Cg.mod (p : Int) (rdI p k i (f i) low f j (i - k + j) - f i * low j)).sub (Cg.refl (p : Int) (rdI p k i (f i) low f j (i - k + j)))
      refine this.trans (Cg.of_eq (by omega))
    refine (ih.add h1).trans (Cg.of_eq ?_)
    rw [Int.mul_add (f i) (pwx k low i m) (sm (fun j => low j * pwx k low (i - k + j) m) j + low j * pwx k low (i - k + j) m), Int.mul_add (f i) (sm _ j), Int.mul_add (f i) (pwx k low i m), ← Int.mul_assoc (f i) (low j), Int.neg_mul]
    omega
theorem wgt_fold {p k N i m : Nat} {low f : Nat → Int} (hi : i < N) (hk : 1 ≤ k) (hki : k ≤ i) (hm : m < k) : Cg p (wgt k N low m (rdI p k i (f i) low f k)) (wgt k N low m f) := by
  refine (wgt_rdI (p := p) hi hk hki k (Nat.le_refl _)).trans (Cg.of_eq ?_)
  have h := pwx_fold (k := k) low hk (i - k) m hm
  rw [show k + (i - k) = i by omega] at h
  have e : sm (fun j => low j * pwx k low (i - k + j) m) k = sm (fun j => low j * pwx k low (j + (i - k)) m) k := sm_congr k fun j _ => by rw [Nat.add_comm]
  rw [h, e, Int.add_comm, Int.add_right_neg, Int.mul_zero]; omega
theorem wgt_rdS {p k N m : Nat} {low f : Nat → Int} (hk : 1 ≤ k) (hm : m < k) : ∀ c, c + k ≤ N → Cg p (wgt k N low m (rdS p k N low f c)) (wgt k N low m f)
  | 0, _ => Cg.refl _ _
  | c + 1, h => (wgt_fold (p := p) (i := N - 1 - c) (by omega) hk (by omega) hm).trans (wgt_rdS hk hm c (by omega))
/-- What has been folded is 0. -/
theorem rdI_zero {p k i : Nat} {c : Int} {low f : Nat → Int} (hki : k ≤ i) {n : Nat} (hn : i ≤ n) (hf : ∀ n, i < n → f n = 0) : ∀ j, j ≤ k → rdI p k i c low f j n = 0
  | 0, _ => by
    show upd f i 0 n = 0
    unfold upd
    by_cases e : n = i
    · rw [if_pos e]
    · rw [if_neg e]; exact hf n (by omega)
  | j + 1, h => by
    show upd (rdI p k i c low f j) (i - k + j) _ n = 0
    unfold upd
    rw [if_neg (by omega)]
    exact rdI_zero hki hn hf j (by omega)
theorem rdS_zero {p k N : Nat} {low f : Nat → Int} (hf : ∀ n, N ≤ n → f n = 0) : ∀ c, c + k ≤ N → ∀ n, N - c ≤ n → rdS p k N low f c n = 0
  | 0, _, n, hn => hf n (by omega)
  | c + 1, h, n, hn => rdI_zero (by omega) (by omega) (fun n hn => rdS_zero hf c (by omega) n (by omega)) k (Nat.le_refl _)
theorem prI_zero {p i : Nat} {x : Int} {y f : Nat → Int} {n : Nat} (hf : f n = 0) : ∀ j, i + j ≤ n → prI p i x y f j n = 0
  | 0, _ => hf
  | j + 1, h => by
    show upd (prI p i x y f j) (i + j) _ n = 0
    unfold upd
    rw [if_neg (by omega)]
    exact prI_zero hf j (by omega)
theorem prR_zero {p k : Nat} {x y : Nat → Int} {n : Nat} : ∀ i, i + k ≤ n + 1 → prR p k x y i n = 0
  | 0, _ => rfl
  | i + 1, h => prI_zero (prR_zero i (by omega)) k (by omega)

/-- The reference's product. -/
def refZ (p k : Nat) (low : Nat → Int) (a b : Nat) : Nat → Int := rdS p k (k + k) low (prR p k (dgI p a) (dgI p b) k) k
theorem refZ_dig {p k : Nat} {low : Nat → Int} (hp : 0 < p) (a b : Nat) : Dig2 p (refZ p k low a b) := rdS_dig hp (prR_dig hp _ _ k) k
theorem refZ_num {p k : Nat} {low : Nat → Int} (hp : 0 < p) (hk : 1 ≤ k) (a b : Nat) : num p (fun m => (refZ p k low a b m).toNat) k = mulF p k low a b := by
  unfold mulF
  refine num_congr k fun m hm => ?_
  have h1 := wgt_rdS (p := p) (k := k) (N := k + k) (m := m) (low := low) (f := prR p k (dgI p a) (dgI p b) k) hk hm k (Nat.le_refl _)
  have h2 := wgt_prR (p := p) (k := k) (N := k + k) (m := m) (x := dgI p a) (y := dgI p b) (low := low) k (by omega) (Nat.le_refl _)
  have h3 : wgt k (k + k) low m (refZ p k low a b) = refZ p k low a b m := by
    unfold wgt
    rw [sm_one (k := m) (k + k) (by omega) (fun n hn he => ?_), pwx_small low m m hm hm, if_pos rfl, Int.mul_one]
    by_cases hnk : n < k
    · rw [pwx_small low n m hnk hm, if_neg (Ne.symm he), Int.mul_zero]
    · have : refZ p k low a b n = 0 := rdS_zero (fun n hn => prR_zero k (by omega)) k (Nat.le_refl _) n (by omega)
      rw [this, Int.zero_mul]
  have h4 : sm (fun i => sm (fun j => dgI p a i * dgI p b j * pwx k low (i + j) m) k) k = prd p k low a b m := by
    rw [prd_comm]; rfl
  have h5 := h1.trans h2
  rw [h4] at h5
  change Cg p (wgt k (k + k) low m (refZ p k low a b)) _ at h5
  rw [h3] at h5
  have h6 := refZ_dig (k := k) (low := low) hp a b m
  have h7 := mod_bd hp (prd p k low a b m)
  have h8 := (h5.trans (Cg.mod (p : Int) (prd p k low a b m)).symm).eq h6.1 h6.2 h7.1 h7.2
  rw [h8]

end Go.Proofs.YtnhdngnolepkcaaDoor

/- What parterreref1.Sum and Product answer. No conditions. -/
namespace Go.Proofs.YtnhdngnolepkcaaDoor
open Go.RowKit

/-- A row of the call's own that a function tells. -/
structure OwnF (w0 wr : World) (g N cap : Nat) (f : Nat → Int) : Prop where
  ext : Ext w0 wr
  row : RowOf 3 wr w0.heap.size (some ⟨g, 0, none⟩) N cap (ints (tab f N))
theorem OwnF.at {w0 wr : World} {g N cap : Nat} {f : Nat → Int} (h : OwnF w0 wr g N cap f) {j : Nat} (hj : j < N) : wr.cell? ⟨g, j, none⟩ = some (.int .i64 (f j)) := by
  have := h.row.known.2.2.1 j _ (ints_get (tab f N) j (by rw [tab_length]; exact hj))
  rwa [nth_tab f N j hj] at this
theorem OwnF.f {w0 wr : World} {g N cap : Nat} {f : Nat → Int} (h : OwnF w0 wr g N cap f) (j : Nat) : wr.frozen? ⟨g, j, none⟩ = false := h.row.known.2.2.2 j
theorem OwnF.lt {w0 wr : World} {g N cap : Nat} {f : Nat → Int} (h : OwnF w0 wr g N cap f) : w0.heap.size ≤ g ∧ g < wr.heap.size := ⟨h.row.known.1, h.row.known.2.1⟩
theorem OwnF.carry {w0 wr w' : World} {g N cap : Nat} {f : Nat → Int} (h : OwnF w0 wr g N cap f) (hx : Ext wr w') : OwnF w0 w' g N cap f := ⟨h.ext.trans hx, hx.row h.row⟩
theorem OwnF.set {w0 wr : World} {g N cap : Nat} {f : Nat → Int} (h : OwnF w0 wr g N cap f) {j : Nat} (hj : j < N) (v : Int) : OwnF w0 (wr.setCell ⟨g, j, none⟩ (.int .i64 v)) g N cap (upd f j v) :=
  ⟨h.ext.set h.lt.1 _, by rw [← tab_upd f N j v hj]; exact h.row.stored j _⟩
theorem OwnF.drew {w0 wr : World} {g N cap : Nat} {f : Nat → Int} (h : OwnF w0 wr g N cap f) : OwnF w0 wr.drew g N cap f := ⟨h.ext.drew, World.ownsRow.drew h.row⟩
theorem OwnF.congr {w0 wr : World} {g N cap : Nat} {f f' : Nat → Int} (h : OwnF w0 wr g N cap f) (he : ∀ j, j < N → f j = f' j) : OwnF w0 wr g N cap f' := ⟨h.ext, by rw [← tab_congr f f' N he]; exact h.row⟩
theorem OwnF.reads {w0 wr : World} {g N cap : Nat} {f : Nat → Int} (h : OwnF w0 wr g N cap f) : Reads wr (some ⟨g, 0, none⟩) (ints (tab f N)) := h.row.reads
theorem OwnInts.f {w0 wr : World} {v : Value} {f : Nat → Int} {N : Nat} (h : OwnInts w0 wr v (tab f N)) (hN : 0 < N) : ∃ g cap, v = .slice (some ⟨g, 0, none⟩) N cap ∧ OwnF w0 wr g N cap f := by
  obtain ⟨ao, n, cap, rfl, h1, h2⟩ := h
  have hn : n = N := by have := h1.length; rw [ints_length, tab_length] at this; omega
  subst hn
  obtain ⟨g, rfl, _⟩ := h1.opened hN
  exact ⟨g, cap, rfl, h2, h1⟩

set_option maxHeartbeats 4000000 in
set_option maxRecDepth 100000 in
theorem sumOf_any (p k a b : Nat) (ao : Option Addr) (len cap : Nat) (w : World) (h2 : 2 ≤ p) (h61 : p ≤ 61) (hk1 : 1 ≤ k) (hk6 : k ≤ 6) (h64 : p ^ k ≤ 64) (ha : a < 128) (hb : b < 128) :
    Calls Tryd.prog 42 #[.agg #[.int .i64 p, .int .i64 k, .slice ao len cap], .int .i64 a, .int .i64 b] w fun e w' => e = .returned (.int .i64 (addF p k a b : Nat)) ∧ Ext w w' := by
  have HA : Hid (∀ w, _) := fun w => digitsOf_any p a k w h2 h61 ha (by omega)
  have HB : Hid (∀ w, _) := fun w => digitsOf_any p b k w h2 h61 hb (by omega)
  have H0 : Hid (Blk (w.alloc (.cells #[.int .i64 p, .int .i64 k, .slice ao len cap] 24)) w.heap.size #[.int .i64 p, .int .i64 k, .slice ao len cap] 24) := Blk.new _ _ _
  have HX0 : Hid (Ext w (w.alloc (.cells #[.int .i64 p, .int .i64 k, .slice ao len cap] 24))) := (Ext.refl w).alloc _
  go_enter Tryd.func42, Tryd.ntmps42
  go_wp2_with fail
  obtain ⟨w0, hw0⟩ : ∃ w0, w0 = w.alloc (.cells #[.int .i64 p, .int .i64 k, .slice ao len cap] 24) := ⟨_, rfl⟩
  rw [← hw0] at H0 HX0 ⊢
  clear hw0
  refine Calls.mono (HA.out _) ?_
  rintro e w1 ⟨v1, rfl, ho⟩
  obtain ⟨g1, c1, rfl, hof⟩ := ho.f (by omega)
  have O1 := Lib.hid hof
  have F1 := Lib.hid (H0.out.ext hof.ext)
  obtain ⟨t1, t2, t3⟩ := F1.out.three
  clear ho hof
  go_wp2_with fail
  refine Calls.mono (HB.out _) ?_
  rintro e w2 ⟨v2, rfl, ho⟩
  obtain ⟨g2, c2, rfl, hof⟩ := ho.f (by omega)
  have O2 := Lib.hid hof
  have O1' := Lib.hid (O1.out.carry hof.ext)
  have F2 := Lib.hid (F1.out.ext hof.ext)
  have hgg : g1 < g2 := by have := O1.out.lt.2; have := hof.lt.1; omega
  have hwg : w.heap.size < g1 := by have := O1.out.lt.1; have := H0.out.lt; omega
  have HX2 := Lib.hid ((HX0.out.trans O1.out.ext).trans hof.ext)
  clear ho hof t1 t2 t3
  go_wp2
  go_loopw [9] (fun x wr => ∃ i : Nat, i ≤ k ∧ x = .int .i64 i ∧ OwnF w0 wr g1 k c1 (adU p a b i) ∧ (∀ j, j < k → wr.cell? ⟨g2, j, none⟩ = some (.int .i64 (dgI p b j))) ∧ Blk wr w.heap.size #[.int .i64 p, .int .i64 k, .slice ao len cap] 24) (fun x _ => k - (intOf x).toNat)
  case atStart => exact ⟨0, by omega, rfl, O1'.out.congr fun m _ => by unfold adU; rw [if_neg (by omega)], fun j hj => O2.out.at hj, F2.out⟩
  case round =>
    obtain ⟨i, hi, rfl, ho, hy, hf⟩ := hrel
    have HO := Lib.hid ho
    have HY := Lib.hid hy
    have HF := Lib.hid hf
    clear ho hy hf
    obtain ⟨t1, t2, t3⟩ := HF.out.three
    by_cases hik : i < k
    · have t4 := HO.out.at hik
      have t5 := HO.out.f i
      have t6 := HY.out i hik
      rw [show adU p a b i i = dgI p a i from by unfold adU; rw [if_neg (by omega)]] at t4
      have HN : Hid (OwnF w0 (wr.setCell ⟨g1, i, none⟩ (.int .i64 ((dgI p a i + dgI p b i) % p))) g1 k c1 (adU p a b (i + 1)) ∧ (∀ j, j < k → (wr.setCell ⟨g1, i, none⟩ (.int .i64 ((dgI p a i + dgI p b i) % p))).cell? ⟨g2, j, none⟩ = some (.int .i64 (dgI p b j))) ∧ Blk (wr.setCell ⟨g1, i, none⟩ (.int .i64 ((dgI p a i + dgI p b i) % p))) w.heap.size #[.int .i64 p, .int .i64 k, .slice ao len cap] 24) :=
        ⟨(HO.out.set hik _).congr fun m _ => (adU_succ p a b i m).symm, fun j hj => by rw [World.cell?_of_block (w := wr) (Below.heap_setCell wr ⟨g1, i, none⟩ _ g2 (by simp; omega))]; exact HY.out j hj, HF.out.beside _ (by simp; omega) _⟩
      have hx := dgI_dig (p := p) (by omega) a i
      have hy := dgI_dig (p := p) (by omega) b i
      obtain ⟨x, hxx⟩ : ∃ x, dgI p a i = x := ⟨_, rfl⟩
      obtain ⟨y, hyy⟩ : ∃ y, dgI p b i = y := ⟨_, rfl⟩
      rw [hxx] at t4 HN hx
      rw [hyy] at t6 HN hy
      obtain ⟨hx1, hx2⟩ := hx
      obtain ⟨hy1, hy2⟩ := hy
      have hia : (0 : Int) ≤ (i : Int) := by omega
      have hib : (i : Int) < k := by omega
      clear hxx hyy
      obtain ⟨wo, rfl⟩ : ∃ wo : World, wo = wr := ⟨_, rfl⟩
      go_wp2
      go_region
      all_goals
        go_wp2
        exact ⟨⟨i + 1, by omega, by go_num, HN.out.1.drew, fun j hj => HN.out.2.1 j hj, HN.out.2.2.drew⟩, by simp [intOf]; omega⟩
    · obtain rfl : k = i := by omega
      have HNUM := Lib.hid (numberOf_any p k (some ⟨g1, 0, none⟩) c1 (tab (adU p a b k) k) (fun m => (dgt p a m + dgt p b m) % p) wr h2 h61 hk1 hk6 h64 (fun _ => Nat.mod_lt _ (by omega)) (tab_length _ _) (fun m hm => by rw [nth_tab _ _ _ hm]; unfold adU; rw [if_pos hm]) HO.out.reads)
      go_wp2_with fail
      refine Calls.mono HNUM.out ?_
      rintro e w3 ⟨rfl, rfl⟩
      have HX3 := Lib.hid (HX0.out.trans HO.out.ext)
      go_wp2
      go_ret
      exact ⟨rfl, HX3.out⟩

set_option maxHeartbeats 4000000 in
set_option maxRecDepth 100000 in
theorem productOf_any (p k : Nat) (x y : Nat → Int) (ao bo : Option Addr) (cap cap' : Nat) (w : World) (h2 : 2 ≤ p) (h61 : p ≤ 61) (hk1 : 1 ≤ k) (hk6 : k ≤ 6) (hx : Dig p x) (hy : Dig p y) (ra : Reads w ao (ints (tab x k))) (rb : Reads w bo (ints (tab y k))) :
    Calls Tryd.prog 40 #[.slice ao k cap, .slice bo k cap', .int .i64 p] w fun e w' => ∃ g c, e = .returned (.slice (some ⟨g, 0, none⟩) (k + k) c) ∧ OwnF w w' g (k + k) c (prR p k x y k) := by
  obtain ⟨b1, o1, rfl, hb1, hc1⟩ := Reads.int ra (by rw [tab_length]; omega)
  obtain ⟨b2, o2, rfl, hb2, hc2⟩ := Reads.int rb (by rw [tab_length]; omega)
  have HC1 : Hid (∀ j, j < k → w.cell? ⟨b1, o1 + j, none⟩ = some (.int .i64 (x j))) := fun j hj => by rw [hc1 j (by rw [tab_length]; exact hj), nth_tab _ _ _ hj]
  have HC2 : Hid (∀ j, j < k → w.cell? ⟨b2, o2 + j, none⟩ = some (.int .i64 (y j))) := fun j hj => by rw [hc2 j (by rw [tab_length]; exact hj), nth_tab _ _ _ hj]
  have HXD := Lib.hid hx
  have HYD := Lib.hid hy
  obtain ⟨N, hN⟩ : ∃ N, N = k + k := ⟨_, rfl⟩
  have hN' : (k : Int) + (k : Int) = (N : Int) := by omega
  have hmk := mk_ints N (by omega) w
  have hN1 : N ≤ k + k := by omega
  have hN2 : k + k ≤ N := by omega
  rw [← hN]
  clear hN ra rb hc1 hc2 hx hy
  have H0 : Hid (OwnF w (w.alloc (.cells (madeCells #[.int .i64 0] N) 3)) w.heap.size N N (prR p k x y 0)) := ⟨(Ext.refl w).alloc _, by
    have h := RowOf.made w N (by omega) (b := w.heap.size) rfl
    rw [tab_zero] at h
    exact h⟩
  go_enter Tryd.func40, Tryd.ntmps40
  go_wp2
  obtain ⟨g, hg⟩ : ∃ g, g = w.heap.size := ⟨_, rfl⟩
  obtain ⟨w1, hw1⟩ : ∃ w1, w1 = w.alloc (.cells (madeCells #[.int .i64 0] N) 3) := ⟨_, rfl⟩
  rw [← hw1, ← hg] at H0
  rw [← hw1, ← hg]
  clear hw1 hg hmk
  go_loopw [8] (fun a wr => ∃ i : Nat, i ≤ k ∧ a = .int .i64 i ∧ OwnF w wr g N N (prR p k x y i)) (fun a _ => k - (intOf a).toNat)
  case atStart => exact ⟨0, by omega, rfl, H0.out⟩
  case round =>
    obtain ⟨i, hi, rfl, ho⟩ := hrel
    have HO := Lib.hid ho
    clear ho H0
    by_cases hik : i < k
    · obtain ⟨F, hF⟩ : ∃ F, prR p k x y i = F := ⟨_, rfl⟩
      have HFD : Hid (Dig2 p F) := by rw [← hF]; exact prR_dig (by omega) x y i
      have HNX : Hid (prR p k x y (i + 1) = prI p i (x i) y F k) := by rw [← hF]; rfl
      rw [hF] at HO
      clear hF
      obtain ⟨wo, rfl⟩ : ∃ wo : World, wo = wr := ⟨_, rfl⟩
      go_wp2
      have H2 : Hid (OwnF w wo g N N (prI p i (x i) y F 0)) := HO.out
      go_loopw [9] (fun a wr => ∃ j : Nat, j ≤ k ∧ a = .int .i64 j ∧ OwnF w wr g N N (prI p i (x i) y F j)) (fun a _ => k - (intOf a).toNat)
      case atStart => exact ⟨0, by omega, rfl, H2.out⟩
      case round =>
        obtain ⟨j, hj, rfl, ho⟩ := hrel
        have HO2 := Lib.hid ho
        clear ho H2 HO
        by_cases hjk : j < k
        · obtain ⟨q, hq⟩ : ∃ q, i + j = q := ⟨_, rfl⟩
          have hq' : (i : Int) + j = q := by omega
          have t1 := HO2.out.at (j := q) (by omega)
          have t2 := HO2.out.f q
          have t3 := (HO2.out.ext.cell hb1).trans (HC1.out i hik)
          have t4 := (HO2.out.ext.cell hb2).trans (HC2.out j hjk)
          have ho := prI_dig (i := i) (x := x i) (y := y) (by omega) HFD.out j q
          have HN : Hid (OwnF w (wr.setCell ⟨g, q, none⟩ (.int .i64 ((prI p i (x i) y F j q + x i * y j) % p))) g N N (prI p i (x i) y F (j + 1))) := by
            have := HO2.out.set (j := q) (by omega) ((prI p i (x i) y F j q + x i * y j) % p)
            rw [← hq] at this ⊢
            exact this
          have hxb := HXD.out i
          have hyb := HYD.out j
          obtain ⟨o, hoo⟩ : ∃ o, prI p i (x i) y F j q = o := ⟨_, rfl⟩
          obtain ⟨x', hxx⟩ : ∃ x', x i = x' := ⟨_, rfl⟩
          obtain ⟨y', hyy⟩ : ∃ y', y j = y' := ⟨_, rfl⟩
          rw [hoo] at t1 HN ho
          rw [hxx] at t3 HN hxb
          rw [hyy] at t4 HN hyb
          rw [hxx]
          obtain ⟨hx1, hx2⟩ := hxb
          obtain ⟨ho1, ho2⟩ := ho
          obtain ⟨hy1, hy2⟩ := hyb
          have hm1 : 0 ≤ x' * y' := Int.mul_nonneg (by omega) (by omega)
          have hm2 : x' * y' ≤ 61 * 61 := Int.mul_le_mul (by omega) (by omega) (by omega) (by omega)
          obtain ⟨z, hz⟩ : ∃ z, x' * y' = z := ⟨_, rfl⟩
          rw [hz] at hm1 hm2 HN
          have hqa : (0 : Int) ≤ (q : Int) := by omega
          have hqb : (q : Int) < N := by omega
          clear hoo hxx hyy hq
          obtain ⟨wq, rfl⟩ : ∃ wq : World, wq = wr := ⟨_, rfl⟩
          go_wp2
          go_region
          all_goals
            go_wp2
            exact ⟨⟨j + 1, by omega, by go_num, HN.out.drew⟩, by simp [intOf]; omega⟩
        · obtain rfl : k = j := by omega
          go_wp2
          exact ⟨⟨i + 1, by omega, by go_num, by rw [HNX.out]; exact HO2.out⟩, by simp [intOf]; omega⟩
    · obtain rfl : k = i := by omega
      go_wp2
      go_ret
      exact ⟨g, N, rfl, HO.out⟩

end Go.Proofs.YtnhdngnolepkcaaDoor
