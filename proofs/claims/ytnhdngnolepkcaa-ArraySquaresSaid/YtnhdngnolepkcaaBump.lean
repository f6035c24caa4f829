/- Maps whose keys are arrays of ints, further: 'm[key]++', and how many keys there are. -/
import Derived.Test.YtnhdngnolepkcaaMapKeys
import Derived.WideKeyEntry
import Derived.Maps.OwnSet
namespace Go.Proofs.Ytnhdngnolepkcaa
open Go.RowKit Go.Maps Go.WideElems Go.MapKept
open Go.WideMaps (KeyLaw)
open Go.ChangeMaps (setBlock)

theorem nodup_len {α : Type} [DecidableEq α] : ∀ (l m : List α), l.Nodup → (∀ x ∈ l, x ∈ m) → l.length ≤ m.length
  | [], _, _, _ => Nat.zero_le _
  | a :: l, m, hn, hs => by
    rw [List.nodup_cons] at hn
    have ha := hs a (by simp)
    have h := nodup_len l (m.erase a) hn.2 (fun x hx => by
      rw [List.mem_erase_of_ne (show x ≠ a from fun e => hn.1 (e ▸ hx))]
      exact hs x (by simp [hx]))
    rw [List.length_erase_of_mem ha] at h
    have : 0 < m.length := List.length_pos_of_mem ha
    simp; omega
theorem nodup_len_eq {α : Type} [DecidableEq α] {l m : List α} (h1 : l.Nodup) (h2 : m.Nodup) (h : ∀ x, x ∈ l ↔ x ∈ m) : l.length = m.length :=
  Nat.le_antisymm (nodup_len l m h1 fun x hx => (h x).1 hx) (nodup_len m l h2 fun x hx => (h x).2 hx)

theorem pair_ne {α β : Type} {f : α → β} : ∀ {l : List α}, l.Pairwise (fun x y => f x ≠ f y) → ∀ {x y : α}, x ∈ l → y ∈ l → x ≠ y → f x ≠ f y
  | [], _, _, _, hx, _, _ => by simp at hx
  | a :: l, h, x, y, hx, hy, hne => by
    rw [List.pairwise_cons] at h
    rcases List.mem_cons.1 hx with e1 | hx'
    · rcases List.mem_cons.1 hy with e2 | hy'
      · exact absurd (e1.trans e2.symm) hne
      · rw [e1]; exact h.1 y hy'
    · rcases List.mem_cons.1 hy with e2 | hy'
      · rw [e2]; exact fun e => h.1 x hx' e.symm
      · exact pair_ne h.2 hx' hy' hne

section
variable {P : Program} {k e : TypeId} {n : Nat}

/-- How many keys: len. -/
theorem KMap.len {w : World} (h : KTy P k e n) (K : Keyed P k) {t : TypeId} (ht : P.underlying t = some (.map k e)) (hz : (zeroValue e).run P w = .ok (.int .i64 0) w) {b N : Nat} {f : List Int → Option Int} (hown : KMap P k e n w b N f) {ks : List (List Int)} (hk : ks.Nodup)
    (hks : ∀ xs ∈ ks, xs.length = n ∧ InI xs) (hf' : ∀ xs, xs.length = n → InI xs → ((f xs).isSome = true ↔ xs ∈ ks)) (ty : TypeId) :
    (Builtin.len_ #[t] ty #[.map (some b)]).run P w = .ok (.int .i64 ks.length) w := by
  obtain ⟨D, hD, hf⟩ := hown
  rw [hD.len ht ty]
  obtain ⟨es, clock, hb, F, hs, rfl⟩ := hD
  have e1 : Maps.size (DataW.map (H := Unit) ((es.toList.map (rg P k (plainElem P e))).foldr DataW.insert [])) = es.size := by simp [Maps.size, length_sorted]
  rw [e1]
  have hn : (es.toList.map (·.key)).Nodup := by
    have := ((stamped_iff es clock).1 F.stamped).2.2
    exact List.pairwise_map.2 this
  have hm : (ks.map kval).Nodup := List.pairwise_map.2 (List.Pairwise.imp (fun hne he => hne (kval_inj he)) hk)
  have hlook : ∀ xs, xs.length = n → InI xs → ((f xs).isSome = true ↔ ∃ x ∈ es.toList, x.key = kval xs) := fun xs hl hi => by
    rw [← has_of (hf xs hl hi)]
    rcases fit_look false K ht hz hb F (keyOf_k h xs hl hi) with ⟨_, h2, h3⟩ | ⟨e0, y, h2, h3, _, _, h4, _⟩
    · rw [has_false_of_atKey h3]
      exact ⟨fun h => by simp at h, fun ⟨x, hx, he⟩ => absurd he (h2 x hx)⟩
    · rw [has_true_of_atKey h4]
      exact ⟨fun _ => ⟨e0, h2, h3⟩, fun _ => rfl⟩
  have hlen : (es.toList.map (·.key)).length = (ks.map kval).length := by
    have hsub1 : ∀ v, v ∈ es.toList.map (·.key) ↔ v ∈ ks.map kval := fun v => by
      constructor
      · intro hv
        obtain ⟨x, hx, rfl⟩ := List.mem_map.1 hv
        obtain ⟨y, hy⟩ := F.reads x hx
        obtain ⟨xs, h1, h2, h3, _⟩ := key_inv h (rd_key hy)
        rw [h1]
        exact List.mem_map.2 ⟨xs, (hf' xs h2 h3).1 ((hlook xs h2 h3).2 ⟨x, hx, h1⟩), rfl⟩
      · intro hv
        obtain ⟨xs, hx, rfl⟩ := List.mem_map.1 hv
        obtain ⟨h2, h3⟩ := hks xs hx
        obtain ⟨x, hx2, he⟩ := (hlook xs h2 h3).1 ((hf' xs h2 h3).2 hx)
        exact List.mem_map.2 ⟨x, hx2, he⟩
    classical
    exact nodup_len_eq hn hm hsub1
  have : es.size = ks.length := by simpa using hlen
  rw [this]

/-- The entry's place is laid: as a store of what it has. -/
theorem entry_is_update {w : World} {t : TypeId} {R : Value → Option (DataW Unit × List MemPlace)} {b : Nat} {es : Array MapEntry} {clock : Nat} (K : KeyLaw P k) (ht : P.underlying t = some (.map k e)) {z : Value} (hz : ∀ u : World, (zeroValue e).run P u = .ok z u) (hb : w.heap[b]? = some (.map es clock)) (F : Fit P k R es clock)
    {key : Value} {kl : Lit} (hkey : keyOf P k key = some kl) {v0 : Value} {st : Nat} {w1 : World} (hrun : (Instr.mapEntry t (.map (some b)) key).run P w = .ok (.tuple #[v0, goInt st]) w1) :
    (Instr.mapUpdate t (.map (some b)) key v0).run P w = .ok () w1 := by
  rcases K.find w hkey es.toList F.keys with ⟨h1, h2⟩ | ⟨j, e0, h1, h2, h3⟩
  · have h4 : (Instr.mapEntry t (.map (some b)) key).run P w = .ok (.tuple #[z, goInt clock]) (setBlock w b (.map (es.push ⟨key, z, clock⟩) (clock + 1))) := by
      simp [Instr.mapEntry, run_underlying ht, MapKept.run_getObj_map hb, K.check w false hkey, h1, hz, MapKept.run_setObj_map _ hb, Result.andThen, setBlock]
    rw [h4] at hrun
    simp only [Result.ok.injEq, Value.tuple.injEq] at hrun
    obtain ⟨hv, rfl⟩ := hrun
    obtain rfl : z = v0 := by simp at hv; exact hv.1
    simp [Instr.mapUpdate, run_underlying ht, MapKept.run_getObj_map hb, K.check w false hkey, h1, MapKept.run_setObj_map _ hb, Result.andThen, setBlock]
  · have hj : es[j]? = some e0 := by simpa using h2
    have hsame : es.modify j (fun e => { e with key := key }) = es := by
      apply Array.ext'
      rw [Array.toList_modify, Go.ChangeMaps.modify_eq_set _ _ _ _ h2]
      have : ({ e0 with key := key } : MapEntry) = e0 := by rw [← h3]
      rw [this]
      exact set_self _ _ _ h2
    have hsame2 : es.modify j (fun e' => { e' with key := key, val := e0.val }) = es := by
      apply Array.ext'
      rw [Array.toList_modify, Go.ChangeMaps.modify_eq_set _ _ _ _ h2]
      have : ({ e0 with key := key, val := e0.val } : MapEntry) = e0 := by rw [← h3]
      rw [this]
      exact set_self _ _ _ h2
    have h4 : (Instr.mapEntry t (.map (some b)) key).run P w = .ok (.tuple #[e0.val, goInt e0.born]) (setBlock w b (.map es clock)) := by
      simp [Instr.mapEntry, run_underlying ht, MapKept.run_getObj_map hb, K.check w false hkey, h1, hj, h3, K.stays w hkey, hsame, MapKept.run_setObj_map _ hb, Result.andThen, setBlock]
    rw [h4] at hrun
    simp only [Result.ok.injEq, Value.tuple.injEq] at hrun
    obtain ⟨hv, rfl⟩ := hrun
    obtain rfl : e0.val = v0 := by simp at hv; exact hv.1
    simp [Instr.mapUpdate, run_underlying ht, MapKept.run_getObj_map hb, K.check w false hkey, h1, hj, h3, K.stays w hkey, hsame2, MapKept.run_setObj_map _ hb, Result.andThen, setBlock]

/-- What 'm[key]' is. -/
theorem KMap.look {w : World} (h : KTy P k e n) (K : Keyed P k) {t : TypeId} (ht : P.underlying t = some (.map k e)) (hz : (zeroValue e).run P w = .ok (.int .i64 0) w) {b N : Nat} {f : List Int → Option Int} (hown : KMap P k e n w b N f) (xs : List Int) (hl : xs.length = n) (hi : InI xs) :
    (Instr.lookup t (.map (some b)) (kval xs) false).run P w = .ok (.int .i64 ((f xs).getD 0)) w := by
  obtain ⟨D, hD, hf⟩ := hown
  obtain ⟨c, hrun, hc, _⟩ := hD.lookup_int K ht h.int hz (keyOf_k h xs hl hi)
  rw [hrun]
  cases hfx : f xs with
  | none =>
    rw [(hf xs hl hi).2 hfx] at hc
    cases hc; rfl
  | some v =>
    rw [(hf xs hl hi).1 v hfx] at hc
    cases hc; rfl

theorem setBlock_twice (w : World) (b : Nat) (o o' : Obj) : setBlock (setBlock w b o) b o' = setBlock w b o' := by
  simp [setBlock]
theorem setBlock_at {w : World} {b : Nat} (hb : b < w.heap.size) (o : Obj) : (setBlock w b o).heap[b]? = some o := by
  simp [setBlock, hb]

/-- 'm[key]++': the look-up, ahead of the entry's place or behind it; the place; the store. -/
theorem KMap.bump {w : World} (h : KTy P k e n) (KL : KeyLaw P k) {t : TypeId} (ht : P.underlying t = some (.map k e)) (hz : ∀ u : World, (zeroValue e).run P u = .ok (.int .i64 0) u) {b N : Nat} {f : List Int → Option Int} (hown : KMap P k e n w b N f) (hn : N < maxLen) (xs : List Int) (hl : xs.length = n) (hi : InI xs)
    (hc : (Lit.int .i64 ((f xs).getD 0 + 1)).wf = true) :
    ∃ (v0 : Value) (st : Int) (w1 w2 : World), (Instr.lookup t (.map (some b)) (kval xs) false).run P w = .ok (.int .i64 ((f xs).getD 0)) w ∧
      (Instr.mapEntry t (.map (some b)) (kval xs)).run P w = .ok (.tuple #[v0, .int .i64 st]) w1 ∧ w.grownBy w1 (some b) ∧
      (Instr.lookup t (.map (some b)) (kval xs) false).run P w1 = .ok (.int .i64 ((f xs).getD 0)) w1 ∧
      (Instr.entryStore t (.map (some b)) (.int .i64 st) (.int .i64 ((f xs).getD 0 + 1))).run P w1 = .ok () w2 ∧
      w.grownBy w2 (some b) ∧ KMap P k e n w2 b (N + 1) (put f xs ((f xs).getD 0 + 1)) := by
  have K := Keyed.of_law KL
  have hlook := hown.look h K ht (hz w) xs hl hi
  obtain ⟨w2, hup, hm2, hg2⟩ := KMap.update h K ht hown hn xs ((f xs).getD 0 + 1) hl hi hc
  have hown0 := hown
  obtain ⟨D, hD, hf⟩ := hown0
  have hlt := hD.lt
  obtain ⟨es, clock, hb, F, hs, rfl⟩ := hD
  have hkey := keyOf_k h xs hl hi
  obtain ⟨v0, st, es1, clock1, hent, hv0, hst⟩ := entry_then_store KL ht hz hb F hkey
  have hupd := entry_is_update KL ht hz hb F hkey hent
  have hv0' : v0 = .int .i64 ((f xs).getD 0) := by
    rcases fit_look false K ht (hz w) hb F hkey with ⟨hrun, h2, _⟩ | ⟨e0, y, h2, h3, hrun, _, _, _⟩
    · rw [hrun] at hlook
      rcases hv0 with ⟨e0, h4, h5, _⟩ | ⟨_, h5⟩
      · exact absurd h5 (h2 e0 h4)
      · rw [h5]; simpa using hlook
    · rw [hrun] at hlook
      rcases hv0 with ⟨e1, h4, h5, h6⟩ | ⟨h5, _⟩
      · rw [h6]
        have hp := ((stamped_iff es clock).1 F.stamped).2.2
        have : e1 = e0 := by
          by_cases he : e1 = e0
          · exact he
          · exact absurd (h5.trans h3.symm) (pair_ne hp h4 h2 he)
        rw [this]; simpa using hlook
      · exact absurd h3 (h5 e0 h2)
  subst hv0'
  have hwf0 : (Lit.int .i64 ((f xs).getD 0)).wf = true := by
    cases hfx : f xs with
    | none => rfl
    | some v =>
      obtain ⟨c, hrun, _, hw⟩ := World.ownsMap.lookup_int (w := w) (b := b) (n := N) ⟨es, clock, hb, F, hs, rfl⟩ K ht h.int (hz w) hkey
      rw [hlook] at hrun
      simp only [Result.ok.injEq, Value.int.injEq, true_and, and_true] at hrun
      rw [hfx] at hrun
      rw [← hrun] at hw
      exact hw
  obtain ⟨w1', hup1, hm1, hg1⟩ := KMap.update h K ht hown hn xs ((f xs).getD 0) hl hi hwf0
  rw [hupd] at hup1
  obtain rfl : setBlock w b (.map es1 clock1) = w1' := by simpa using hup1
  have hl1 := hm1.look h K ht (hz _) xs hl hi
  have hput : (put f xs ((f xs).getD 0) xs).getD 0 = (f xs).getD 0 := by simp [put]
  rw [hput] at hl1
  obtain ⟨es', clock', hs1, hs2⟩ := hst (setBlock w b (.map es1 clock1)) (.int .i64 ((f xs).getD 0 + 1)) (setBlock_at hlt _)
  rw [setBlock_twice] at hs1
  rw [hup] at hs2
  obtain rfl : w2 = setBlock w b (.map es' clock') := by simpa using hs2
  exact ⟨_, st, _, _, hlook, hent, hg1, hl1, hs1, hg2, hm2⟩

end
end Go.Proofs.Ytnhdngnolepkcaa
