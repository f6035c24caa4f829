/- What plane.triples answers. Condition: an order from 2 to 5. -/
import Derived.Test.YtnfonobdfkpkeaaDoorPlTri
import Derived.LoopN
import Derived.Maps.AppendAt
namespace Go.Proofs.YtnfonobdfkpkeaaDoor
open Go.RowKit
set_option linter.unusedVariables false

/-- The cells of triples. -/
def cells3 (q : Nat) (L : List Nat) : List Value := L.flatMap fun c => [.int .i64 (pX q c : Nat), .int .i64 (pY q c : Nat), .int .i64 (pZ q c : Nat)]
theorem cells3_length (q : Nat) (L : List Nat) : (cells3 q L).length = L.length * 3 := by
  unfold cells3
  induction L with
  | nil => rfl
  | cons c L ih => rw [List.flatMap_cons, List.length_append, ih, List.length_cons]; simp; omega
theorem cells3_append (q : Nat) (L M : List Nat) : cells3 q (L ++ M) = cells3 q L ++ cells3 q M := by unfold cells3; rw [List.flatMap_append]
theorem cells3_get (q : Nat) (L : List Nat) : ∀ i, i < L.length → (cells3 q L)[i * 3]? = some (.int .i64 (pX q (L.getD i 0) : Nat)) ∧ (cells3 q L)[i * 3 + 1]? = some (.int .i64 (pY q (L.getD i 0) : Nat)) ∧ (cells3 q L)[i * 3 + 2]? = some (.int .i64 (pZ q (L.getD i 0) : Nat)) := by
  unfold cells3
  induction L with
  | nil => intro i hi; simp at hi
  | cons c L ih =>
    intro i hi
    rw [List.flatMap_cons]
    cases i with
    | zero => exact ⟨rfl, rfl, rfl⟩
    | succ i =>
      obtain ⟨h1, h2, h3⟩ := ih i (by simpa using hi)
      have e : ∀ m, ([Value.int .i64 (pX q c : Nat), .int .i64 (pY q c : Nat), .int .i64 (pZ q c : Nat)] ++ L.flatMap fun c => [.int .i64 (pX q c : Nat), .int .i64 (pY q c : Nat), .int .i64 (pZ q c : Nat)])[m + 3]? = (L.flatMap fun c => [Value.int .i64 (pX q c : Nat), .int .i64 (pY q c : Nat), .int .i64 (pZ q c : Nat)])[m]? := fun m => by
        rw [List.getElem?_append_right (by simp)]; simp
      rw [show (i + 1) * 3 = i * 3 + 3 by omega, show i * 3 + 3 + 1 = (i * 3 + 1) + 3 by omega, show i * 3 + 3 + 2 = (i * 3 + 2) + 3 by omega, e, e, e]
      simpa using ⟨h1, h2, h3⟩

theorem infTri : (Tryd.prog.info? 45).map (fun i => (i.zero, i.size, i.bytes)) = some (some (.agg #[.int .i64 0, .int .i64 0, .int .i64 0]), 3, 24) := by kernel_rfl

theorem run_index3 (w : World) (cs : Array Value) (k : Nat) (b : Int) (hk : k < 3) (hc : cs[k]? = some (.int .i64 b)) : (Instr.index 45 (.agg cs) (.int .i64 (k : Int))).run Tryd.prog w = .ok (.int .i64 b) w := by
  have h1 : (sizeOf 3).run Tryd.prog w = .ok 1 w := by kernel_rfl
  have h2 : (isAgg 3).run Tryd.prog w = .ok false w := by kernel_rfl
  have h3 : (0 : Int) ≤ (k : Int) ∧ (k : Int) < ((3 : Nat) : Int) := by omega
  simp only [Instr.index, asIntOf, Sem.run_bind, Sem.run_pure, Result.andThen_ok, run_underlying Tryd.underlying45, if_pos h3, h1, part, h2, Int.toNat_natCast, Nat.mul_one, hc]
  rfl

/-- A list of triples that has been made since w0. -/
def OwnTri (q : Nat) (w0 w : World) (v : Value) (L : List Nat) : Prop := ∃ ao cap, v = .slice ao L.length cap ∧ w.ownsRow w0.heap.size 45 3 (.slice ao L.length cap) L.length (cells3 q L) ∧ Ext w0 w
theorem OwnTri.nil {q : Nat} {w0 w : World} (h : Ext w0 w) : OwnTri q w0 w (.slice none 0 0) [] := ⟨none, 0, rfl, World.ownsRow_nil w _ _ _, h⟩

set_option maxHeartbeats 1000000 in
/-- 'out = append(out, t)', t three numbers laid just ahead. -/
theorem wpList_app3 {w : World} {ops : Array Oper} {rest : List Oper} {o : Oper} {a : Act} {Q : Exit → Act → World → Prop}
    {x y z : Int} (hgd : o.guard = none) (s u : Operand) (ho : o.op = .call { callee := .builtin .append, args := #[s, u], argTypes := #[42, 42] })
    (B : Nat) {ao : Option Addr} {n cap : Nat} {xs : List Value} (hs : a.eval s = .slice ao n cap) (hown : w.ownsRow B 45 3 (.slice ao n cap) n xs)
    (hx : a.eval u = .slice (some ⟨w.heap.size, 0, none⟩) 1 1) (hn : n ≤ 1000000) (hB : B ≤ w.heap.size)
    (h : ∀ ao' cap' w', w'.ownsRow B 45 3 (.slice ao' (n + 1) cap') (n + 1) (xs ++ [.int .i64 x, .int .i64 y, .int .i64 z]) →
      (∀ B0 w0, Below B0 w0 w → B0 ≤ B → Below B0 w0 w') → wpList Tryd.prog ops Q rest (a.put o.dst (.slice ao' (n + 1) cap')) w') :
    wpList Tryd.prog ops Q (o :: rest) a (w.alloc (.cells #[.int .i64 x, .int .i64 y, .int .i64 z] 45)) := by
  obtain ⟨i, hi, hz, hsz, hby⟩ := info_parts infTri
  refine wpList_append_own (w.alloc (.cells #[.int .i64 x, .int .i64 y, .int .i64 z] 45)) hgd s u 42 ho B 45 i (.agg #[.int .i64 0, .int .i64 0, .int .i64 0]) 3 24 Tryd.underlying42 hi hz hsz hby rfl (by decide) _ n xs hs (World.ownsRow.alloc hown _) ⟨w.heap.size, 0, none⟩ 1 1 [.int .i64 x, .int .i64 y, .int .i64 z] hx rfl ?_ ?_ ?_ ?_ (by simp; omega) ?_
  · intro j v hj
    have hb := Blk.new w #[.int .i64 x, .int .i64 y, .int .i64 z] 45
    match j, hj with
    | 0, hj => simp at hj; subst hj; exact hb.c 0 _ rfl
    | 1, hj => simp at hj; subst hj; exact hb.c 1 _ rfl
    | 2, hj => simp at hj; subst hj; exact hb.c 2 _ rfl
  · intro v hv
    simp at hv
    rcases hv with rfl | rfl | rfl <;> rfl
  · unfold maxLen; omega
  · omega
  · intro v' w' hown' hgrow _
    obtain ⟨ao', cap', rfl⟩ : ∃ ao' cap', v' = .slice ao' (n + 1) cap' := by
      rcases hown'.2 with ⟨rfl, h0⟩ | ⟨g, cap, cur, rfl, _⟩
      · exact absurd h0 (by omega)
      · exact ⟨_, _, rfl⟩
    refine h ao' cap' w' hown' fun B0 w0 hb hB0 => ?_
    refine (hb.alloc (by have := hb.size; omega) (.cells #[.int .i64 x, .int .i64 y, .int .i64 z] 45)).grown hgrow (by simp; omega) (fun k hk => ?_)
    rcases hown.2 with ⟨e, _⟩ | ⟨g, cap2, cur, e, hg, _⟩
    · rw [e] at hk; cases hk
    · rw [e] at hk
      have : g = k := by simpa [Value.ownBlock] using hk
      omega

theorem OwnTri.snoc {q c : Nat} {w0 w' : World} {L : List Nat} {ao' : Option Addr} {cap' : Nat} (h : w'.ownsRow w0.heap.size 45 3 (.slice ao' (L.length + 1) cap') (L.length + 1) (cells3 q L ++ [.int .i64 (pX q c : Nat), .int .i64 (pY q c : Nat), .int .i64 (pZ q c : Nat)])) (hx : Ext w0 w') : OwnTri q w0 w' (.slice ao' (L.length + 1) cap') (L ++ [c]) := by
  refine ⟨ao', cap', by rw [List.length_append]; rfl, ?_, hx⟩
  rw [cells3_append, List.length_append]
  exact h

set_option maxHeartbeats 4000000 in
set_option maxRecDepth 100000 in
theorem triples_any (q : Nat) (h2 : 2 ≤ q) (h5 : q ≤ 5) (w : World) :
    Calls Tryd.prog 14 #[.int .i64 q] w fun e w' => ∃ v, e = .returned v ∧ OwnTri q w w' v (tri q (q * q * q)) := by
  have HEND := Lib.hid (tri_end q h2 h5)
  have HSU : Hid (∀ n, tri q (n + 1) = if lead q n = 1 then tri q n ++ [n] else tri q n) := fun n => rfl
  have HLE := Lib.hid (tri_len q)
  obtain ⟨S, hS⟩ : ∃ S, q * q = S := ⟨_, rfl⟩
  have hSb : S ≤ 25 := by rw [← hS]; exact Nat.mul_le_mul h5 h5
  have HDG : Hid (∀ a b c, b < q → c < q → pX q (a * S + b * q + c) = a ∧ pY q (a * S + b * q + c) = b ∧ pZ q (a * S + b * q + c) = c) := fun a b c hb hc => by
    have e1 : a * S + b * q + c = (a * q + b) * q + c := by rw [← hS, Nat.add_mul, Nat.mul_assoc]
    have e2 : ((a * q + b) * q + c) / q = a * q + b := by rw [Nat.add_comm, Nat.add_mul_div_right _ _ (by omega), Nat.div_eq_of_lt hc, Nat.zero_add]
    refine ⟨?_, ?_, ?_⟩
    · unfold pX; rw [e1, ← Nat.div_div_eq_div_mul, e2, Nat.add_comm, Nat.add_mul_div_right _ _ (by omega), Nat.div_eq_of_lt hb, Nat.zero_add]
    · unfold pY; rw [e1, e2, Nat.add_comm, Nat.add_mul_mod_self_right, Nat.mod_eq_of_lt hb]
    · unfold pZ; rw [e1, Nat.add_comm, Nat.add_mul_mod_self_right, Nat.mod_eq_of_lt hc]
  have HQS : Hid (q * q = S) := hS
  rw [hS] at HEND ⊢
  have hmin : min (q : Int) 2 = 2 := by omega
  clear hS
  go_enter Tryd.func14, Tryd.ntmps14
  go_wp2
  all_goals
    go_loopg [3, 13] 2 (fun r y x wr => ∃ a : Nat, a + r = 2 ∧ x = .int .i64 a ∧ OwnTri q w wr y (tri q (a * S)))
    case atStart => exact ⟨0, by omega, rfl, by rw [Nat.zero_mul]; exact OwnTri.nil (Ext.refl _)⟩
    case round =>
      obtain ⟨a, ha, rfl, hown⟩ := hrel
      cases gk with
      | zero =>
        obtain rfl : a = 2 := by omega
        rw [HEND.out] at hown
        obtain ⟨ao, cap, rfl, h1, h2⟩ := hown
        have H1 := Lib.hid h1
        have H2 := Lib.hid h2
        clear h1 h2
        go_wp2
        go_ret
        exact ⟨_, rfl, ao, cap, rfl, H1.out, H2.out⟩
      | succ r1 =>
        obtain ⟨ao, cap, rfl, h1, h2⟩ := hown
        have H1 := Lib.hid h1
        have H2 := Lib.hid h2
        clear h1 h2
        have ha2 : (a : Int) < 2 := by omega
        have ha3 : (a : Int) < (q : Int) := by omega
        obtain ⟨wa, rfl⟩ : ∃ wa : World, wa = wr := ⟨_, rfl⟩
        go_wp2
        go_loopg [3, 17] q (fun r y x wr => ∃ b : Nat, b + r = q ∧ x = .int .i64 b ∧ OwnTri q w wr y (tri q (a * S + b * q)))
        case atStart => exact ⟨0, by omega, rfl, by rw [Nat.zero_mul, Nat.add_zero]; exact ⟨ao, cap, rfl, H1.out, H2.out⟩⟩
        case round =>
          obtain ⟨b, hb, rfl, hown⟩ := hrel
          cases gk with
          | zero =>
            obtain rfl : q = b := by omega
            rw [HQS.out, ← Nat.succ_mul] at hown
            obtain ⟨ao2, cap2, rfl, h1, h2⟩ := hown
            have H3 := Lib.hid h1
            have H4 := Lib.hid h2
            clear h1 h2
            go_wp2
            go_roundg r1
            case measure => omega
            case rel => exact ⟨a + 1, by omega, by go_num, ao2, cap2, rfl, H3.out, H4.out⟩
          | succ r2 =>
            obtain ⟨ao2, cap2, rfl, h1, h2⟩ := hown
            have H3 := Lib.hid h1
            have H4 := Lib.hid h2
            clear h1 h2
            have hbq : (b : Int) < (q : Int) := by omega
            have hbq' : b < q := by omega
            obtain ⟨wb, rfl⟩ : ∃ wb : World, wb = wr := ⟨_, rfl⟩
            go_wp2
            go_loopg [3, 21] q (fun r y x wr => ∃ c : Nat, c + r = q ∧ x = .int .i64 c ∧ OwnTri q w wr y (tri q (a * S + b * q + c)))
            case atStart => exact ⟨0, by omega, rfl, by rw [Nat.add_zero]; exact ⟨ao2, cap2, rfl, H3.out, H4.out⟩⟩
            case round =>
              obtain ⟨c, hc, rfl, hown⟩ := hrel
              clear H3 H4
              cases gk with
              | zero =>
                obtain rfl : q = c := by omega
                rw [Nat.add_assoc, ← Nat.succ_mul] at hown
                obtain ⟨ao3, cap3, rfl, h1, h2⟩ := hown
                have H3 := Lib.hid h1
                have H4 := Lib.hid h2
                clear h1 h2
                go_wp2
                go_roundg r2
                case measure => omega
                case rel => exact ⟨b + 1, by omega, by go_num, ao3, cap3, rfl, H3.out, H4.out⟩
              | succ r3 =>
                have hcq : (c : Int) < (q : Int) := by omega
                have hcq' : c < q := by omega
                obtain ⟨d1, d2, d3⟩ := HDG.out a b c hbq' hcq'
                have HNX := Lib.hid (HSU.out (a * S + b * q + c))
                have HLL := HLE.out (a * S + b * q + c)
                obtain ⟨N, hN⟩ : ∃ N, a * S + b * q + c = N := ⟨_, rfl⟩
                have hN1 : a * S + b * q + (c + 1) = N + 1 := by omega
                have HN1 := Lib.hid hN1
                rw [hN] at hown d1 d2 d3 HNX HLL
                have HLD : Hid (lead q N = if a ≠ 0 then a else if b ≠ 0 then b else c) := by show _ = _; unfold lead; rw [d1, d2, d3]
                have hN2 : N ≤ 1000 := by
                  have : a * S ≤ 2 * 25 := Nat.mul_le_mul (by omega) hSb
                  have : b * q ≤ 5 * 5 := Nat.mul_le_mul (by omega) h5
                  omega
                obtain ⟨ao3, cap3, rfl, h1, h2⟩ := hown
                have H3 := Lib.hid h1
                have X3 := Lib.hid h2
                have HSN : Hid (∀ ao' cap' w', tri q (N + 1) = tri q N ++ [N] → w'.ownsRow w.heap.size 45 3 (.slice ao' ((tri q N).length + 1) cap') ((tri q N).length + 1) (cells3 q (tri q N) ++ [.int .i64 a, .int .i64 b, .int .i64 c]) → Ext w w' → OwnTri q w w' (.slice ao' ((tri q N).length + 1) cap') (tri q (a * S + b * q + (c + 1)))) := fun ao' cap' w' e h hx => by
                  rw [HN1.out, e]
                  refine OwnTri.snoc ?_ hx
                  rw [d1, d2, d3]
                  exact h
                have HSS : Hid (tri q (N + 1) = tri q N → OwnTri q w (wr.alloc (.cells #[.int .i64 a, .int .i64 b, .int .i64 c] 45)) (.slice ao3 (tri q N).length cap3) (tri q (a * S + b * q + (c + 1)))) := fun e => by
                  rw [HN1.out, e]
                  exact ⟨ao3, cap3, rfl, World.ownsRow.alloc h1 _, h2.alloc _⟩
                have hsz3 := X3.out.size
                obtain ⟨f, hf⟩ : ∃ f, lead q N = f := ⟨_, rfl⟩
                rw [hf] at HNX HLD
                have hLD := HLD.out
                obtain ⟨nn, hnn⟩ : ∃ nn, (tri q N).length = nn := ⟨_, rfl⟩
                rw [hnn] at H3 HSN HSS HLL ⊢
                clear h1 h2 d1 d2 d3 hf HLD hN hN1 hnn
                have i0 : ∀ w, (Instr.index 45 (.agg #[.int .i64 (a : Int), .int .i64 (b : Int), .int .i64 (c : Int)]) (.int .i64 0)).run Tryd.prog w = .ok (.int .i64 (a : Int)) w := fun w => run_index3 w _ 0 a (by omega) rfl
                have i1 : ∀ w, (Instr.index 45 (.agg #[.int .i64 (a : Int), .int .i64 (b : Int), .int .i64 (c : Int)]) (.int .i64 1)).run Tryd.prog w = .ok (.int .i64 (b : Int)) w := fun w => run_index3 w _ 1 b (by omega) rfl
                have i2 : ∀ w, (Instr.index 45 (.agg #[.int .i64 (a : Int), .int .i64 (b : Int), .int .i64 (c : Int)]) (.int .i64 2)).run Tryd.prog w = .ok (.int .i64 (c : Int)) w := fun w => run_index3 w _ 2 c (by omega) rfl
                by_cases ha0 : a = 0
                · rw [if_neg (fun h => h ha0)] at hLD
                  have b1 : ((a : Int) != 0) = false := by rw [ha0]; rfl
                  by_cases hb0 : b = 0
                  · rw [if_neg (fun h => h hb0)] at hLD
                    have b2 : ((b : Int) != 0) = false := by rw [hb0]; rfl
                    by_cases hc0 : c = 0
                    · have b4 : ((c : Int) != 0) = false := by rw [hc0]; rfl
                      have hf0 : ¬ f = 1 := by omega
                      rw [if_neg hf0] at HNX
                      clear ha0 hb0 hc0 hLD hf0
                      go_wp2
                      refine wp_loop_rounds 4 ?_
                      rw [rounds_succ]
                      go_wp2
                      rw [rounds_succ]
                      go_wp2
                      rw [rounds_succ]
                      go_wp2
                      rw [rounds_succ]
                      go_wp2
                      go_roundg r3
                      case measure => omega
                      case rel => exact ⟨c + 1, by omega, by go_num, HSS.out HNX.out⟩
                    · have b4 : ((c : Int) != 0) = true := by rw [bne_iff_ne]; omega
                      clear ha0 hb0 hc0
                      by_cases hf1 : c = 1
                      · have b3 : ((c : Int) == 1) = true := by rw [hf1]; rfl
                        rw [hLD, if_pos hf1] at HNX
                        clear hf1 hLD
                        go_wp2
                        refine wp_loop_rounds 4 ?_
                        rw [rounds_succ]
                        go_wp2
                        rw [rounds_succ]
                        go_wp2
                        rw [rounds_succ]
                        go_wp2_with (at_builtin; refine wpList_app3 (w := wr.alloc (.cells #[.int .i64 a, .int .i64 b, .int .i64 c] 45)) rfl (.tmp 38) (.tmp 40) rfl w.heap.size (by rfl) (World.ownsRow.alloc H3.out _) (by simp [Act.eval]) (by omega) (by simp; omega) ?_; intro ao8 cap8 w8 hr8 hb8; have HR8 := Lib.hid hr8; have HB8 := Lib.hid (hb8 _ _ (X3.out.alloc (.cells #[.int .i64 a, .int .i64 b, .int .i64 c] 45)) (Nat.le_refl _)); clear hr8 hb8)
                        go_roundg r3
                        case measure => omega
                        case rel => exact ⟨c + 1, by omega, by go_num, HSN.out _ _ _ HNX.out HR8.out HB8.out⟩
                      · have b3 : ((c : Int) == 1) = false := by rw [beq_eq_false_iff_ne]; omega
                        rw [hLD, if_neg hf1] at HNX
                        clear hf1 hLD
                        go_wp2
                        refine wp_loop_rounds 4 ?_
                        rw [rounds_succ]
                        go_wp2
                        rw [rounds_succ]
                        go_wp2
                        rw [rounds_succ]
                        go_wp2
                        go_roundg r3
                        case measure => omega
                        case rel => exact ⟨c + 1, by omega, by go_num, HSS.out HNX.out⟩
                  · rw [if_pos hb0] at hLD
                    have b2 : ((b : Int) != 0) = true := by rw [bne_iff_ne]; omega
                    clear ha0 hb0
                    by_cases hf1 : b = 1
                    · have b3 : ((b : Int) == 1) = true := by rw [hf1]; rfl
                      rw [hLD, if_pos hf1] at HNX
                      clear hf1 hLD
                      go_wp2
                      refine wp_loop_rounds 4 ?_
                      rw [rounds_succ]
                      go_wp2
                      rw [rounds_succ]
                      go_wp2_with (at_builtin; refine wpList_app3 (w := wr.alloc (.cells #[.int .i64 a, .int .i64 b, .int .i64 c] 45)) rfl (.tmp 38) (.tmp 40) rfl w.heap.size (by rfl) (World.ownsRow.alloc H3.out _) (by simp [Act.eval]) (by omega) (by simp; omega) ?_; intro ao8 cap8 w8 hr8 hb8; have HR8 := Lib.hid hr8; have HB8 := Lib.hid (hb8 _ _ (X3.out.alloc (.cells #[.int .i64 a, .int .i64 b, .int .i64 c] 45)) (Nat.le_refl _)); clear hr8 hb8)
                      go_roundg r3
                      case measure => omega
                      case rel => exact ⟨c + 1, by omega, by go_num, HSN.out _ _ _ HNX.out HR8.out HB8.out⟩
                    · have b3 : ((b : Int) == 1) = false := by rw [beq_eq_false_iff_ne]; omega
                      rw [hLD, if_neg hf1] at HNX
                      clear hf1 hLD
                      go_wp2
                      refine wp_loop_rounds 4 ?_
                      rw [rounds_succ]
                      go_wp2
                      rw [rounds_succ]
                      go_wp2
                      go_roundg r3
                      case measure => omega
                      case rel => exact ⟨c + 1, by omega, by go_num, HSS.out HNX.out⟩
                · rw [if_pos ha0] at hLD
                  have b1 : ((a : Int) != 0) = true := by rw [bne_iff_ne]; omega
                  clear ha0
                  by_cases hf1 : a = 1
                  · have b3 : ((a : Int) == 1) = true := by rw [hf1]; rfl
                    rw [hLD, if_pos hf1] at HNX
                    clear hf1 hLD
                    go_wp2
                    refine wp_loop_rounds 4 ?_
                    rw [rounds_succ]
                    go_wp2_with (at_builtin; refine wpList_app3 (w := wr.alloc (.cells #[.int .i64 a, .int .i64 b, .int .i64 c] 45)) rfl (.tmp 38) (.tmp 40) rfl w.heap.size (by rfl) (World.ownsRow.alloc H3.out _) (by simp [Act.eval]) (by omega) (by simp; omega) ?_; intro ao8 cap8 w8 hr8 hb8; have HR8 := Lib.hid hr8; have HB8 := Lib.hid (hb8 _ _ (X3.out.alloc (.cells #[.int .i64 a, .int .i64 b, .int .i64 c] 45)) (Nat.le_refl _)); clear hr8 hb8)
                    go_roundg r3
                    case measure => omega
                    case rel => exact ⟨c + 1, by omega, by go_num, HSN.out _ _ _ HNX.out HR8.out HB8.out⟩
                  · have b3 : ((a : Int) == 1) = false := by rw [beq_eq_false_iff_ne]; omega
                    rw [hLD, if_neg hf1] at HNX
                    clear hf1 hLD
                    go_wp2
                    refine wp_loop_rounds 4 ?_
                    rw [rounds_succ]
                    go_wp2
                    go_roundg r3
                    case measure => omega
                    case rel => exact ⟨c + 1, by omega, by go_num, HSS.out HNX.out⟩

end Go.Proofs.YtnfonobdfkpkeaaDoor
