/-
  For all sequences of operations of a module, each signature, verdict, error and height is the specified one.
-/
import Derived.Test.YtlofgcglnpjceaaDoorHead
import Derived.Test.YtlofgcglnpjceaaDoorOps
namespace Go.Proofs.YtlofgcglnpjceaaDoor.keyedPlays
open Go.ChangeShapes Go.WideShapes Go.ChangeAt Go.RowKit Go.Pl
theorem op_range {w : World} {b k : Nat} {x : Keyed.Opn} {A3 A4 : Option Addr} {n3 c3 n4 c4 : Nat} (h0 : w.cell? ⟨b, k, none⟩ = some (.int .i64 x.kind)) (h1 : w.cell? ⟨b, k + 1, none⟩ = some (.int .i64 x.n)) (h2 : w.cell? ⟨b, k + 2, none⟩ = some (.int .i64 x.p))
    (h3 : w.cell? ⟨b, k + 3, none⟩ = some (.slice A3 n3 c3)) (h4 : w.cell? ⟨b, k + 4, none⟩ = some (.slice A4 n4 c4)) : w.rangeAt b k [.int .i64 x.kind, .int .i64 x.n, .int .i64 x.p, .slice A3 n3 c3, .slice A4 n4 c4] := by
  intro j v hj
  match j, hj with
  | 0, hj => cases hj; exact h0
  | 1, hj => cases hj; exact h1
  | 2, hj => cases hj; exact h2
  | 3, hj => cases hj; exact h3
  | 4, hj => cases hj; exact h4
theorem op_lens {w : World} {S T : Nat → Prop} {b k : Nat} {x y : Keyed.Opn} (hx : OpAt w S b k x) (hy : OpAt w T b k y) : x.b.length = y.b.length ∧ x.t.length = y.t.length := by
  obtain ⟨A3, n3, c3, A4, n4, c4, -, -, -, e3, e4, r3, r4, -⟩ := hx
  obtain ⟨A3', n3', c3', A4', n4', c4', -, -, -, e3', e4', r3', r4', -⟩ := hy
  rw [e3] at e3'
  rw [e4] at e4'
  cases e3'
  cases e4'
  exact ⟨r3.len.symm.trans r3'.len, r4.len.symm.trans r4'.len⟩
section
variable {P : Program} {ops : Array Oper} {rest : List Oper} {o : Oper} {a : Act} {Q : Exit → Act → World → Prop} {w : World}
theorem wpl_load_op (hgd : o.guard = none) (ty : TypeId) (x : Operand) (hop : o.op = .load ty x) (g k : Nat) (hx : a.eval x = .pointer (some ⟨g, k, none⟩)) (v0 v1 v2 v3 v4 : Value) (hr : w.rangeAt g k [v0, v1, v2, v3, v4])
    (d : TypeDesc) (hu : P.underlying ty = some d) (hd : d.isRow = true) (hi : (P.info? ty).map (·.size) = some 5)
    (h : wpList P ops Q rest (a.put o.dst (.agg #[v0, v1, v2, v3, v4])) w) : wpList P ops Q (o :: rest) a w :=
  wpList_load_mid hgd ty x hop g k hx [v0, v1, v2, v3, v4] d hr hu hd (by simpa using hi) (by simpa using h)
end
set_option maxRecDepth 100000 in
set_option maxHeartbeats 8000000 in
theorem walk {A1 A3 : Option Addr} {n1 c1 n3 c3 : Nat} {k : List UInt8} (w : World) (hK : Kst w) (h1 : Rd w (fun _ => True) A1 n1 c1 k) (p : Int) (hp : I64 p) (h3 : RdO w (fun _ => True) A3 n3 c3) :
    Calls Tryd.prog 5 #[.slice A1 n1 c1, .int .i64 p, .slice A3 n3 c3] w fun e w' => e = .returned (.bool true) ∧ Below w.heap.size w w' := by
  have hl1 := Lib.hid h1.len
  have hKp := hK.pos
  have hR1 : Hid (Rd w (fun i => i < w.heap.size) A1 n1 c1 k) := h1.mono (fun i hi _ => hi)
  have hR3 : Hid (RdO w (fun i => i < w.heap.size) A3 n3 c3) := h3.mono (fun i hi _ => hi)
  clear h1 h3
  by_cases h20 : 20 < n3
  · have h20I : (20 : Int) < (n3 : Int) := by omega
    go_enter Tryd.func5, Tryd.ntmps5
    go_wp2_with fail
    refine (awake_any _ hK).mono ?_
    rintro e w1 ⟨rfl, hb1⟩
    go_wp2_with fail
    go_ret
    exact ⟨rfl, hb1⟩
  · have h20I : ¬ (20 : Int) < (n3 : Int) := by omega
    go_enter Tryd.func5, Tryd.ntmps5
    go_wp2_with fail
    refine (awake_any _ hK).mono ?_
    rintro e w1 ⟨rfl, hb1⟩
    go_wp2_with fail
    refine (short_any _ _ _ _ _ _ _).mono ?_
    rintro e wq ⟨rfl, rfl⟩
    by_cases hs : n1 ≤ 2000 ∧ 0 ≤ 2000
    · rw [decide_eq_true hs]
      have hk : Hid (k.length ≤ 1000000) := by show _ ≤ _; have := hl1.out; omega
      clear hs hl1 h20I
      go_wp2_with fail
      go_loopw [7] (fun t7 wr => ∃ i : Nat, i ≤ n3 ∧ t7 = .int .i64 (i : Int) ∧ Below w.heap.size w wr ∧ ∀ b o, A3 = some ⟨b, o, none⟩ → ∀ r x, r < i → OpAt w (fun i => i < w.heap.size) b (o + r * 5) x → x.b.length ≤ 1000000 ∧ x.t.length ≤ 1000000) (fun t7 _ => n3 - (intOf t7).toNat)
      case atStart => exact ⟨0, by omega, rfl, hb1, fun b o _ r x h => by omega⟩
      case round =>
        obtain ⟨i, hi, rfl, hb, hfit'⟩ := hrel
        have hfit := Lib.hid hfit'
        clear hb1 hfit'
        by_cases hlt : i < n3
        · have hltI : (i : Int) < (n3 : Int) := by omega
          obtain ⟨b, o, rfl, hbs, -, hops⟩ := hR3.out.at_ (by omega)
          obtain ⟨x, hx⟩ := hops i hlt
          have hx' := Lib.hid hx
          obtain ⟨A3, m3, d3, A4, m4, d4, e0, e1, e2, e3, e4, r3, r4, hI⟩ := hx
          have hbd : Below w.heap.size w wr.drew := hb.trans ((ab_drew wr).mono hb.size)
          have q3 : ∀ w', Ab wr.drew w' → w'.cell? ⟨b, o + i * 5 + 3, none⟩ = some (.slice A3 m3 d3) := fun w' h => ((hbd.trans (Below.mono h hbd.size)).cell (p := ⟨b, o + i * 5 + 3, none⟩) hbs).trans e3
          have q4 : ∀ w', Ab wr.drew w' → w'.cell? ⟨b, o + i * 5 + 4, none⟩ = some (.slice A4 m4 d4) := fun w' h => ((hbd.trans (Below.mono h hbd.size)).cell (p := ⟨b, o + i * 5 + 4, none⟩) hbs).trans e4
          have hl3 := Lib.hid r3.len
          have hl4 := Lib.hid r4.len
          clear e0 e1 e2 e3 e4 r3 r4 hI hops hb
          go_wp2_with fail
          refine wp_region_plan Ab Ab.refl Ab.trans [([0, 1, 2, 3, 4, 5, 6, 7, 8, 9], 10)] [11] (by kernel_rfl) (by kernel_rfl) (fun _ _ _ _ _ h => h) ?_
          simp only [wpPlan, ordPick, Option.toList_some, List.cons_append, List.nil_append, List.getElem?_cons_succ, List.getElem?_cons_zero]
          generalize wr.drew = w2 at hbd q3 q4 ⊢
          iterate 4 (go_big_quiet_step (exact fun _ => rfl))
          refine wpq_load_one rfl 22 (.tmp 36) rfl ⟨b, o + i * 5 + 3, none⟩ rfl _ q3 _ rfl rfl ?_
          simp only [Act.put, List.setIfInBounds_toArray, List.set_cons_succ, List.set_cons_zero]
          iterate 4 (go_big_quiet_step (exact fun _ => rfl))
          refine wpq_load_one rfl 22 (.tmp 41) rfl ⟨b, o + i * 5 + 4, none⟩ rfl _ q4 _ rfl rfl ?_
          simp only [Act.put, List.setIfInBounds_toArray, List.set_cons_succ, List.set_cons_zero]
          refine wpQuiet_nil ?_
          clear q3 q4
          go_wp2_with fail
          refine (short_any _ _ _ _ _ _ _).mono ?_
          rintro e wz ⟨rfl, rfl⟩
          by_cases hs2 : m3 ≤ 2000 ∧ m4 ≤ 2000
          · rw [decide_eq_true hs2]
            have hnew : Hid (x.b.length ≤ 1000000 ∧ x.t.length ≤ 1000000) := ⟨by have := hl3.out; omega, by have := hl4.out; omega⟩
            clear hs2
            go_wp2_with fail
            refine And.intro (Ab.refl _) ?_
            dsimp only
            iterate 1 (go_big_quiet_step (exact fun _ => rfl))
            refine wpQuiet_nil ?_
            go_wp2_with fail
            go_roundw
            case rel =>
              refine ⟨i + 1, by omega, by go_num, hbd, fun b' o' hA r y hr hy => ?_⟩
              by_cases hri : r < i
              · exact hfit.out b' o' hA r y hri hy
              · obtain rfl : r = i := by omega
                have hb' : b = b' := by cases hA; rfl
                have ho' : o = o' := by cases hA; rfl
                subst hb' ho'
                obtain ⟨u1, u2⟩ := op_lens hy hx'.out
                rw [u1, u2]
                exact hnew.out
            case measure => simp [intOf]; omega
          · rw [decide_eq_false hs2]
            go_wp2_with fail
            refine And.intro (Ab.refl _) ?_
            dsimp only
            iterate 1 (go_big_quiet_step (exact fun _ => rfl))
            refine wpQuiet_nil ?_
            go_wp2_with fail
            go_ret
            exact ⟨rfl, hbd⟩
        · have hltI : ¬ (i : Int) < (n3 : Int) := by omega
          have hfitA : Hid (∀ b o, A3 = some ⟨b, o, none⟩ → ∀ r x, r < n3 → OpAt w (fun i => i < w.heap.size) b (o + r * 5) x → x.b.length ≤ 1000000 ∧ x.t.length ≤ 1000000) := fun b o hA r x hr hx => hfit.out b o hA r x (by omega) hx
          clear hlt hi hfit
          go_wp2_with fail
          refine (knew_any _ ((hR1.out.ab hb).mono (fun _ _ _ => trivial)) hk.out p).mono ?_
          rintro e w2 ⟨G, rfl, hG, hD2, hb2'⟩
          have hb2 := hb.trans (hb2'.mono hb.size)
          have hGw : Hid (w.heap.size ≤ G) := by show _ ≤ _; have := hb.size; omega
          obtain ⟨S, hS⟩ : ∃ S, wr.heap.size = S := ⟨_, rfl⟩
          have hSw : Hid (w.heap.size ≤ S) := by show _ ≤ _; have := hb.size; omega
          rw [hS] at hD2
          have hD3 := (hD2.up ((Below.refl _ _).alloc (Nat.le_refl _) (.cells #[] 5))).up ((Below.refl _ _).alloc (Nat.le_refl _) (.cells #[] 5))
          have hb3 := (hb2.alloc hb2.size (.cells #[] 5)).alloc (hb2.alloc hb2.size (.cells #[] 5)).size (.cells #[] 5)
          clear hb hb2' hG hS
          go_wp2_with (first
            | (go_at_call 18; refine (height_any hD2).mono ?_; rintro e w6 ⟨rfl, rfl⟩)
            | (go_at_call 17; refine (process_any hD2).mono ?_; rintro e w6 ⟨rfl, rfl⟩))
          go_loopw [9, 10, 11, 12, 13] (fun t9 t10 t11 t12 t13 wr => ∃ (i : Nat) (h z : Int) (AL : Option Addr) (nL cL : Nat) (TL : List UInt8) (AF : Option Addr) (nF cF : Nat) (F : List UInt8), i ≤ n3 ∧ t9 = .int .i64 h ∧ t10 = .slice AL nL cL ∧ t11 = .slice AF nF cF ∧ t12 = .int .i64 z ∧ t13 = .int .i64 (i : Int) ∧
              0 ≤ h ∧ I64 z ∧ F.length ≤ 1000000 ∧ Rd wr (fun i => i ≠ G) AL nL cL TL ∧ Rd wr (fun i => i ≠ G) AF nF cF F ∧ Dev wr G S k p h ∧ Below w.heap.size w wr) (fun _ _ _ _ t13 _ => n3 - (intOf t13).toNat)
          case atStart => exact ⟨0, 0, 0, _, 0, 0, [], _, 0, 0, [], by omega, rfl, rfl, rfl, rfl, rfl, by omega, by unfold I64; omega, by simp, ⟨rfl, Nat.le_refl _, by simp [maxLen], fun _ => rfl, fun h => by omega⟩, ⟨rfl, Nat.le_refl _, by simp [maxLen], fun _ => rfl, fun h => by omega⟩, hD3, hb3⟩
          case round =>
            obtain ⟨i, h, z, AL, nL, cL, TL, AF, nF, cF, F, hi, rfl, rfl, rfl, rfl, rfl, hh, hz, hF', hrL, hrF, hD, hb⟩ := hrel
            have hF := Lib.hid hF'
            clear hD2 hD3 hb2 hb3 hF'
            by_cases hlt : i < n3
            · have hltI : (i : Int) < (n3 : Int) := by omega
              obtain ⟨b, o, rfl, hbs, -, hops⟩ := hR3.out.at_ (by omega)
              obtain ⟨⟨kd, N, P, B, T0⟩, hx⟩ := hops i hlt
              have hfx : Hid (B.length ≤ 1000000 ∧ T0.length ≤ 1000000) := hfitA.out b o rfl i _ hlt hx
              obtain ⟨A3, m3, d3, A4, m4, d4, e0, e1, e2, e3, e4, r3, r4, -, hI1, hI2⟩ := hx
              have hI1 : I64 N := hI1
              have hI2 : I64 P := hI2
              have r3 : Rd w (fun i => i < w.heap.size) A3 m3 d3 B := r3
              have r4 : Rd w (fun i => i < w.heap.size) A4 m4 d4 T0 := r4
              have rng : wr.rangeAt b (o + i * 5) [.int .i64 kd, .int .i64 N, .int .i64 P, .slice A3 m3 d3, .slice A4 m4 d4] :=
                op_range (x := ⟨kd, N, P, B, T0⟩) ((hb.cell (p := ⟨b, o + i * 5, none⟩) hbs).trans e0) ((hb.cell (p := ⟨b, o + i * 5 + 1, none⟩) hbs).trans e1) ((hb.cell (p := ⟨b, o + i * 5 + 2, none⟩) hbs).trans e2) ((hb.cell (p := ⟨b, o + i * 5 + 3, none⟩) hbs).trans e3) ((hb.cell (p := ⟨b, o + i * 5 + 4, none⟩) hbs).trans e4)
              have hone : ∀ v ∈ (#[Value.int .i64 kd, .int .i64 N, .int .i64 P, .slice A3 m3 d3, .slice A4 m4 d4] : Array Value).toList, v.oneCell' = true := by intro v hv; simp at hv; rcases hv with rfl | rfl | rfl | rfl | rfl <;> rfl
              clear hops e0 e1 e2 e3 e4
              by_cases hk0 : kd = 0
              · subst hk0
                by_cases hzx : h < N
                · have hM : max h N = N := by omega
                  go_wp2_with (first
                    | ((with_reducible refine wpl_load_op rfl 30 (.tmp 71) rfl b (o + i * 5) ?_ _ _ _ _ _ rng _ Tryd.underlying30 rfl ?_ ?_); rfl; kernel_rfl)
                    | ((with_reducible refine wpl_store_new _ rfl 30 (.tmp 14) (.tmp 72) rfl wr.heap.size ?_ #[.int .i64 0, .int .i64 N, .int .i64 P, .slice A3 m3 d3, .slice A4 m4 d4] ?_ 30 _ (Blk.new' rfl) ?_ ?_ hone ?_); rfl; rfl; kernel_rfl; rfl; intro w3 hX hg3;
                        have hab3 : Below wr.heap.size wr w3 := ((Below.refl _ _).alloc (Nat.le_refl _) _).grown hg3 (by simp) (by intro k hk; cases hk; exact Nat.le_refl _);
                        have y0 : w3.cell? ⟨wr.heap.size, 0, none⟩ = some (.int .i64 0) := hX.cell 0;
                        have y1 : w3.cell? ⟨wr.heap.size, 1, none⟩ = some (.int .i64 N) := hX.cell 1;
                        have y2 : w3.cell? ⟨wr.heap.size, 2, none⟩ = some (.int .i64 P) := hX.cell 2;
                        have y3 : w3.cell? ⟨wr.heap.size, 3, none⟩ = some (.slice A3 m3 d3) := hX.cell 3;
                        have y4 : w3.cell? ⟨wr.heap.size, 4, none⟩ = some (.slice A4 m4 d4) := hX.cell 4;
                        have hXs := Lib.hid hX.lt;
                        have hb3 := hb.trans (hab3.mono hb.size);
                        have hD3 := hD.up hab3;
                        have rL3 := hrL.ab hab3;
                        have rF3 := hrF.ab hab3;
                        have hGX := Lib.hid hD.lt.1;
                        clear hg3 rng hX hab3 hD hrL hrF hb))
                  refine (raise_any hD3 N).mono ?_
                  rintro e w4 ⟨rfl, hD4, hf4⟩
                  rw [hM] at hD4
                  have hM0 : 0 ≤ N := by omega
                  have hXG : ¬ wr.heap.size = G := by have := hGX.out; omega
                  have y1' : w4.cell? ⟨wr.heap.size, 1, none⟩ = some (.int .i64 N) := (hf4.cell (p := ⟨wr.heap.size, 1, none⟩) hXs.out hXG).trans y1
                  have hb4 := hb3.trans (hf4.below (B := w.heap.size) (fun i e => e ▸ hGw.out) hb3.size)
                  have rL4 := rL3.fr hf4 (fun i hi e => hi e)
                  have rF4 := rF3.fr hf4 (fun i hi e => hi e)
                  clear hM hf4 y0 y1 y2 y3 y4 hb3 hD3 rL3 rF3
                  go_wp2_with (go_at_call 18; refine (height_any hD4).mono ?_; rintro e wend ⟨rfl, rfl⟩)
                  go_roundw
                  case rel => exact ⟨i + 1, N, z, _, _, _, TL, _, _, _, F, by omega, rfl, rfl, rfl, rfl, by go_num, hM0, hz, hF.out, rL4, rF4, hD4, hb4⟩
                  case measure => simp [intOf]; omega
                · have hM : max h N = h := by omega
                  go_wp2_with (first
                    | ((with_reducible refine wpl_load_op rfl 30 (.tmp 71) rfl b (o + i * 5) ?_ _ _ _ _ _ rng _ Tryd.underlying30 rfl ?_ ?_); rfl; kernel_rfl)
                    | ((with_reducible refine wpl_store_new _ rfl 30 (.tmp 14) (.tmp 72) rfl wr.heap.size ?_ #[.int .i64 0, .int .i64 N, .int .i64 P, .slice A3 m3 d3, .slice A4 m4 d4] ?_ 30 _ (Blk.new' rfl) ?_ ?_ hone ?_); rfl; rfl; kernel_rfl; rfl; intro w3 hX hg3;
                        have hab3 : Below wr.heap.size wr w3 := ((Below.refl _ _).alloc (Nat.le_refl _) _).grown hg3 (by simp) (by intro k hk; cases hk; exact Nat.le_refl _);
                        have y0 : w3.cell? ⟨wr.heap.size, 0, none⟩ = some (.int .i64 0) := hX.cell 0;
                        have y1 : w3.cell? ⟨wr.heap.size, 1, none⟩ = some (.int .i64 N) := hX.cell 1;
                        have y2 : w3.cell? ⟨wr.heap.size, 2, none⟩ = some (.int .i64 P) := hX.cell 2;
                        have y3 : w3.cell? ⟨wr.heap.size, 3, none⟩ = some (.slice A3 m3 d3) := hX.cell 3;
                        have y4 : w3.cell? ⟨wr.heap.size, 4, none⟩ = some (.slice A4 m4 d4) := hX.cell 4;
                        have hXs := Lib.hid hX.lt;
                        have hb3 := hb.trans (hab3.mono hb.size);
                        have hD3 := hD.up hab3;
                        have rL3 := hrL.ab hab3;
                        have rF3 := hrF.ab hab3;
                        have hGX := Lib.hid hD.lt.1;
                        clear hg3 rng hX hab3 hD hrL hrF hb))
                  refine (raise_any hD3 N).mono ?_
                  rintro e w4 ⟨rfl, hD4, hf4⟩
                  rw [hM] at hD4
                  have hM0 : 0 ≤ h := by omega
                  have hXG : ¬ wr.heap.size = G := by have := hGX.out; omega
                  have y1' : w4.cell? ⟨wr.heap.size, 1, none⟩ = some (.int .i64 N) := (hf4.cell (p := ⟨wr.heap.size, 1, none⟩) hXs.out hXG).trans y1
                  have hb4 := hb3.trans (hf4.below (B := w.heap.size) (fun i e => e ▸ hGw.out) hb3.size)
                  have rL4 := rL3.fr hf4 (fun i hi e => hi e)
                  have rF4 := rF3.fr hf4 (fun i hi e => hi e)
                  clear hM hf4 y0 y1 y2 y3 y4 hb3 hD3 rL3 rF3
                  go_wp2_with (go_at_call 18; refine (height_any hD4).mono ?_; rintro e wend ⟨rfl, rfl⟩)
                  go_roundw
                  case rel => exact ⟨i + 1, h, z, _, _, _, TL, _, _, _, F, by omega, rfl, rfl, rfl, rfl, by go_num, hM0, hz, hF.out, rL4, rF4, hD4, hb4⟩
                  case measure => simp [intOf]; omega
              · by_cases hk1 : kd = 1
                · subst hk1
                  by_cases hneg : N < 0
                  · go_wp2_with (first
                      | ((with_reducible refine wpl_load_op rfl 30 (.tmp 71) rfl b (o + i * 5) ?_ _ _ _ _ _ rng _ Tryd.underlying30 rfl ?_ ?_); rfl; kernel_rfl)
                      | ((with_reducible refine wpl_store_new _ rfl 30 (.tmp 14) (.tmp 72) rfl wr.heap.size ?_ #[.int .i64 1, .int .i64 N, .int .i64 P, .slice A3 m3 d3, .slice A4 m4 d4] ?_ 30 _ (Blk.new' rfl) ?_ ?_ hone ?_); rfl; rfl; kernel_rfl; rfl; intro w3 hX hg3;
                          have hab3 : Below wr.heap.size wr w3 := ((Below.refl _ _).alloc (Nat.le_refl _) _).grown hg3 (by simp) (by intro k hk; cases hk; exact Nat.le_refl _);
                          have y0 : w3.cell? ⟨wr.heap.size, 0, none⟩ = some (.int .i64 1) := hX.cell 0;
                          have y1 : w3.cell? ⟨wr.heap.size, 1, none⟩ = some (.int .i64 N) := hX.cell 1;
                          have y2 : w3.cell? ⟨wr.heap.size, 2, none⟩ = some (.int .i64 P) := hX.cell 2;
                          have y3 : w3.cell? ⟨wr.heap.size, 3, none⟩ = some (.slice A3 m3 d3) := hX.cell 3;
                          have y4 : w3.cell? ⟨wr.heap.size, 4, none⟩ = some (.slice A4 m4 d4) := hX.cell 4;
                          have hXs := Lib.hid hX.lt;
                          have hb3 := hb.trans (hab3.mono hb.size);
                          have hD3 := hD.up hab3;
                          have rL3 := hrL.ab hab3;
                          have rF3 := hrF.ab hab3;
                          have hGX := Lib.hid hD.lt.1;
                          clear hg3 rng hX hab3 hD hrL hrF hb))
                    refine (sign_neg _ N hneg).mono ?_
                    rintro e w4 ⟨rfl, rfl⟩
                    go_wp2_with (go_at_call 18; refine (height_any hD3).mono ?_; rintro e wend ⟨rfl, rfl⟩)
                    go_roundw
                    case rel => exact ⟨i + 1, h, z, _, _, _, TL, _, _, _, F, by omega, rfl, rfl, rfl, rfl, by go_num, hh, hz, hF.out, rL3, rF3, hD3, hb3⟩
                    case measure => simp [intOf]; omega
                  · have hN0 : 0 ≤ N := by omega
                    by_cases hlo : N < h
                    · go_wp2_with (first
                        | ((with_reducible refine wpl_load_op rfl 30 (.tmp 71) rfl b (o + i * 5) ?_ _ _ _ _ _ rng _ Tryd.underlying30 rfl ?_ ?_); rfl; kernel_rfl)
                        | ((with_reducible refine wpl_store_new _ rfl 30 (.tmp 14) (.tmp 72) rfl wr.heap.size ?_ #[.int .i64 1, .int .i64 N, .int .i64 P, .slice A3 m3 d3, .slice A4 m4 d4] ?_ 30 _ (Blk.new' rfl) ?_ ?_ hone ?_); rfl; rfl; kernel_rfl; rfl; intro w3 hX hg3;
                            have hab3 : Below wr.heap.size wr w3 := ((Below.refl _ _).alloc (Nat.le_refl _) _).grown hg3 (by simp) (by intro k hk; cases hk; exact Nat.le_refl _);
                            have y0 : w3.cell? ⟨wr.heap.size, 0, none⟩ = some (.int .i64 1) := hX.cell 0;
                            have y1 : w3.cell? ⟨wr.heap.size, 1, none⟩ = some (.int .i64 N) := hX.cell 1;
                            have y2 : w3.cell? ⟨wr.heap.size, 2, none⟩ = some (.int .i64 P) := hX.cell 2;
                            have y3 : w3.cell? ⟨wr.heap.size, 3, none⟩ = some (.slice A3 m3 d3) := hX.cell 3;
                            have y4 : w3.cell? ⟨wr.heap.size, 4, none⟩ = some (.slice A4 m4 d4) := hX.cell 4;
                            have hXs := Lib.hid hX.lt;
                            have hb3 := hb.trans (hab3.mono hb.size);
                            have hD3 := hD.up hab3;
                            have rL3 := hrL.ab hab3;
                            have rF3 := hrF.ab hab3;
                            have hGX := Lib.hid hD.lt.1;
                            clear hg3 rng hX hab3 hD hrL hrF hb))
                      refine (sign_stale hD3 _ N hN0 hlo).mono ?_
                      rintro e w4 ⟨rfl, rfl⟩
                      go_wp2_with (go_at_call 18; refine (height_any hD3).mono ?_; rintro e wend ⟨rfl, rfl⟩)
                      go_roundw
                      case rel => exact ⟨i + 1, h, z, _, _, _, TL, _, _, _, F, by omega, rfl, rfl, rfl, rfl, by go_num, hh, hz, hF.out, rL3, rF3, hD3, hb3⟩
                      case measure => simp [intOf]; omega
                    · have hge : h ≤ N := by omega
                      have hlo' : ¬ N < h := hlo
                      go_wp2_with (first
                        | ((with_reducible refine wpl_load_op rfl 30 (.tmp 71) rfl b (o + i * 5) ?_ _ _ _ _ _ rng _ Tryd.underlying30 rfl ?_ ?_); rfl; kernel_rfl)
                        | ((with_reducible refine wpl_store_new _ rfl 30 (.tmp 14) (.tmp 72) rfl wr.heap.size ?_ #[.int .i64 1, .int .i64 N, .int .i64 P, .slice A3 m3 d3, .slice A4 m4 d4] ?_ 30 _ (Blk.new' rfl) ?_ ?_ hone ?_); rfl; rfl; kernel_rfl; rfl; intro w3 hX hg3;
                            have hab3 : Below wr.heap.size wr w3 := ((Below.refl _ _).alloc (Nat.le_refl _) _).grown hg3 (by simp) (by intro k hk; cases hk; exact Nat.le_refl _);
                            have y0 : w3.cell? ⟨wr.heap.size, 0, none⟩ = some (.int .i64 1) := hX.cell 0;
                            have y1 : w3.cell? ⟨wr.heap.size, 1, none⟩ = some (.int .i64 N) := hX.cell 1;
                            have y2 : w3.cell? ⟨wr.heap.size, 2, none⟩ = some (.int .i64 P) := hX.cell 2;
                            have y3 : w3.cell? ⟨wr.heap.size, 3, none⟩ = some (.slice A3 m3 d3) := hX.cell 3;
                            have y4 : w3.cell? ⟨wr.heap.size, 4, none⟩ = some (.slice A4 m4 d4) := hX.cell 4;
                            have hXs := Lib.hid hX.lt;
                            have hb3 := hb.trans (hab3.mono hb.size);
                            have hD3 := hD.up hab3;
                            have rL3 := hrL.ab hab3;
                            have rF3 := hrF.ab hab3;
                            have hGX := Lib.hid hD.lt.1;
                            clear hg3 rng hX hab3 hD hrL hrF hb))
                      refine (sign_any (hK.below hb3 hKp) hD3 ((r3.keep (w' := w3) hb3.size (fun q hq _ => hb3.cell hq)).mono (fun _ _ _ => trivial)) hk.out hfx.out.1 hp N hN0 hI1 hge).mono ?_
                      rintro e w5 ⟨g5, n5, k5, hn5, rfl, hg5', hd5, hb5'⟩
                      have hb5 := hb3.trans (hb5'.mono hb3.size)
                      have a5 := Ab.trans _ _ _ hb5' (ab_drew w5)
                      have hD5 := hD3.up a5
                      have hb6 : Below w.heap.size w w5.drew := hb5.trans ((ab_drew w5).mono hb5.size)
                      have rt5 := hd5.rd.ab (ab_drew w5)
                      rw [← hn5] at rt5
                      have hg5 : Hid (G < g5) := by show _ < _; have := hGX.out; have := hXs.out; omega
                      have z1 : w5.drew.cell? ⟨wr.heap.size, 1, none⟩ = some (.int .i64 N) := (a5.cell (p := ⟨wr.heap.size, 1, none⟩) hXs.out).trans y1
                      have z3 : w5.drew.cell? ⟨wr.heap.size, 3, none⟩ = some (.slice A3 m3 d3) := (a5.cell (p := ⟨wr.heap.size, 3, none⟩) hXs.out).trans y3
                      have hXs5 : Hid (wr.heap.size < w5.drew.heap.size) := by show _ < _; have := hXs.out; have := a5.size; omega
                      have y1' : w5.cell? ⟨wr.heap.size, 1, none⟩ = some (.int .i64 N) := (hb5'.cell (p := ⟨wr.heap.size, 1, none⟩) hXs.out).trans y1
                      obtain ⟨T, hT⟩ : ∃ T, Keyed.tag (Keyed.key k p N) B = T := ⟨_, rfl⟩
                      have hT' := Lib.hid hT
                      rw [hT] at rt5
                      clear hn5 hg5' hd5 hb5' hD3 hb3 hb5 y0 y1 y2 y3 y4 hT rL3 rF3 a5
                      go_wp2_with fail
                      refine wp_region_plan Ab Ab.refl Ab.trans [([0, 1, 2, 3, 4, 5, 6, 7, 8, 9, 10], 11)] [12, 13, 14] (by kernel_rfl) (by kernel_rfl) (fun _ _ _ _ _ h => h) ?_
                      simp only [wpPlan, ordPick, Option.toList_some, List.cons_append, List.nil_append, List.getElem?_cons_succ, List.getElem?_cons_zero]
                      generalize w5.drew = w6 at hD5 hb6 rt5 z1 z3 hXs5 ⊢
                      have v1 : ∀ w', Ab w6 w' → w'.cell? ⟨wr.heap.size, 1, none⟩ = some (.int .i64 N) := fun w' h => (Below.cell h (p := ⟨wr.heap.size, 1, none⟩) hXs5.out).trans z1
                      have v3 : ∀ w', Ab w6 w' → w'.cell? ⟨wr.heap.size, 3, none⟩ = some (.slice A3 m3 d3) := fun w' h => (Below.cell h (p := ⟨wr.heap.size, 3, none⟩) hXs5.out).trans z3
                      have vt : ∀ w', Ab w6 w' → Bytes w' w'.heap.size (.slice (some ⟨g5, 0, none⟩) n5 k5) T := fun w' h => (rt5.ab h).all
                      iterate 4 (go_big_quiet_step (exact fun _ => rfl))
                      refine wpq_string rfl 22 9 5 (.tmp 131) rfl rfl rfl rfl _ _ _ rfl _ vt ?_
                      simp only [Act.put, List.setIfInBounds_toArray, List.set_cons_succ, List.set_cons_zero]
                      iterate 3 (go_big_quiet_step (exact fun _ => rfl))
                      refine wpq_load_w rfl 3 (.tmp 135) rfl ⟨wr.heap.size, 1, none⟩ rfl _ v1 _ rfl rfl ?_
                      simp only [Act.put, List.setIfInBounds_toArray, List.set_cons_succ, List.set_cons_zero]
                      iterate 1 (go_big_quiet_step (exact fun _ => rfl))
                      refine wpq_load_w rfl 22 (.tmp 137) rfl ⟨wr.heap.size, 3, none⟩ rfl _ v3 _ rfl rfl ?_
                      simp only [Act.put, List.setIfInBounds_toArray, List.set_cons_succ, List.set_cons_zero]
                      refine wpQuiet_nil ?_
                      clear v1 v3 vt
                      go_wp2_with fail
                      refine (refsign_any ((hR1.out.ab hb6).mono (fun _ _ _ => trivial)) ((r3.keep (w' := w6) hb6.size (fun q hq _ => hb6.cell hq)).mono (fun _ _ _ => trivial)) hk.out hfx.out.1 p N hp hI1).mono ?_
                      rw [hT'.out]
                      intro e w7 hd
                      obtain ⟨A7, n7, k7, rfl, hr7, hb7'⟩ := hd.rd
                      have v7 : ∀ w', Ab w7 w' → Bytes w' w'.heap.size (.slice A7 n7 k7) T := fun w' h => (hr7.ab h).all
                      have a8 := Ab.trans _ _ _ hb7' (ab_drew w7)
                      have hb8 : Below w.heap.size w w7.drew := hb6.trans (Below.mono a8 hb6.size)
                      have hD8 := hD5.up a8
                      have rt8 := rt5.ab a8
                      have x1 : ∀ w', Ab w7.drew w' → w'.cell? ⟨wr.heap.size, 1, none⟩ = some (.int .i64 N) := fun w' h => (Below.cell (Ab.trans _ _ _ a8 h) (p := ⟨wr.heap.size, 1, none⟩) hXs5.out).trans z1
                      have x3 : ∀ w', Ab w7.drew w' → w'.cell? ⟨wr.heap.size, 3, none⟩ = some (.slice A3 m3 d3) := fun w' h => (Below.cell (Ab.trans _ _ _ a8 h) (p := ⟨wr.heap.size, 3, none⟩) hXs5.out).trans z3
                      clear hd hr7 hD5 hb6 rt5 z1 z3 a8
                      go_wp2_with fail
                      refine And.intro hb7' ?_
                      dsimp only
                      refine wpq_string rfl 22 9 5 (.tmp 139) rfl rfl rfl rfl _ _ _ rfl _ v7 ?_
                      simp only [Act.put, List.setIfInBounds_toArray, List.set_cons_succ, List.set_cons_zero]
                      iterate 2 (go_big_quiet_step (exact fun _ => rfl))
                      refine wpQuiet_nil ?_
                      clear v7 hb7'
                      go_wp2_with fail
                      refine wp_region_plan Ab Ab.refl Ab.trans [] [0, 1, 2, 3, 4, 5, 6, 7] (by kernel_rfl) (by kernel_rfl) (fun _ _ _ _ _ h => h) ?_
                      simp only [wpPlan, ordPick, Option.toList_some, List.cons_append, List.nil_append, List.getElem?_cons_succ, List.getElem?_cons_zero]
                      generalize w7.drew = w8 at hb8 hD8 rt8 x1 x3 ⊢
                      iterate 2 (go_big_quiet_step (exact fun _ => rfl))
                      refine wpq_load_one rfl 22 (.tmp 144) rfl ⟨wr.heap.size, 3, none⟩ rfl _ x3 _ rfl rfl ?_
                      simp only [Act.put, List.setIfInBounds_toArray, List.set_cons_succ, List.set_cons_zero]
                      iterate 1 (go_big_quiet_step (exact fun _ => rfl))
                      refine wpq_load_one rfl 3 (.tmp 146) rfl ⟨wr.heap.size, 1, none⟩ rfl _ x1 _ rfl rfl ?_
                      simp only [Act.put, List.setIfInBounds_toArray, List.set_cons_succ, List.set_cons_zero]
                      iterate 3 (go_big_quiet_step (exact fun _ => rfl))
                      refine wpQuiet_nil ?_
                      clear x1 x3
                      have rT8 := rt8.mono (T := fun i => i ≠ G) (fun i _ hi => by have := hg5.out; omega)
                      have rB8 := (r3.keep (w' := w8) hb8.size (fun q hq _ => hb8.cell hq)).mono (T := fun i => i ≠ G) (fun i _ hi => by have := hGw.out; omega)
                      go_wp2_with (go_at_call 18; refine (height_any hD8).mono ?_; rintro e wend ⟨rfl, rfl⟩)
                      go_roundw
                      case rel => exact ⟨i + 1, h, N, _, _, _, T, _, _, _, B, by omega, rfl, rfl, rfl, rfl, by go_num, hh, hI1, hfx.out.1, rT8, rB8, hD8, hb8⟩
                      case measure => simp [intOf]; omega
                · by_cases hk2 : kd = 2
                  · subst hk2
                    go_wp2_with (first
                      | ((with_reducible refine wpl_load_op rfl 30 (.tmp 71) rfl b (o + i * 5) ?_ _ _ _ _ _ rng _ Tryd.underlying30 rfl ?_ ?_); rfl; kernel_rfl)
                      | ((with_reducible refine wpl_store_new _ rfl 30 (.tmp 14) (.tmp 72) rfl wr.heap.size ?_ #[.int .i64 2, .int .i64 N, .int .i64 P, .slice A3 m3 d3, .slice A4 m4 d4] ?_ 30 _ (Blk.new' rfl) ?_ ?_ hone ?_); rfl; rfl; kernel_rfl; rfl; intro w3 hX hg3;
                          have hab3 : Below wr.heap.size wr w3 := ((Below.refl _ _).alloc (Nat.le_refl _) _).grown hg3 (by simp) (by intro k hk; cases hk; exact Nat.le_refl _);
                          have y0 : w3.cell? ⟨wr.heap.size, 0, none⟩ = some (.int .i64 2) := hX.cell 0;
                          have y1 : w3.cell? ⟨wr.heap.size, 1, none⟩ = some (.int .i64 N) := hX.cell 1;
                          have y2 : w3.cell? ⟨wr.heap.size, 2, none⟩ = some (.int .i64 P) := hX.cell 2;
                          have y3 : w3.cell? ⟨wr.heap.size, 3, none⟩ = some (.slice A3 m3 d3) := hX.cell 3;
                          have y4 : w3.cell? ⟨wr.heap.size, 4, none⟩ = some (.slice A4 m4 d4) := hX.cell 4;
                          have hXs := Lib.hid hX.lt;
                          have hb3 := hb.trans (hab3.mono hb.size);
                          have hD3 := hD.up hab3;
                          have rL3 := hrL.ab hab3;
                          have rF3 := hrF.ab hab3;
                          have hGX := Lib.hid hD.lt.1;
                          have a4 := ab_drew w3;
                          clear hg3 rng hX hab3 hD hrL hrF hb))
                    have hb4 : Below w.heap.size w w3.drew := hb3.trans (Below.mono a4 hb3.size)
                    have hD4 := hD3.up a4
                    have rL4 := rL3.ab a4
                    have rF4 := rF3.ab a4
                    have v1 : ∀ w', Ab w3.drew w' → w'.cell? ⟨wr.heap.size, 1, none⟩ = some (.int .i64 N) := fun w' h => (Below.cell (Ab.trans _ _ _ a4 h) (p := ⟨wr.heap.size, 1, none⟩) hXs.out).trans y1
                    have v2 : ∀ w', Ab w3.drew w' → w'.cell? ⟨wr.heap.size, 2, none⟩ = some (.int .i64 P) := fun w' h => (Below.cell (Ab.trans _ _ _ a4 h) (p := ⟨wr.heap.size, 2, none⟩) hXs.out).trans y2
                    clear hb3 hD3 rL3 rF3 y0 y1 y2 y3 y4 a4
                    refine wp_region_plan Ab Ab.refl Ab.trans [([0, 1, 2, 3, 4, 5, 6, 8, 9, 10, 11, 12, 13, 14], 7), ([], 15), ([16, 17, 18, 19, 20, 21, 22, 24, 25, 26, 27, 28], 23), ([], 29)] [30, 31] (by kernel_rfl) (by kernel_rfl) (fun _ _ _ _ _ h => h) ?_
                    simp only [wpPlan, ordPick, Option.toList_some, List.cons_append, List.nil_append, List.getElem?_cons_succ, List.getElem?_cons_zero]
                    generalize w3.drew = w4 at hb4 hD4 rL4 rF4 v1 v2 ⊢
                    iterate 2 (go_big_quiet_step (exact fun _ => rfl))
                    refine wpq_load_one rfl 3 (.tmp 151) rfl ⟨wr.heap.size, 2, none⟩ rfl _ v2 _ rfl rfl ?_
                    simp only [Act.put, List.setIfInBounds_toArray, List.set_cons_succ, List.set_cons_zero]
                    iterate 1 (go_big_quiet_step (exact fun _ => rfl))
                    refine wpq_load_one rfl 3 (.tmp 153) rfl ⟨wr.heap.size, 1, none⟩ rfl _ v1 _ rfl rfl ?_
                    simp only [Act.put, List.setIfInBounds_toArray, List.set_cons_succ, List.set_cons_zero]
                    iterate 4 (go_big_quiet_step (exact fun _ => rfl))
                    refine wpq_load_one rfl 3 (.tmp 159) rfl ⟨wr.heap.size, 2, none⟩ rfl _ v2 _ rfl rfl ?_
                    simp only [Act.put, List.setIfInBounds_toArray, List.set_cons_succ, List.set_cons_zero]
                    iterate 1 (go_big_quiet_step (exact fun _ => rfl))
                    refine wpq_load_one rfl 3 (.tmp 161) rfl ⟨wr.heap.size, 1, none⟩ rfl _ v1 _ rfl rfl ?_
                    simp only [Act.put, List.setIfInBounds_toArray, List.set_cons_succ, List.set_cons_zero]
                    iterate 2 (go_big_quiet_step (exact fun _ => rfl))
                    refine wpQuiet_nil ?_
                    clear v1 v2
                    go_wp2_with fail
                    refine (verify_any (hK.below hb4 hKp) hD4 (rF4.mono (T := fun _ => True) (fun _ _ _ => trivial)) (rL4.mono (T := fun _ => True) (fun _ _ _ => trivial)) hk.out hF.out P N hI2 hI1).mono ?_
                    obtain ⟨D1, hD1⟩ : ∃ d, decide (TL = Keyed.tag (Keyed.key k P N) F) = d := ⟨_, rfl⟩
                    rw [hD1]
                    have hD1' := Lib.hid hD1
                    clear hD1
                    rintro e w5 ⟨rfl, hb5'⟩
                    have hb5 := hb4.trans (hb5'.mono hb4.size)
                    have hD5 := hD4.up hb5'
                    have rL5 := rL4.ab hb5'
                    have rF5 := rF4.ab hb5'
                    clear hb4 hD4 rL4 rF4
                    go_wp2_with fail
                    refine And.intro hb5' (wpQuiet_nil ?_)
                    clear hb5'
                    go_wp2_with fail
                    refine (refverify_any ((hR1.out.ab hb5).mono (fun _ _ _ => trivial)) (rF5.mono (T := fun _ => True) (fun _ _ _ => trivial)) (rL5.mono (T := fun _ => True) (fun _ _ _ => trivial)) hk.out hF.out P N hI2 hI1).mono ?_
                    rw [hD1'.out]
                    rintro e w6 ⟨rfl, hb6'⟩
                    have hb6 := hb5.trans (hb6'.mono hb5.size)
                    have hD6 := hD5.up hb6'
                    have rL6 := rL5.ab hb6'
                    have rF6 := rF5.ab hb6'
                    clear hb5 hD5 rL5 rF5 hD1'
                    have hnn : ∀ b : Bool, (b != b) = false := fun b => by cases b <;> rfl
                    go_wp2_with fail
                    refine And.intro hb6' ?_
                    dsimp only
                    iterate 12 (go_big_quiet_step (exact fun _ => rfl))
                    refine wpQuiet_nil ?_
                    clear hb6'
                    go_wp2_with fail
                    refine (verify_any (hK.below hb6 hKp) hD6 (rF6.mono (T := fun _ => True) (fun _ _ _ => trivial)) (rL6.mono (T := fun _ => True) (fun _ _ _ => trivial)) hk.out hF.out p z hp hz).mono ?_
                    obtain ⟨D2, hD2⟩ : ∃ d, decide (TL = Keyed.tag (Keyed.key k p z) F) = d := ⟨_, rfl⟩
                    rw [hD2]
                    have hD2' := Lib.hid hD2
                    clear hD2
                    rintro e w7 ⟨rfl, hb7'⟩
                    have hb7 := hb6.trans (hb7'.mono hb6.size)
                    have hD7 := hD6.up hb7'
                    have rL7 := rL6.ab hb7'
                    have rF7 := rF6.ab hb7'
                    clear hb6 hD6 rL6 rF6
                    go_wp2_with fail
                    refine And.intro hb7' (wpQuiet_nil ?_)
                    clear hb7'
                    go_wp2_with fail
                    refine (refverify_any ((hR1.out.ab hb7).mono (fun _ _ _ => trivial)) (rF7.mono (T := fun _ => True) (fun _ _ _ => trivial)) (rL7.mono (T := fun _ => True) (fun _ _ _ => trivial)) hk.out hF.out p z hp hz).mono ?_
                    rw [hD2'.out]
                    rintro e w8 ⟨rfl, hb8'⟩
                    have hb8 := hb7.trans (hb8'.mono hb7.size)
                    have hD8 := hD7.up hb8'
                    have rL8 := rL7.ab hb8'
                    have rF8 := rF7.ab hb8'
                    clear hb7 hD7 rL7 rF7 hD2'
                    go_wp2_with fail
                    refine And.intro hb8' ?_
                    dsimp only
                    iterate 2 (go_big_quiet_step (exact fun _ => rfl))
                    refine wpQuiet_nil ?_
                    clear hb8'
                    go_wp2_with (go_at_call 18; refine (height_any hD8).mono ?_; rintro e wend ⟨rfl, rfl⟩)
                    go_roundw
                    case rel => exact ⟨i + 1, h, z, _, _, _, TL, _, _, _, F, by omega, rfl, rfl, rfl, rfl, by go_num, hh, hz, hF.out, rL8, rF8, hD8, hb8⟩
                    case measure => simp [intOf]; omega
                  · go_wp2_with (first
                      | ((with_reducible refine wpl_load_op rfl 30 (.tmp 71) rfl b (o + i * 5) ?_ _ _ _ _ _ rng _ Tryd.underlying30 rfl ?_ ?_); rfl; kernel_rfl)
                      | ((with_reducible refine wpl_store_new _ rfl 30 (.tmp 14) (.tmp 72) rfl wr.heap.size ?_ #[.int .i64 kd, .int .i64 N, .int .i64 P, .slice A3 m3 d3, .slice A4 m4 d4] ?_ 30 _ (Blk.new' rfl) ?_ ?_ hone ?_); rfl; rfl; kernel_rfl; rfl; intro w3 hX hg3;
                          have hab3 : Below wr.heap.size wr w3 := ((Below.refl _ _).alloc (Nat.le_refl _) _).grown hg3 (by simp) (by intro k hk; cases hk; exact Nat.le_refl _);
                          have y0 : w3.cell? ⟨wr.heap.size, 0, none⟩ = some (.int .i64 kd) := hX.cell 0;
                          have y1 : w3.cell? ⟨wr.heap.size, 1, none⟩ = some (.int .i64 N) := hX.cell 1;
                          have y2 : w3.cell? ⟨wr.heap.size, 2, none⟩ = some (.int .i64 P) := hX.cell 2;
                          have y3 : w3.cell? ⟨wr.heap.size, 3, none⟩ = some (.slice A3 m3 d3) := hX.cell 3;
                          have y4 : w3.cell? ⟨wr.heap.size, 4, none⟩ = some (.slice A4 m4 d4) := hX.cell 4;
                          have hXs := Lib.hid hX.lt;
                          have hb3 := hb.trans (hab3.mono hb.size);
                          have hD3 := hD.up hab3;
                          have rL3 := hrL.ab hab3;
                          have rF3 := hrF.ab hab3;
                          have hGX := Lib.hid hD.lt.1;
                          have a4 := ab_drew w3;
                          clear hg3 rng hX hab3 hD hrL hrF hb))
                    have hb4 : Below w.heap.size w w3.drew := hb3.trans (Below.mono a4 hb3.size)
                    have hD4 := hD3.up a4
                    have rL4 := rL3.ab a4
                    have rF4 := rF3.ab a4
                    have v1 : ∀ w', Ab w3.drew w' → w'.cell? ⟨wr.heap.size, 1, none⟩ = some (.int .i64 N) := fun w' h => (Below.cell (Ab.trans _ _ _ a4 h) (p := ⟨wr.heap.size, 1, none⟩) hXs.out).trans y1
                    have v2 : ∀ w', Ab w3.drew w' → w'.cell? ⟨wr.heap.size, 2, none⟩ = some (.int .i64 P) := fun w' h => (Below.cell (Ab.trans _ _ _ a4 h) (p := ⟨wr.heap.size, 2, none⟩) hXs.out).trans y2
                    have v3 : ∀ w', Ab w3.drew w' → w'.cell? ⟨wr.heap.size, 3, none⟩ = some (.slice A3 m3 d3) := fun w' h => (Below.cell (Ab.trans _ _ _ a4 h) (p := ⟨wr.heap.size, 3, none⟩) hXs.out).trans y3
                    have v4 : ∀ w', Ab w3.drew w' → w'.cell? ⟨wr.heap.size, 4, none⟩ = some (.slice A4 m4 d4) := fun w' h => (Below.cell (Ab.trans _ _ _ a4 h) (p := ⟨wr.heap.size, 4, none⟩) hXs.out).trans y4
                    have rB4 := r3.keep (w' := w3.drew) hb4.size (fun q hq _ => hb4.cell hq)
                    have rT4 := r4.keep (w' := w3.drew) hb4.size (fun q hq _ => hb4.cell hq)
                    clear hb3 hD3 rL3 rF3 y0 y1 y2 y3 y4 a4
                    refine wp_region_plan Ab Ab.refl Ab.trans [([0, 1, 2, 3, 4, 5, 6, 7, 8, 10, 11, 12, 13, 14, 15, 16, 17, 18], 9), ([], 19)] [20] (by kernel_rfl) (by kernel_rfl) (fun _ _ _ _ _ h => h) ?_
                    simp only [wpPlan, ordPick, Option.toList_some, List.cons_append, List.nil_append, List.getElem?_cons_succ, List.getElem?_cons_zero]
                    generalize w3.drew = w4 at hb4 hD4 rL4 rF4 v1 v2 v3 v4 rB4 rT4 ⊢
                    iterate 2 (go_big_quiet_step (exact fun _ => rfl))
                    refine wpq_load_one rfl 3 (.tmp 76) rfl ⟨wr.heap.size, 2, none⟩ rfl _ v2 _ rfl rfl ?_
                    simp only [Act.put, List.setIfInBounds_toArray, List.set_cons_succ, List.set_cons_zero]
                    iterate 1 (go_big_quiet_step (exact fun _ => rfl))
                    refine wpq_load_one rfl 3 (.tmp 78) rfl ⟨wr.heap.size, 1, none⟩ rfl _ v1 _ rfl rfl ?_
                    simp only [Act.put, List.setIfInBounds_toArray, List.set_cons_succ, List.set_cons_zero]
                    iterate 1 (go_big_quiet_step (exact fun _ => rfl))
                    refine wpq_load_one rfl 22 (.tmp 80) rfl ⟨wr.heap.size, 3, none⟩ rfl _ v3 _ rfl rfl ?_
                    simp only [Act.put, List.setIfInBounds_toArray, List.set_cons_succ, List.set_cons_zero]
                    iterate 1 (go_big_quiet_step (exact fun _ => rfl))
                    refine wpq_load_one rfl 22 (.tmp 82) rfl ⟨wr.heap.size, 4, none⟩ rfl _ v4 _ rfl rfl ?_
                    simp only [Act.put, List.setIfInBounds_toArray, List.set_cons_succ, List.set_cons_zero]
                    iterate 2 (go_big_quiet_step (exact fun _ => rfl))
                    refine wpq_load_one rfl 3 (.tmp 86) rfl ⟨wr.heap.size, 2, none⟩ rfl _ v2 _ rfl rfl ?_
                    simp only [Act.put, List.setIfInBounds_toArray, List.set_cons_succ, List.set_cons_zero]
                    iterate 1 (go_big_quiet_step (exact fun _ => rfl))
                    refine wpq_load_one rfl 3 (.tmp 88) rfl ⟨wr.heap.size, 1, none⟩ rfl _ v1 _ rfl rfl ?_
                    simp only [Act.put, List.setIfInBounds_toArray, List.set_cons_succ, List.set_cons_zero]
                    iterate 1 (go_big_quiet_step (exact fun _ => rfl))
                    refine wpq_load_one rfl 22 (.tmp 90) rfl ⟨wr.heap.size, 3, none⟩ rfl _ v3 _ rfl rfl ?_
                    simp only [Act.put, List.setIfInBounds_toArray, List.set_cons_succ, List.set_cons_zero]
                    iterate 1 (go_big_quiet_step (exact fun _ => rfl))
                    refine wpq_load_one rfl 22 (.tmp 92) rfl ⟨wr.heap.size, 4, none⟩ rfl _ v4 _ rfl rfl ?_
                    simp only [Act.put, List.setIfInBounds_toArray, List.set_cons_succ, List.set_cons_zero]
                    refine wpQuiet_nil ?_
                    clear v1 v2 v3 v4
                    go_wp2_with fail
                    refine (verify_any (hK.below hb4 hKp) hD4 (rB4.mono (T := fun _ => True) (fun _ _ _ => trivial)) (rT4.mono (T := fun _ => True) (fun _ _ _ => trivial)) hk.out hfx.out.1 P N hI2 hI1).mono ?_
                    obtain ⟨D1, hD1⟩ : ∃ d, decide (T0 = Keyed.tag (Keyed.key k P N) B) = d := ⟨_, rfl⟩
                    rw [hD1]
                    have hD1' := Lib.hid hD1
                    clear hD1
                    rintro e w5 ⟨rfl, hb5'⟩
                    have hb5 := hb4.trans (hb5'.mono hb4.size)
                    have hD5 := hD4.up hb5'
                    have rL5 := rL4.ab hb5'
                    have rF5 := rF4.ab hb5'
                    have rB5 := rB4.ab hb5'
                    have rT5 := rT4.ab hb5'
                    clear hb4 hD4 rL4 rF4 rB4 rT4
                    have hnn : ∀ b : Bool, (b != b) = false := fun b => by cases b <;> rfl
                    go_wp2_with fail
                    refine And.intro hb5' (wpQuiet_nil ?_)
                    clear hb5'
                    go_wp2_with fail
                    refine (refverify_any ((hR1.out.ab hb5).mono (fun _ _ _ => trivial)) (rB5.mono (T := fun _ => True) (fun _ _ _ => trivial)) (rT5.mono (T := fun _ => True) (fun _ _ _ => trivial)) hk.out hfx.out.1 P N hI2 hI1).mono ?_
                    rw [hD1'.out]
                    rintro e w6 ⟨rfl, hb6'⟩
                    have hb6 := hb5.trans (hb6'.mono hb5.size)
                    have hD6 := hD5.up hb6'
                    have rL6 := rL5.ab hb6'
                    have rF6 := rF5.ab hb6'
                    clear hb5 hD5 rL5 rF5 hD1' rB5 rT5
                    go_wp2_with fail
                    refine And.intro hb6' ?_
                    dsimp only
                    iterate 1 (go_big_quiet_step (exact fun _ => rfl))
                    refine wpQuiet_nil ?_
                    clear hb6'
                    go_wp2_with (go_at_call 18; refine (height_any hD6).mono ?_; rintro e wend ⟨rfl, rfl⟩)
                    go_roundw
                    case rel => exact ⟨i + 1, h, z, _, _, _, TL, _, _, _, F, by omega, rfl, rfl, rfl, rfl, by go_num, hh, hz, hF.out, rL6, rF6, hD6, hb6⟩
                    case measure => simp [intOf]; omega
            · have hltI : ¬ (i : Int) < (n3 : Int) := by omega
              go_wp2_with fail
              go_ret
              exact ⟨rfl, hb⟩
    · rw [decide_eq_false hs]
      go_wp2_with fail
      go_ret
      exact ⟨rfl, hb1⟩
theorem table {W : World} (h : laidMetH Tryd.prog Rows.keyedPlaysRow.laid W) : Lib.TabIs Tryd.prog W "plexus/sha256.constants" .u32 (Sha.K.map fun (n : Nat) => (n : Int)) :=
  Lib.tabIs_of_head (rest := []) gTab gTabType Tryd.underlying76 Tryd.underlying63 cellsWord cellsTab h
theorem contract (H : Type) (enc : TypeId × Value → H) (W : World) (base : Nat) (args : Array Value) (ds gs : List (DataW H)) (before : List MemPlace)
    (hval : ∀ (j : Nat) t v, Tryd.f5.params[j]? = some t → args[j]? = some v → Value.okWide Tryd.prog W .any base t v)
    (hW : DataW.Whole enc Tryd.prog Tryd.f5.params.toList Rows.keyedPlaysSpec.vars false W args.toList ds gs before) (hL : laidMetH Tryd.prog Rows.keyedPlaysRow.laid W) :
    Calls Tryd.prog 5 args W fun e W' => ∃ v, e = .returned v ∧ Rows.keyedPlaysSpec.post enc Tryd.prog Tryd.f5 false true false false W args v W' := by
  have hW' := hW
  obtain ⟨p, q, hA0, hV, rfl, hfz, hnd⟩ := hW
  have hA : DataW.TrodAll enc Tryd.prog W 0 (fun _ => true) true Tryd.f5.params.toList args.toList ds p := hA0
  rw [Tryd.params5] at hA hval
  obtain ⟨v0, vs0, d0, ds0, p0, q0, hargs, rfl, rfl, h0, r0⟩ := trodAll_cons hA
  obtain ⟨v1, vs1, d1, ds1, p1, q1, rfl, rfl, rfl, h1, r1⟩ := trodAll_cons r0
  obtain ⟨v2, vs2, d2, ds2, p2, q2, rfl, rfl, rfl, h2, r2⟩ := trodAll_cons r1
  obtain ⟨rfl, rfl, rfl⟩ := trodAll_nil r2
  obtain rfl : args = #[v0, v1, v2] := by cases args; simp_all
  obtain ⟨rfl, rfl⟩ := trodVars_none hV
  obtain ⟨a0, len0, cap0, rfl⟩ := okWide_slice Tryd.underlying22 (hval 0 22 v0 rfl rfl)
  obtain ⟨a2, len2, cap2, rfl⟩ := okWide_slice Tryd.underlying28 (hval 2 28 v2 rfl rfl)
  have k0 := h0
  have lt0 : ∀ x ∈ p0, x.block < W.heap.size := by obtain ⟨m, hm⟩ := k0; exact DataW.trod_lt m _ _ _ hm
  obtain ⟨z0, w0⟩ := isRow_of_trod Tryd.underlying22 Tryd.underlying5 (by kernel_rfl) h0
  obtain ⟨bs0, hrd0⟩ := rd_of_row w0
  have k1 := h1
  have lt1 : ∀ x ∈ p1, x.block < W.heap.size := by obtain ⟨m, hm⟩ := k1; exact DataW.trod_lt m _ _ _ hm
  obtain ⟨n1, rfl, -, -, z1⟩ := open_int Tryd.underlying3 (hval 1 3 v1 rfl rfl) h1
  have k2 := h2
  have lt2 : ∀ x ∈ p2, x.block < W.heap.size := by obtain ⟨m, hm⟩ := k2; exact DataW.trod_lt m _ _ _ hm
  have hro2 := ops_of_trod Tryd.underlying28 Tryd.underlying30 (by kernel_rfl) rfl rfl rfl rfl rfl rfl rfl rfl rfl rfl rfl rfl rfl rfl rfl rfl Tryd.underlying3 (by kernel_rfl) (by kernel_rfl) Tryd.underlying22 Tryd.underlying5 (by kernel_rfl) h2
  clear hA0
  refine (walk W (kst_of_tab (table hL)) hrd0 n1 (bounds_i64 z1) hro2).mono fun e W' ⟨he, bel⟩ => ?_
  subst he
  exact ⟨_, rfl, _, _, _, [], _, [], hW', trodAll_mk1 (shut_bool Tryd.underlying4 _), (trodAll_cons_mk (Below.trod laidOut (by kernel_rfl) (of_decide_eq_true (by kernel_rfl)) k0 bel lt0) (trodAll_cons_mk (Below.trod laidOut (by kernel_rfl) (of_decide_eq_true (by kernel_rfl)) k1 bel lt1) (trodAll_cons_mk (Below.trod laidOut (by kernel_rfl) (of_decide_eq_true (by kernel_rfl)) k2 bel lt2) trodAll_mk0))), rfl, bel.frame _, fun h => by cases h⟩
theorem laid_met (os : Os) : laidMet Tryd.prog Rows.keyedPlaysRow.laid ((laidWorld os).forCall (fun _ _ => 0) ⟨#[], #[.slice none 0 0, .int .i64 0, .slice none 0 0], []⟩).memory :=
  laidMet_of_run' 8 (by kernel_rfl) (by kernel_rfl)
theorem reads (os : Os) {H : Type} (enc : TypeId × Value → H) : ∃ places, DataW.whole enc Tryd.prog ((laidWorld os).forCall (fun _ _ => 0) ⟨#[], #[.slice none 0 0, .int .i64 0, .slice none 0 0], []⟩).memory Tryd.f5.params.toList Rows.keyedPlaysSpec.vars false #[Value.slice none 0 0, .int .i64 0, .slice none 0 0].toList 8 = some ([.nil, .lit (.int .i64 0), .nil], [], places) :=
  ⟨[], by kernel_rfl⟩
set_option maxRecDepth 100000 in
theorem lifted (os : Os) (started : os.Started) (H : Type) (enc : TypeId × Value → H) (F : Stop.Interp) :
    ReturnsInHanded {} Tryd.checked os 5 .any ((OpenSpec.ofChange Rows.keyedPlaysSpec).preRow enc Tryd.prog Tryd.f5 Rows.keyedPlaysRow.domain false Rows.keyedPlaysRow.laid) (((OpenSpec.ofChange Rows.keyedPlaysSpec).at F).post enc Tryd.prog Tryd.f5 false true false false) := by
  obtain ⟨places, hx⟩ := reads os enc
  refine returnsInHanded_of_row (C := Tryd.checked) (s := OpenSpec.ofChange Rows.keyedPlaysSpec) own started (by kernel_rfl) Tryd.func5
    (witness_row_at (enc := enc) (C := Tryd.checked) false (laidWorld os) #[.slice none 0 0, .int .i64 0, .slice none 0 0] rfl (by kernel_rfl) (by kernel_rfl) (by kernel_rfl)
      (OpenSpec.preRow_of_cond 8 hx (by kernel_rfl) (fun k hk => by cases hk) (by kernel_rfl) (laid_met os))) ?_
  intro W base args ds gs before hval hW _ _ _ hL _ _
  exact contract H enc W base args ds gs before hval hW hL
theorem said : Rows.KeyedPlaysSaid :=
  OpenClaim.holds_of_cond 5 Tryd.f5 rfl rfl rfl rfl rfl rfl rfl ⟨rfl, rfl, rfl, rfl, rfl⟩ rfl rfl rfl rfl rfl (by kernel_rfl) Tryd.func5 (by kernel_rfl)
    (of_decide_eq_true (by kernel_rfl)) (by unfold Func.isWrapper; first | (rw [if_pos (by decide +kernel)]; kernel_rfl) | (rw [if_neg (by decide +kernel)]; exact ⟨rfl, rfl⟩))
    (fun os started H enc _ F => by rw [OpenClaim.pre_eq_preRow]; exact lifted os started H enc F)
theorem plain (f : FuncId) (fn : Func) (hf : Tryd.pinned.checked.prog.funcNamed "plexus/plexuslaw05.KeyedPlays" = some f) (hfn : Tryd.pinned.checked.prog.funcs[f]? = some fn) :
    false = Tryd.pinned.checked.prog.looks [] ∧ ∀ (j : Nat) t, fn.params[j]? = some t → Tryd.pinned.checked.prog.wantsStandIn t = false := by
  obtain rfl : f = 5 := Option.some.inj ((show Tryd.prog.funcNamed "plexus/plexuslaw05.KeyedPlays" = some 5 by kernel_rfl).symm.trans hf) |>.symm
  obtain rfl : fn = Tryd.f5 := (Option.some.inj (Tryd.func5.symm.trans hfn)).symm
  refine ⟨by kernel_rfl, fun j t ht => ?_⟩
  rw [Tryd.params5] at ht
  have hm : t = 22 ∨ t = 3 ∨ t = 28 := by simpa using Array.mem_of_getElem? ht
  rcases hm with rfl | rfl | rfl
  · exact (show Tryd.prog.wantsStandIn 22 = false by kernel_rfl)
  · exact (show Tryd.prog.wantsStandIn 3 = false by kernel_rfl)
  · exact (show Tryd.prog.wantsStandIn 28 = false by kernel_rfl)
/-- The card. -/
theorem card : Rows.KeyedPlaysCardSaid :=
  Claim7.holds_tied_plain_at .later [] _ _ _ _ said (fun _ h => by cases h) (by kernel_rfl) (fun _ h => by cases h) keyedPlays_row_tie rfl ⟨rfl, rfl⟩ (by kernel_rfl) rfl plain (by kernel_rfl)
#print axioms card
end Go.Proofs.YtlofgcglnpjceaaDoor.keyedPlays
