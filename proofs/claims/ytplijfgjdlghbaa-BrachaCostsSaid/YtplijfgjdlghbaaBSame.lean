/-
  Two messages, two lists of messages that are the same.
-/
import Derived.Test.YtplijfgjdlghbaaBDone
namespace Go.Pl
open Go.RowKit
section
variable {P : Program} {ops : Array Oper} {rest : List Oper} {o : Oper} {a : Act} {Q : Exit → Act → World → Prop} {w : World}
/-- A message in the middle of a block, loaded where a region is walked quietly. -/
theorem wpq_load_six {C : World → Prop} {R : Act → Prop} (hgd : o.guard = none) (ty : TypeId) (x : Operand) (hop : o.op = .load ty x) (g k : Nat) (hx : a.eval x = .pointer (some ⟨g, k, none⟩)) (v0 v1 v2 v3 v4 v5 : Value) (hr : ∀ w, C w → w.rangeAt g k [v0, v1, v2, v3, v4, v5])
    (d : TypeDesc) (hu : P.underlying ty = some d) (hd : d.isRow = true) (hi : (P.info? ty).map (·.size) = some 6)
    (h : wpQuiet P ops C R rest (a.put o.dst (.agg #[v0, v1, v2, v3, v4, v5]))) : wpQuiet P ops C R (o :: rest) a :=
  BigFrame.wpQuiet_want (by simp [Region.wanted, hgd]) fun K hK => ⟨.agg #[v0, v1, v2, v3, v4, v5], fun w hw => by
    have hl := run_loadVar_mid (P := P) w g k ty [v0, v1, v2, v3, v4, v5] d (hr w hw) hu hd (by simpa using hi)
    unfold Oper.quietAt execOp
    simp only [hop, hx, Instr.loadAt, Instr.sureAddr, Sem.run_bind, Sem.run_pure, Result.andThen_ok, hl]
    exact ⟨rfl, rfl⟩, hK _ h⟩
end
end Go.Pl
namespace Go.Proofs.Ytplijfgjdlghbaa
open Go.RowKit Go.Pl
set_option maxRecDepth 100000 in
set_option maxHeartbeats 2000000 in
theorem same_pkt (w : World) {S T : Nat → Prop} {A B : Option Addr} {n m c c' : Nat} (x : Bra.Pkt) (ha : Rd w S A n c x.payload) (hb : Rd w T B m c' x.payload) :
    Calls Try.prog 28 #[.agg #[.int .i64 x.kind, .int .i64 x.src, .int .i64 x.to, .int .i64 x.origin, .int .i64 x.number, .slice A n c], .agg #[.int .i64 x.kind, .int .i64 x.src, .int .i64 x.to, .int .i64 x.origin, .int .i64 x.number, .slice B m c']] w
      fun e w' => e = .returned (.bool true) ∧ Below w.heap.size w w' := by
  obtain ⟨kd, src, dt, o, k, bs⟩ := x
  have had := Lib.hid ha
  have hbd := Lib.hid hb
  have hnn : ∀ b : Int, (b == b) = true := fun b => by simp
  have hss : ∀ b : List UInt8, (b == b) = true := fun b => by simp
  clear ha hb
  go_enter Try.func28, Try.ntmps28
  go_upto_region 1 with fail
  obtain ⟨w1, hw1⟩ : ∃ x, (w.alloc (.cells #[.int .i64 kd, .int .i64 src, .int .i64 dt, .int .i64 o, .int .i64 k, .slice A n c] 35)).alloc (.cells #[.int .i64 kd, .int .i64 src, .int .i64 dt, .int .i64 o, .int .i64 k, .slice B m c'] 35) = x := ⟨_, rfl⟩
  have hb1 : Below w.heap.size w w1 := by rw [← hw1]; exact ((Below.refl _ _).alloc (Nat.le_refl _) _).alloc (by simp) _
  have hX : Blk w1 w.heap.size 35 #[.int .i64 kd, .int .i64 src, .int .i64 dt, .int .i64 o, .int .i64 k, .slice A n c] := by rw [← hw1]; exact (Blk.new' rfl).alloc _
  have hY : Blk w1 (w.heap.size + 1) 35 #[.int .i64 kd, .int .i64 src, .int .i64 dt, .int .i64 o, .int .i64 k, .slice B m c'] := by rw [← hw1]; exact Blk.new' (by simp)
  rw [hw1]
  have x0 : w1.cell? ⟨w.heap.size, 0, none⟩ = some (.int .i64 kd) := (hX.cell 0).trans rfl
  have x1 : w1.cell? ⟨w.heap.size, 1, none⟩ = some (.int .i64 src) := (hX.cell 1).trans rfl
  have x2 : w1.cell? ⟨w.heap.size, 2, none⟩ = some (.int .i64 dt) := (hX.cell 2).trans rfl
  have x3 : w1.cell? ⟨w.heap.size, 3, none⟩ = some (.int .i64 o) := (hX.cell 3).trans rfl
  have x4 : w1.cell? ⟨w.heap.size, 4, none⟩ = some (.int .i64 k) := (hX.cell 4).trans rfl
  have x5 : w1.cell? ⟨w.heap.size, 5, none⟩ = some (.slice A n c) := (hX.cell 5).trans rfl
  have y0 : w1.cell? ⟨w.heap.size + 1, 0, none⟩ = some (.int .i64 kd) := (hY.cell 0).trans rfl
  have y1 : w1.cell? ⟨w.heap.size + 1, 1, none⟩ = some (.int .i64 src) := (hY.cell 1).trans rfl
  have y2 : w1.cell? ⟨w.heap.size + 1, 2, none⟩ = some (.int .i64 dt) := (hY.cell 2).trans rfl
  have y3 : w1.cell? ⟨w.heap.size + 1, 3, none⟩ = some (.int .i64 o) := (hY.cell 3).trans rfl
  have y4 : w1.cell? ⟨w.heap.size + 1, 4, none⟩ = some (.int .i64 k) := (hY.cell 4).trans rfl
  have y5 : w1.cell? ⟨w.heap.size + 1, 5, none⟩ = some (.slice B m c') := (hY.cell 5).trans rfl
  have sx : Bytes w1 w1.heap.size (.slice A n c) bs := (had.out.fr (Fr.of_below (F := fun _ => False) hb1) (fun _ _ h => h)).all
  have sy : Bytes w1 w1.heap.size (.slice B m c') bs := (hbd.out.fr (Fr.of_below (F := fun _ => False) hb1) (fun _ _ h => h)).all
  have hb := Lib.hid hb1
  clear hb1 hw1 hX hY
  go_wp2_with (first
    | ((with_reducible refine wpl_string_w 33 9 5 (.tmp 40) rfl rfl ?_ ?_ ?_ _ ?_ _ sx ?_); rfl; rfl; rfl; rfl)
    | ((with_reducible refine wpl_string_w 33 9 5 (.tmp 43) rfl rfl ?_ ?_ ?_ _ ?_ _ sy ?_); rfl; rfl; rfl; rfl))
  go_ret
  exact ⟨by first | rfl | simp, hb.out⟩
set_option maxRecDepth 100000 in
set_option maxHeartbeats 2000000 in
theorem same_yes (w : World) {S T : Nat → Prop} {A B : Option Addr} {n m c c' : Nat} {ms : List Bra.Pkt} (ha : RdP w S A n c ms) (hb : RdP w T B m c' ms) (hle : ms.length ≤ 1000000) :
    Calls Try.prog 12 #[.slice A n c, .slice B m c'] w fun e w' => e = .returned (.bool true) ∧ Below w.heap.size w w' := by
  obtain rfl : n = ms.length := ha.len
  obtain rfl : m = ms.length := hb.len
  have had := Lib.hid (ha.mono (T := fun i => i < w.heap.size) (fun i hi _ => hi))
  have hbd := Lib.hid (hb.mono (T := fun i => i < w.heap.size) (fun i hi _ => hi))
  clear ha hb
  obtain ⟨N, hN⟩ : ∃ N, ms.length = N := ⟨_, rfl⟩
  rw [hN] at had hbd hle ⊢
  have hN' := Lib.hid hN
  clear hN
  go_enter Try.func12, Try.ntmps12
  go_wp2_with fail
  go_loopw [5] (fun t5 wr => ∃ i : Nat, i ≤ N ∧ t5 = .int .i64 i ∧ Below w.heap.size w wr) (fun t5 _ => N - (intOf t5).toNat)
  case atStart => exact ⟨0, by omega, rfl, Below.refl _ _⟩
  case round =>
    obtain ⟨i, hi, rfl, hb⟩ := hrel
    by_cases hlt : i < N
    · have hltI : (i : Int) < (N : Int) := by omega
      have hil : i < ms.length := by rw [hN'.out]; exact hlt
      obtain ⟨b, off, s, rfl, hbs, -, hs, hg⟩ := had.out.get (List.getElem?_eq_getElem hil)
      obtain ⟨b2, off2, s2, rfl, hbs2, -, hs2, hg2⟩ := hbd.out.get (List.getElem?_eq_getElem hil)
      obtain ⟨d, hd⟩ : ∃ d, ms[i] = d := ⟨_, rfl⟩
      rw [hd] at hs hg hs2 hg2
      obtain ⟨Ax, nx, cx, rfl, hrx⟩ := hs
      obtain ⟨Ay, ny, cy, rfl, hry⟩ := hs2
      have up : ∀ {q : Nat} {k : Nat} {vs : List Value}, q < w.heap.size → w.rangeAt q k vs → ∀ w', Ab wr.drew w' → w'.rangeAt q k vs := fun hq hv w' h => rangeAt_up hv (fun j => (Below.cell h (p := ⟨_, j, none⟩) (Nat.lt_of_lt_of_le hq hb.size)).trans (hb.cell (p := ⟨_, j, none⟩) hq))
      have a0 : ∀ w', Ab wr.drew w' → w'.rangeAt b (off + i * 6) [.int .i64 d.kind, .int .i64 d.src, .int .i64 d.to, .int .i64 d.origin, .int .i64 d.number, .slice Ax nx cx] := up hbs hg
      have b0 : ∀ w', Ab wr.drew w' → w'.rangeAt b2 (off2 + i * 6) [.int .i64 d.kind, .int .i64 d.src, .int .i64 d.to, .int .i64 d.origin, .int .i64 d.number, .slice Ay ny cy] := up hbs2 hg2
      have hb2 : Below w.heap.size w wr.drew := hb.trans ((ab_drew wr).mono hb.size)
      have sx := hrx.fr (Fr.of_below (F := fun _ => False) hb2) (fun _ _ h => h)
      have sy := hry.fr (Fr.of_below (F := fun _ => False) hb2) (fun _ _ h => h)
      clear hg hg2 hd hrx hry up hb hil
      go_wp2_with fail
      refine wp_region_plan Ab Ab.refl Ab.trans [([0, 1, 2, 3, 4, 5, 6, 7], 8)] [9] (by kernel_rfl) (by kernel_rfl) (fun _ _ _ _ _ h => h) ?_
      simp only [wpPlan, ordPick, Option.toList_some, List.cons_append, List.nil_append, List.getElem?_cons_succ, List.getElem?_cons_zero]
      generalize wr.drew = w2 at a0 b0 sx sy hb2 ⊢
      iterate 3 (go_big_quiet_step (exact fun _ => rfl))
      refine wpq_load_six rfl 35 (.tmp 19) rfl b (off + i * 6) rfl _ _ _ _ _ _ a0 _ Try.underlying35 rfl (by kernel_rfl) ?_
      simp only [Act.put, List.setIfInBounds_toArray, List.set_cons_succ, List.set_cons_zero]
      iterate 3 (go_big_quiet_step (exact fun _ => rfl))
      refine wpq_load_six rfl 35 (.tmp 23) rfl b2 (off2 + i * 6) rfl _ _ _ _ _ _ b0 _ Try.underlying35 rfl (by kernel_rfl) ?_
      simp only [Act.put, List.setIfInBounds_toArray, List.set_cons_succ, List.set_cons_zero]
      refine wpQuiet_nil ?_
      clear a0 b0
      go_wp2_with fail
      refine (same_pkt w2 d sx sy).mono ?_
      rintro e w3 ⟨rfl, hb3⟩
      have hb4 := hb2.trans (hb3.mono hb2.size)
      go_wp2_with fail
      refine And.intro hb3 ?_
      dsimp only
      iterate 1 (go_big_quiet_step (exact fun _ => rfl))
      refine wpQuiet_nil ?_
      clear hb3 hb2 sx sy
      go_wp2_with fail
      go_roundw
      case rel => exact ⟨i + 1, by omega, by go_num, hb4⟩
      case measure => simp [intOf]; omega
    · have hltI : ¬ (i : Int) < (N : Int) := by omega
      go_wp2_with fail
      go_ret
      exact ⟨rfl, hb⟩
end Go.Proofs.Ytplijfgjdlghbaa
