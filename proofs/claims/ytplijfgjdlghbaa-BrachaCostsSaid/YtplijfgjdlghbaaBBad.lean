/-
  Messages that are not looked at.
-/
import Derived.Test.YtplijfgjdlghbaaBIn
namespace Go.Proofs.Ytplijfgjdlghbaa
open Go.RowKit Go.Pl
set_option maxRecDepth 100000 in
set_option maxHeartbeats 2000000 in
theorem bad1 {w : World} {L : Nat → Lab} {G : Nat} {p : Bra.Proc} (hp : ProcAt w L G p) {A : Option Addr} {n c : Nat} {bs : List UInt8} (hr : Rd w (fun i => L i = .no) A n c bs) (_hf : Fits bs) (kd src to o k : Int) (h1 : ¬ to = p.self) :
    Calls Try.prog 15 #[.pointer (some ⟨G, 0, none⟩), .agg #[.int .i64 kd, .int .i64 src, .int .i64 to, .int .i64 o, .int .i64 k, .slice A n c]] w fun e w' =>
      e = .returned (.slice none 0 0) ∧ Below w.heap.size w w' := by
  have hne1 : (to != (p.self : Int)) = true := by simpa using h1
  obtain ⟨M, Ad, nd, cd, lm, vs, hin⟩ := hp.in_
  have gc0 : w.cell? ⟨G, 0, none⟩ = some (.int .i64 p.n) := (hin.blk.cell 0).trans rfl
  have gc1 : w.cell? ⟨G, 1, none⟩ = some (.int .i64 p.self) := (hin.blk.cell 1).trans rfl
  have hGl := Lib.hid hp.lt
  have hp' := Lib.hid hp
  have hR := Lib.hid hr
  clear hin hp hr
  go_enter Try.func15, Try.ntmps15
  go_wp2_with fail
  obtain ⟨w1, hw1⟩ : ∃ w1, w.alloc (.cells #[.int .i64 kd, .int .i64 src, .int .i64 to, .int .i64 o, .int .i64 k, .slice A n c] 35) = w1 := ⟨_, rfl⟩
  have hXb : Blk w1 w.heap.size 35 #[.int .i64 kd, .int .i64 src, .int .i64 to, .int .i64 o, .int .i64 k, .slice A n c] := by rw [← hw1]; exact Blk.new' rfl
  have hb1 : Below w.heap.size w w1 := by rw [← hw1]; exact (Below.refl _ _).alloc (Nat.le_refl _) _
  rw [hw1]
  have hpB : Hid (Below w.heap.size w w1.drew) := hb1.trans ((ab_drew w1).mono hb1.size)
  have hX2 : Hid (Blk w1.drew w.heap.size 35 #[.int .i64 kd, .int .i64 src, .int .i64 to, .int .i64 o, .int .i64 k, .slice A n c]) := hXb
  have x0 : ∀ w', Ab w1.drew w' → w'.cell? ⟨w.heap.size, 0, none⟩ = some (.int .i64 kd) := fun w' h => (Below.cell h (p := ⟨w.heap.size, 0, none⟩) hXb.lt).trans ((hXb.cell 0).trans rfl)
  have x1 : ∀ w', Ab w1.drew w' → w'.cell? ⟨w.heap.size, 1, none⟩ = some (.int .i64 src) := fun w' h => (Below.cell h (p := ⟨w.heap.size, 1, none⟩) hXb.lt).trans ((hXb.cell 1).trans rfl)
  have x2 : ∀ w', Ab w1.drew w' → w'.cell? ⟨w.heap.size, 2, none⟩ = some (.int .i64 to) := fun w' h => (Below.cell h (p := ⟨w.heap.size, 2, none⟩) hXb.lt).trans ((hXb.cell 2).trans rfl)
  have x3 : ∀ w', Ab w1.drew w' → w'.cell? ⟨w.heap.size, 3, none⟩ = some (.int .i64 o) := fun w' h => (Below.cell h (p := ⟨w.heap.size, 3, none⟩) hXb.lt).trans ((hXb.cell 3).trans rfl)
  have x4 : ∀ w', Ab w1.drew w' → w'.cell? ⟨w.heap.size, 4, none⟩ = some (.int .i64 k) := fun w' h => (Below.cell h (p := ⟨w.heap.size, 4, none⟩) hXb.lt).trans ((hXb.cell 4).trans rfl)
  have hGw1 : G < w1.heap.size := Nat.lt_of_lt_of_le hGl.out hb1.size
  have g1 : ∀ w', Ab w1.drew w' → w'.cell? ⟨G, 1, none⟩ = some (.int .i64 p.self) := fun w' h => ((Below.cell h (p := ⟨G, 1, none⟩) hGw1).trans (hb1.cell (p := ⟨G, 1, none⟩) hGl.out)).trans gc1
  have g0 : w1.drew.cell? ⟨G, 0, none⟩ = some (.int .i64 p.n) := (hb1.cell (p := ⟨G, 0, none⟩) hGl.out).trans gc0
  clear hXb hb1 hw1 gc0 gc1 hGw1
  refine wp_region_plan Ab Ab.refl Ab.trans [([0, 1, 2, 3, 4, 5, 6, 7, 8, 9, 10], 11), ([12], 13), ([14, 15, 16, 17], 18), ([19], 20), ([21, 22, 23, 24], 25), ([26, 27, 28, 29], 30), ([31, 32, 33, 34], 35), ([36, 37, 38, 39, 40, 41, 42, 43, 44, 45], 46), ([], 47)] [] (by kernel_rfl) (by kernel_rfl) (fun _ _ _ _ _ h => h) ?_
  simp only [wpPlan, ordPick, Option.toList_some, List.cons_append, List.nil_append, List.getElem?_cons_succ, List.getElem?_cons_zero]
  generalize w1.drew = w2 at x0 x1 x2 x3 x4 g1 g0 hpB hX2 ⊢
  iterate 1 (go_big_quiet_step (exact fun _ => rfl))
  refine wpq_load_one rfl 3 (.tmp 11) rfl ⟨w.heap.size, 2, none⟩ rfl _ x2 _ Try.underlying3 rfl ?_
  simp only [Act.put, List.setIfInBounds_toArray, List.set_cons_succ, List.set_cons_zero]
  iterate 3 (go_big_quiet_step (exact fun _ => rfl))
  refine wpq_load_one rfl 3 (.tmp 15) rfl ⟨G, 1, none⟩ rfl _ g1 _ Try.underlying3 rfl ?_
  simp only [Act.put, List.setIfInBounds_toArray, List.set_cons_succ, List.set_cons_zero]
  iterate 2 (go_big_quiet_step (exact fun _ => rfl))
  iterate 3 (go_big_quiet_step (exact fun _ => rfl))
  refine wpQuiet_nil ?_
  go_wp2_with fail
  refine And.intro (Ab.refl _) ?_
  dsimp only
  iterate 1 (go_big_quiet_step (exact fun _ => rfl))
  refine wpQuiet_nil ?_
  go_wp2_with fail
  refine And.intro (Ab.refl _) ?_
  dsimp only
  iterate 1 (go_big_quiet_step (exact fun _ => rfl))
  iterate 3 (go_big_quiet_step (exact fun _ => rfl))
  refine wpQuiet_nil ?_
  go_wp2_with fail
  refine And.intro (Ab.refl _) ?_
  dsimp only
  iterate 1 (go_big_quiet_step (exact fun _ => rfl))
  refine wpQuiet_nil ?_
  go_wp2_with fail
  refine And.intro (Ab.refl _) ?_
  dsimp only
  iterate 1 (go_big_quiet_step (exact fun _ => rfl))
  iterate 3 (go_big_quiet_step (exact fun _ => rfl))
  refine wpQuiet_nil ?_
  go_wp2_with fail
  refine And.intro (Ab.refl _) ?_
  dsimp only
  iterate 1 (go_big_quiet_step (exact fun _ => rfl))
  iterate 3 (go_big_quiet_step (exact fun _ => rfl))
  refine wpQuiet_nil ?_
  go_wp2_with fail
  refine And.intro (Ab.refl _) ?_
  dsimp only
  iterate 1 (go_big_quiet_step (exact fun _ => rfl))
  iterate 3 (go_big_quiet_step (exact fun _ => rfl))
  refine wpQuiet_nil ?_
  go_wp2_with fail
  refine And.intro (Ab.refl _) ?_
  dsimp only
  iterate 10 (go_big_quiet_step (exact fun _ => rfl))
  refine wpQuiet_nil ?_
  go_wp2_with fail
  refine And.intro (Ab.refl _) (wpQuiet_nil ?_)
  go_wp2_with fail
  refine And.intro (Ab.refl _) (wpQuiet_nil ?_)
  go_wp2_with fail
  go_ret
  exact ⟨rfl, hpB.out⟩

set_option maxRecDepth 100000 in
set_option maxHeartbeats 2000000 in
theorem bad2 {w : World} {L : Nat → Lab} {G : Nat} {p : Bra.Proc} (hp : ProcAt w L G p) {A : Option Addr} {n c : Nat} {bs : List UInt8} (hr : Rd w (fun i => L i = .no) A n c bs) (_hf : Fits bs) (kd src o k : Int) (h2 : ¬ (0 ≤ src ∧ src < p.n)) :
    Calls Try.prog 15 #[.pointer (some ⟨G, 0, none⟩), .agg #[.int .i64 kd, .int .i64 src, .int .i64 p.self, .int .i64 o, .int .i64 k, .slice A n c]] w fun e w' =>
      e = .returned (.slice none 0 0) ∧ Below w.heap.size w w' := by
  have hsrc : (decide (0 ≤ src) && decide (src < (p.n : Int))) = false := by simp; omega
  obtain ⟨M, Ad, nd, cd, lm, vs, hin⟩ := hp.in_
  have gc0 : w.cell? ⟨G, 0, none⟩ = some (.int .i64 p.n) := (hin.blk.cell 0).trans rfl
  have gc1 : w.cell? ⟨G, 1, none⟩ = some (.int .i64 p.self) := (hin.blk.cell 1).trans rfl
  have hGl := Lib.hid hp.lt
  have hp' := Lib.hid hp
  have hR := Lib.hid hr
  clear hin hp hr
  go_enter Try.func15, Try.ntmps15
  go_wp2_with fail
  obtain ⟨w1, hw1⟩ : ∃ w1, w.alloc (.cells #[.int .i64 kd, .int .i64 src, .int .i64 p.self, .int .i64 o, .int .i64 k, .slice A n c] 35) = w1 := ⟨_, rfl⟩
  have hXb : Blk w1 w.heap.size 35 #[.int .i64 kd, .int .i64 src, .int .i64 p.self, .int .i64 o, .int .i64 k, .slice A n c] := by rw [← hw1]; exact Blk.new' rfl
  have hb1 : Below w.heap.size w w1 := by rw [← hw1]; exact (Below.refl _ _).alloc (Nat.le_refl _) _
  rw [hw1]
  have hpB : Hid (Below w.heap.size w w1.drew) := hb1.trans ((ab_drew w1).mono hb1.size)
  have hX2 : Hid (Blk w1.drew w.heap.size 35 #[.int .i64 kd, .int .i64 src, .int .i64 p.self, .int .i64 o, .int .i64 k, .slice A n c]) := hXb
  have x0 : ∀ w', Ab w1.drew w' → w'.cell? ⟨w.heap.size, 0, none⟩ = some (.int .i64 kd) := fun w' h => (Below.cell h (p := ⟨w.heap.size, 0, none⟩) hXb.lt).trans ((hXb.cell 0).trans rfl)
  have x1 : ∀ w', Ab w1.drew w' → w'.cell? ⟨w.heap.size, 1, none⟩ = some (.int .i64 src) := fun w' h => (Below.cell h (p := ⟨w.heap.size, 1, none⟩) hXb.lt).trans ((hXb.cell 1).trans rfl)
  have x2 : ∀ w', Ab w1.drew w' → w'.cell? ⟨w.heap.size, 2, none⟩ = some (.int .i64 p.self) := fun w' h => (Below.cell h (p := ⟨w.heap.size, 2, none⟩) hXb.lt).trans ((hXb.cell 2).trans rfl)
  have x3 : ∀ w', Ab w1.drew w' → w'.cell? ⟨w.heap.size, 3, none⟩ = some (.int .i64 o) := fun w' h => (Below.cell h (p := ⟨w.heap.size, 3, none⟩) hXb.lt).trans ((hXb.cell 3).trans rfl)
  have x4 : ∀ w', Ab w1.drew w' → w'.cell? ⟨w.heap.size, 4, none⟩ = some (.int .i64 k) := fun w' h => (Below.cell h (p := ⟨w.heap.size, 4, none⟩) hXb.lt).trans ((hXb.cell 4).trans rfl)
  have hGw1 : G < w1.heap.size := Nat.lt_of_lt_of_le hGl.out hb1.size
  have g1 : ∀ w', Ab w1.drew w' → w'.cell? ⟨G, 1, none⟩ = some (.int .i64 p.self) := fun w' h => ((Below.cell h (p := ⟨G, 1, none⟩) hGw1).trans (hb1.cell (p := ⟨G, 1, none⟩) hGl.out)).trans gc1
  have g0 : w1.drew.cell? ⟨G, 0, none⟩ = some (.int .i64 p.n) := (hb1.cell (p := ⟨G, 0, none⟩) hGl.out).trans gc0
  clear hXb hb1 hw1 gc0 gc1 hGw1
  refine wp_region_plan Ab Ab.refl Ab.trans [([0, 1, 2, 3, 4, 5, 6, 7, 8, 9, 10], 11), ([12], 13), ([14, 15, 16, 17], 18), ([19], 20), ([21, 22, 23, 24], 25), ([26, 27, 28, 29], 30), ([31, 32, 33, 34], 35), ([36, 37, 38, 39, 40, 41, 42, 43, 44, 45], 46), ([], 47)] [] (by kernel_rfl) (by kernel_rfl) (fun _ _ _ _ _ h => h) ?_
  simp only [wpPlan, ordPick, Option.toList_some, List.cons_append, List.nil_append, List.getElem?_cons_succ, List.getElem?_cons_zero]
  generalize w1.drew = w2 at x0 x1 x2 x3 x4 g1 g0 hpB hX2 ⊢
  iterate 1 (go_big_quiet_step (exact fun _ => rfl))
  refine wpq_load_one rfl 3 (.tmp 11) rfl ⟨w.heap.size, 2, none⟩ rfl _ x2 _ Try.underlying3 rfl ?_
  simp only [Act.put, List.setIfInBounds_toArray, List.set_cons_succ, List.set_cons_zero]
  iterate 3 (go_big_quiet_step (exact fun _ => rfl))
  refine wpq_load_one rfl 3 (.tmp 15) rfl ⟨G, 1, none⟩ rfl _ g1 _ Try.underlying3 rfl ?_
  simp only [Act.put, List.setIfInBounds_toArray, List.set_cons_succ, List.set_cons_zero]
  iterate 2 (go_big_quiet_step (exact fun _ => rfl))
  iterate 2 (go_big_quiet_step (exact fun _ => rfl))
  refine wpq_load_w rfl 3 (.tmp 20) rfl ⟨w.heap.size, 1, none⟩ rfl _ x1 _ Try.underlying3 rfl ?_
  simp only [Act.put, List.setIfInBounds_toArray, List.set_cons_succ, List.set_cons_zero]
  refine wpQuiet_nil ?_
  go_wp2_with fail
  refine (is_any _ g0 _).mono ?_
  rw [hsrc]
  rintro e w3 ⟨rfl, rfl⟩
  go_wp2_with fail
  refine And.intro (Ab.refl _) ?_
  dsimp only
  iterate 1 (go_big_quiet_step (exact fun _ => rfl))
  refine wpQuiet_nil ?_
  go_wp2_with fail
  refine And.intro (Ab.refl _) ?_
  dsimp only
  iterate 1 (go_big_quiet_step (exact fun _ => rfl))
  iterate 3 (go_big_quiet_step (exact fun _ => rfl))
  refine wpQuiet_nil ?_
  go_wp2_with fail
  refine And.intro (Ab.refl _) ?_
  dsimp only
  iterate 1 (go_big_quiet_step (exact fun _ => rfl))
  refine wpQuiet_nil ?_
  go_wp2_with fail
  refine And.intro (Ab.refl _) ?_
  dsimp only
  iterate 1 (go_big_quiet_step (exact fun _ => rfl))
  iterate 3 (go_big_quiet_step (exact fun _ => rfl))
  refine wpQuiet_nil ?_
  go_wp2_with fail
  refine And.intro (Ab.refl _) ?_
  dsimp only
  iterate 1 (go_big_quiet_step (exact fun _ => rfl))
  iterate 3 (go_big_quiet_step (exact fun _ => rfl))
  refine wpQuiet_nil ?_
  go_wp2_with fail
  refine And.intro (Ab.refl _) ?_
  dsimp only
  iterate 1 (go_big_quiet_step (exact fun _ => rfl))
  iterate 3 (go_big_quiet_step (exact fun _ => rfl))
  refine wpQuiet_nil ?_
  go_wp2_with fail
  refine And.intro (Ab.refl _) ?_
  dsimp only
  iterate 10 (go_big_quiet_step (exact fun _ => rfl))
  refine wpQuiet_nil ?_
  go_wp2_with fail
  refine And.intro (Ab.refl _) (wpQuiet_nil ?_)
  go_wp2_with fail
  refine And.intro (Ab.refl _) (wpQuiet_nil ?_)
  go_wp2_with fail
  go_ret
  exact ⟨rfl, hpB.out⟩

set_option maxRecDepth 100000 in
set_option maxHeartbeats 2000000 in
theorem bad3 {w : World} {L : Nat → Lab} {G : Nat} {p : Bra.Proc} (hp : ProcAt w L G p) {A : Option Addr} {n c : Nat} {bs : List UInt8} (hr : Rd w (fun i => L i = .no) A n c bs) (_hf : Fits bs) (kd src o k : Int) (h2 : 0 ≤ src ∧ src < p.n) (h3 : ¬ (0 ≤ o ∧ o < p.n)) :
    Calls Try.prog 15 #[.pointer (some ⟨G, 0, none⟩), .agg #[.int .i64 kd, .int .i64 src, .int .i64 p.self, .int .i64 o, .int .i64 k, .slice A n c]] w fun e w' =>
      e = .returned (.slice none 0 0) ∧ Below w.heap.size w w' := by
  have hsrc : (decide (0 ≤ src) && decide (src < (p.n : Int))) = true := by simp; omega
  have horg : (decide (0 ≤ o) && decide (o < (p.n : Int))) = false := by simp; omega
  obtain ⟨M, Ad, nd, cd, lm, vs, hin⟩ := hp.in_
  have gc0 : w.cell? ⟨G, 0, none⟩ = some (.int .i64 p.n) := (hin.blk.cell 0).trans rfl
  have gc1 : w.cell? ⟨G, 1, none⟩ = some (.int .i64 p.self) := (hin.blk.cell 1).trans rfl
  have hGl := Lib.hid hp.lt
  have hp' := Lib.hid hp
  have hR := Lib.hid hr
  clear hin hp hr
  go_enter Try.func15, Try.ntmps15
  go_wp2_with fail
  obtain ⟨w1, hw1⟩ : ∃ w1, w.alloc (.cells #[.int .i64 kd, .int .i64 src, .int .i64 p.self, .int .i64 o, .int .i64 k, .slice A n c] 35) = w1 := ⟨_, rfl⟩
  have hXb : Blk w1 w.heap.size 35 #[.int .i64 kd, .int .i64 src, .int .i64 p.self, .int .i64 o, .int .i64 k, .slice A n c] := by rw [← hw1]; exact Blk.new' rfl
  have hb1 : Below w.heap.size w w1 := by rw [← hw1]; exact (Below.refl _ _).alloc (Nat.le_refl _) _
  rw [hw1]
  have hpB : Hid (Below w.heap.size w w1.drew) := hb1.trans ((ab_drew w1).mono hb1.size)
  have hX2 : Hid (Blk w1.drew w.heap.size 35 #[.int .i64 kd, .int .i64 src, .int .i64 p.self, .int .i64 o, .int .i64 k, .slice A n c]) := hXb
  have x0 : ∀ w', Ab w1.drew w' → w'.cell? ⟨w.heap.size, 0, none⟩ = some (.int .i64 kd) := fun w' h => (Below.cell h (p := ⟨w.heap.size, 0, none⟩) hXb.lt).trans ((hXb.cell 0).trans rfl)
  have x1 : ∀ w', Ab w1.drew w' → w'.cell? ⟨w.heap.size, 1, none⟩ = some (.int .i64 src) := fun w' h => (Below.cell h (p := ⟨w.heap.size, 1, none⟩) hXb.lt).trans ((hXb.cell 1).trans rfl)
  have x2 : ∀ w', Ab w1.drew w' → w'.cell? ⟨w.heap.size, 2, none⟩ = some (.int .i64 p.self) := fun w' h => (Below.cell h (p := ⟨w.heap.size, 2, none⟩) hXb.lt).trans ((hXb.cell 2).trans rfl)
  have x3 : ∀ w', Ab w1.drew w' → w'.cell? ⟨w.heap.size, 3, none⟩ = some (.int .i64 o) := fun w' h => (Below.cell h (p := ⟨w.heap.size, 3, none⟩) hXb.lt).trans ((hXb.cell 3).trans rfl)
  have x4 : ∀ w', Ab w1.drew w' → w'.cell? ⟨w.heap.size, 4, none⟩ = some (.int .i64 k) := fun w' h => (Below.cell h (p := ⟨w.heap.size, 4, none⟩) hXb.lt).trans ((hXb.cell 4).trans rfl)
  have hGw1 : G < w1.heap.size := Nat.lt_of_lt_of_le hGl.out hb1.size
  have g1 : ∀ w', Ab w1.drew w' → w'.cell? ⟨G, 1, none⟩ = some (.int .i64 p.self) := fun w' h => ((Below.cell h (p := ⟨G, 1, none⟩) hGw1).trans (hb1.cell (p := ⟨G, 1, none⟩) hGl.out)).trans gc1
  have g0 : w1.drew.cell? ⟨G, 0, none⟩ = some (.int .i64 p.n) := (hb1.cell (p := ⟨G, 0, none⟩) hGl.out).trans gc0
  clear hXb hb1 hw1 gc0 gc1 hGw1
  refine wp_region_plan Ab Ab.refl Ab.trans [([0, 1, 2, 3, 4, 5, 6, 7, 8, 9, 10], 11), ([12], 13), ([14, 15, 16, 17], 18), ([19], 20), ([21, 22, 23, 24], 25), ([26, 27, 28, 29], 30), ([31, 32, 33, 34], 35), ([36, 37, 38, 39, 40, 41, 42, 43, 44, 45], 46), ([], 47)] [] (by kernel_rfl) (by kernel_rfl) (fun _ _ _ _ _ h => h) ?_
  simp only [wpPlan, ordPick, Option.toList_some, List.cons_append, List.nil_append, List.getElem?_cons_succ, List.getElem?_cons_zero]
  generalize w1.drew = w2 at x0 x1 x2 x3 x4 g1 g0 hpB hX2 ⊢
  iterate 1 (go_big_quiet_step (exact fun _ => rfl))
  refine wpq_load_one rfl 3 (.tmp 11) rfl ⟨w.heap.size, 2, none⟩ rfl _ x2 _ Try.underlying3 rfl ?_
  simp only [Act.put, List.setIfInBounds_toArray, List.set_cons_succ, List.set_cons_zero]
  iterate 3 (go_big_quiet_step (exact fun _ => rfl))
  refine wpq_load_one rfl 3 (.tmp 15) rfl ⟨G, 1, none⟩ rfl _ g1 _ Try.underlying3 rfl ?_
  simp only [Act.put, List.setIfInBounds_toArray, List.set_cons_succ, List.set_cons_zero]
  iterate 2 (go_big_quiet_step (exact fun _ => rfl))
  iterate 2 (go_big_quiet_step (exact fun _ => rfl))
  refine wpq_load_w rfl 3 (.tmp 20) rfl ⟨w.heap.size, 1, none⟩ rfl _ x1 _ Try.underlying3 rfl ?_
  simp only [Act.put, List.setIfInBounds_toArray, List.set_cons_succ, List.set_cons_zero]
  refine wpQuiet_nil ?_
  go_wp2_with fail
  refine (is_any _ g0 _).mono ?_
  rw [hsrc]
  rintro e w3 ⟨rfl, rfl⟩
  go_wp2_with fail
  refine And.intro (Ab.refl _) ?_
  dsimp only
  iterate 1 (go_big_quiet_step (exact fun _ => rfl))
  refine wpQuiet_nil ?_
  go_wp2_with fail
  refine And.intro (Ab.refl _) ?_
  dsimp only
  iterate 1 (go_big_quiet_step (exact fun _ => rfl))
  iterate 2 (go_big_quiet_step (exact fun _ => rfl))
  refine wpq_load_w rfl 3 (.tmp 27) rfl ⟨w.heap.size, 3, none⟩ rfl _ x3 _ Try.underlying3 rfl ?_
  simp only [Act.put, List.setIfInBounds_toArray, List.set_cons_succ, List.set_cons_zero]
  refine wpQuiet_nil ?_
  go_wp2_with fail
  refine (is_any _ g0 _).mono ?_
  rw [horg]
  rintro e w3 ⟨rfl, rfl⟩
  go_wp2_with fail
  refine And.intro (Ab.refl _) ?_
  dsimp only
  iterate 1 (go_big_quiet_step (exact fun _ => rfl))
  refine wpQuiet_nil ?_
  go_wp2_with fail
  refine And.intro (Ab.refl _) ?_
  dsimp only
  iterate 1 (go_big_quiet_step (exact fun _ => rfl))
  iterate 3 (go_big_quiet_step (exact fun _ => rfl))
  refine wpQuiet_nil ?_
  go_wp2_with fail
  refine And.intro (Ab.refl _) ?_
  dsimp only
  iterate 1 (go_big_quiet_step (exact fun _ => rfl))
  iterate 3 (go_big_quiet_step (exact fun _ => rfl))
  refine wpQuiet_nil ?_
  go_wp2_with fail
  refine And.intro (Ab.refl _) ?_
  dsimp only
  iterate 1 (go_big_quiet_step (exact fun _ => rfl))
  iterate 3 (go_big_quiet_step (exact fun _ => rfl))
  refine wpQuiet_nil ?_
  go_wp2_with fail
  refine And.intro (Ab.refl _) ?_
  dsimp only
  iterate 10 (go_big_quiet_step (exact fun _ => rfl))
  refine wpQuiet_nil ?_
  go_wp2_with fail
  refine And.intro (Ab.refl _) (wpQuiet_nil ?_)
  go_wp2_with fail
  refine And.intro (Ab.refl _) (wpQuiet_nil ?_)
  go_wp2_with fail
  go_ret
  exact ⟨rfl, hpB.out⟩

set_option maxRecDepth 100000 in
set_option maxHeartbeats 2000000 in
theorem bad4 {w : World} {L : Nat → Lab} {G : Nat} {p : Bra.Proc} (hp : ProcAt w L G p) {A : Option Addr} {n c : Nat} {bs : List UInt8} (hr : Rd w (fun i => L i = .no) A n c bs) (_hf : Fits bs) (kd src o k : Int) (h2 : 0 ≤ src ∧ src < p.n) (h3 : 0 ≤ o ∧ o < p.n) (h4 : k < 1) :
    Calls Try.prog 15 #[.pointer (some ⟨G, 0, none⟩), .agg #[.int .i64 kd, .int .i64 src, .int .i64 p.self, .int .i64 o, .int .i64 k, .slice A n c]] w fun e w' =>
      e = .returned (.slice none 0 0) ∧ Below w.heap.size w w' := by
  have hsrc : (decide (0 ≤ src) && decide (src < (p.n : Int))) = true := by simp; omega
  have horg : (decide (0 ≤ o) && decide (o < (p.n : Int))) = true := by simp; omega
  have d4 : decide (k < 1) = true := decide_eq_true h4
  obtain ⟨M, Ad, nd, cd, lm, vs, hin⟩ := hp.in_
  have gc0 : w.cell? ⟨G, 0, none⟩ = some (.int .i64 p.n) := (hin.blk.cell 0).trans rfl
  have gc1 : w.cell? ⟨G, 1, none⟩ = some (.int .i64 p.self) := (hin.blk.cell 1).trans rfl
  have hGl := Lib.hid hp.lt
  have hp' := Lib.hid hp
  have hR := Lib.hid hr
  clear hin hp hr
  go_enter Try.func15, Try.ntmps15
  go_wp2_with fail
  obtain ⟨w1, hw1⟩ : ∃ w1, w.alloc (.cells #[.int .i64 kd, .int .i64 src, .int .i64 p.self, .int .i64 o, .int .i64 k, .slice A n c] 35) = w1 := ⟨_, rfl⟩
  have hXb : Blk w1 w.heap.size 35 #[.int .i64 kd, .int .i64 src, .int .i64 p.self, .int .i64 o, .int .i64 k, .slice A n c] := by rw [← hw1]; exact Blk.new' rfl
  have hb1 : Below w.heap.size w w1 := by rw [← hw1]; exact (Below.refl _ _).alloc (Nat.le_refl _) _
  rw [hw1]
  have hpB : Hid (Below w.heap.size w w1.drew) := hb1.trans ((ab_drew w1).mono hb1.size)
  have hX2 : Hid (Blk w1.drew w.heap.size 35 #[.int .i64 kd, .int .i64 src, .int .i64 p.self, .int .i64 o, .int .i64 k, .slice A n c]) := hXb
  have x0 : ∀ w', Ab w1.drew w' → w'.cell? ⟨w.heap.size, 0, none⟩ = some (.int .i64 kd) := fun w' h => (Below.cell h (p := ⟨w.heap.size, 0, none⟩) hXb.lt).trans ((hXb.cell 0).trans rfl)
  have x1 : ∀ w', Ab w1.drew w' → w'.cell? ⟨w.heap.size, 1, none⟩ = some (.int .i64 src) := fun w' h => (Below.cell h (p := ⟨w.heap.size, 1, none⟩) hXb.lt).trans ((hXb.cell 1).trans rfl)
  have x2 : ∀ w', Ab w1.drew w' → w'.cell? ⟨w.heap.size, 2, none⟩ = some (.int .i64 p.self) := fun w' h => (Below.cell h (p := ⟨w.heap.size, 2, none⟩) hXb.lt).trans ((hXb.cell 2).trans rfl)
  have x3 : ∀ w', Ab w1.drew w' → w'.cell? ⟨w.heap.size, 3, none⟩ = some (.int .i64 o) := fun w' h => (Below.cell h (p := ⟨w.heap.size, 3, none⟩) hXb.lt).trans ((hXb.cell 3).trans rfl)
  have x4 : ∀ w', Ab w1.drew w' → w'.cell? ⟨w.heap.size, 4, none⟩ = some (.int .i64 k) := fun w' h => (Below.cell h (p := ⟨w.heap.size, 4, none⟩) hXb.lt).trans ((hXb.cell 4).trans rfl)
  have hGw1 : G < w1.heap.size := Nat.lt_of_lt_of_le hGl.out hb1.size
  have g1 : ∀ w', Ab w1.drew w' → w'.cell? ⟨G, 1, none⟩ = some (.int .i64 p.self) := fun w' h => ((Below.cell h (p := ⟨G, 1, none⟩) hGw1).trans (hb1.cell (p := ⟨G, 1, none⟩) hGl.out)).trans gc1
  have g0 : w1.drew.cell? ⟨G, 0, none⟩ = some (.int .i64 p.n) := (hb1.cell (p := ⟨G, 0, none⟩) hGl.out).trans gc0
  clear hXb hb1 hw1 gc0 gc1 hGw1
  refine wp_region_plan Ab Ab.refl Ab.trans [([0, 1, 2, 3, 4, 5, 6, 7, 8, 9, 10], 11), ([12], 13), ([14, 15, 16, 17], 18), ([19], 20), ([21, 22, 23, 24], 25), ([26, 27, 28, 29], 30), ([31, 32, 33, 34], 35), ([36, 37, 38, 39, 40, 41, 42, 43, 44, 45], 46), ([], 47)] [] (by kernel_rfl) (by kernel_rfl) (fun _ _ _ _ _ h => h) ?_
  simp only [wpPlan, ordPick, Option.toList_some, List.cons_append, List.nil_append, List.getElem?_cons_succ, List.getElem?_cons_zero]
  generalize w1.drew = w2 at x0 x1 x2 x3 x4 g1 g0 hpB hX2 ⊢
  iterate 1 (go_big_quiet_step (exact fun _ => rfl))
  refine wpq_load_one rfl 3 (.tmp 11) rfl ⟨w.heap.size, 2, none⟩ rfl _ x2 _ Try.underlying3 rfl ?_
  simp only [Act.put, List.setIfInBounds_toArray, List.set_cons_succ, List.set_cons_zero]
  iterate 3 (go_big_quiet_step (exact fun _ => rfl))
  refine wpq_load_one rfl 3 (.tmp 15) rfl ⟨G, 1, none⟩ rfl _ g1 _ Try.underlying3 rfl ?_
  simp only [Act.put, List.setIfInBounds_toArray, List.set_cons_succ, List.set_cons_zero]
  iterate 2 (go_big_quiet_step (exact fun _ => rfl))
  iterate 2 (go_big_quiet_step (exact fun _ => rfl))
  refine wpq_load_w rfl 3 (.tmp 20) rfl ⟨w.heap.size, 1, none⟩ rfl _ x1 _ Try.underlying3 rfl ?_
  simp only [Act.put, List.setIfInBounds_toArray, List.set_cons_succ, List.set_cons_zero]
  refine wpQuiet_nil ?_
  go_wp2_with fail
  refine (is_any _ g0 _).mono ?_
  rw [hsrc]
  rintro e w3 ⟨rfl, rfl⟩
  go_wp2_with fail
  refine And.intro (Ab.refl _) ?_
  dsimp only
  iterate 1 (go_big_quiet_step (exact fun _ => rfl))
  refine wpQuiet_nil ?_
  go_wp2_with fail
  refine And.intro (Ab.refl _) ?_
  dsimp only
  iterate 1 (go_big_quiet_step (exact fun _ => rfl))
  iterate 2 (go_big_quiet_step (exact fun _ => rfl))
  refine wpq_load_w rfl 3 (.tmp 27) rfl ⟨w.heap.size, 3, none⟩ rfl _ x3 _ Try.underlying3 rfl ?_
  simp only [Act.put, List.setIfInBounds_toArray, List.set_cons_succ, List.set_cons_zero]
  refine wpQuiet_nil ?_
  go_wp2_with fail
  refine (is_any _ g0 _).mono ?_
  rw [horg]
  rintro e w3 ⟨rfl, rfl⟩
  go_wp2_with fail
  refine And.intro (Ab.refl _) ?_
  dsimp only
  iterate 1 (go_big_quiet_step (exact fun _ => rfl))
  refine wpQuiet_nil ?_
  go_wp2_with fail
  refine And.intro (Ab.refl _) ?_
  dsimp only
  iterate 1 (go_big_quiet_step (exact fun _ => rfl))
  iterate 1 (go_big_quiet_step (exact fun _ => rfl))
  refine wpq_load_w rfl 3 (.tmp 33) rfl ⟨w.heap.size, 4, none⟩ rfl _ x4 _ Try.underlying3 rfl ?_
  simp only [Act.put, List.setIfInBounds_toArray, List.set_cons_succ, List.set_cons_zero]
  iterate 1 (go_big_quiet_step (exact fun _ => rfl))
  refine wpQuiet_nil ?_
  go_wp2_with fail
  refine And.intro (Ab.refl _) ?_
  dsimp only
  iterate 1 (go_big_quiet_step (exact fun _ => rfl))
  iterate 3 (go_big_quiet_step (exact fun _ => rfl))
  refine wpQuiet_nil ?_
  go_wp2_with fail
  refine And.intro (Ab.refl _) ?_
  dsimp only
  iterate 1 (go_big_quiet_step (exact fun _ => rfl))
  iterate 3 (go_big_quiet_step (exact fun _ => rfl))
  refine wpQuiet_nil ?_
  go_wp2_with fail
  refine And.intro (Ab.refl _) ?_
  dsimp only
  iterate 10 (go_big_quiet_step (exact fun _ => rfl))
  refine wpQuiet_nil ?_
  go_wp2_with fail
  refine And.intro (Ab.refl _) (wpQuiet_nil ?_)
  go_wp2_with fail
  refine And.intro (Ab.refl _) (wpQuiet_nil ?_)
  go_wp2_with fail
  go_ret
  exact ⟨rfl, hpB.out⟩

set_option maxRecDepth 100000 in
set_option maxHeartbeats 2000000 in
theorem bad5 {w : World} {L : Nat → Lab} {G : Nat} {p : Bra.Proc} (hp : ProcAt w L G p) {A : Option Addr} {n c : Nat} {bs : List UInt8} (hr : Rd w (fun i => L i = .no) A n c bs) (_hf : Fits bs) (kd src o k : Int) (h2 : 0 ≤ src ∧ src < p.n) (h3 : 0 ≤ o ∧ o < p.n) (h4 : ¬ k < 1) (h5 : kd < 1) :
    Calls Try.prog 15 #[.pointer (some ⟨G, 0, none⟩), .agg #[.int .i64 kd, .int .i64 src, .int .i64 p.self, .int .i64 o, .int .i64 k, .slice A n c]] w fun e w' =>
      e = .returned (.slice none 0 0) ∧ Below w.heap.size w w' := by
  have hsrc : (decide (0 ≤ src) && decide (src < (p.n : Int))) = true := by simp; omega
  have horg : (decide (0 ≤ o) && decide (o < (p.n : Int))) = true := by simp; omega
  have d4 : decide (k < 1) = false := decide_eq_false h4
  have d5 : decide (kd < 1) = true := decide_eq_true h5
  obtain ⟨M, Ad, nd, cd, lm, vs, hin⟩ := hp.in_
  have gc0 : w.cell? ⟨G, 0, none⟩ = some (.int .i64 p.n) := (hin.blk.cell 0).trans rfl
  have gc1 : w.cell? ⟨G, 1, none⟩ = some (.int .i64 p.self) := (hin.blk.cell 1).trans rfl
  have hGl := Lib.hid hp.lt
  have hp' := Lib.hid hp
  have hR := Lib.hid hr
  clear hin hp hr
  go_enter Try.func15, Try.ntmps15
  go_wp2_with fail
  obtain ⟨w1, hw1⟩ : ∃ w1, w.alloc (.cells #[.int .i64 kd, .int .i64 src, .int .i64 p.self, .int .i64 o, .int .i64 k, .slice A n c] 35) = w1 := ⟨_, rfl⟩
  have hXb : Blk w1 w.heap.size 35 #[.int .i64 kd, .int .i64 src, .int .i64 p.self, .int .i64 o, .int .i64 k, .slice A n c] := by rw [← hw1]; exact Blk.new' rfl
  have hb1 : Below w.heap.size w w1 := by rw [← hw1]; exact (Below.refl _ _).alloc (Nat.le_refl _) _
  rw [hw1]
  have hpB : Hid (Below w.heap.size w w1.drew) := hb1.trans ((ab_drew w1).mono hb1.size)
  have hX2 : Hid (Blk w1.drew w.heap.size 35 #[.int .i64 kd, .int .i64 src, .int .i64 p.self, .int .i64 o, .int .i64 k, .slice A n c]) := hXb
  have x0 : ∀ w', Ab w1.drew w' → w'.cell? ⟨w.heap.size, 0, none⟩ = some (.int .i64 kd) := fun w' h => (Below.cell h (p := ⟨w.heap.size, 0, none⟩) hXb.lt).trans ((hXb.cell 0).trans rfl)
  have x1 : ∀ w', Ab w1.drew w' → w'.cell? ⟨w.heap.size, 1, none⟩ = some (.int .i64 src) := fun w' h => (Below.cell h (p := ⟨w.heap.size, 1, none⟩) hXb.lt).trans ((hXb.cell 1).trans rfl)
  have x2 : ∀ w', Ab w1.drew w' → w'.cell? ⟨w.heap.size, 2, none⟩ = some (.int .i64 p.self) := fun w' h => (Below.cell h (p := ⟨w.heap.size, 2, none⟩) hXb.lt).trans ((hXb.cell 2).trans rfl)
  have x3 : ∀ w', Ab w1.drew w' → w'.cell? ⟨w.heap.size, 3, none⟩ = some (.int .i64 o) := fun w' h => (Below.cell h (p := ⟨w.heap.size, 3, none⟩) hXb.lt).trans ((hXb.cell 3).trans rfl)
  have x4 : ∀ w', Ab w1.drew w' → w'.cell? ⟨w.heap.size, 4, none⟩ = some (.int .i64 k) := fun w' h => (Below.cell h (p := ⟨w.heap.size, 4, none⟩) hXb.lt).trans ((hXb.cell 4).trans rfl)
  have hGw1 : G < w1.heap.size := Nat.lt_of_lt_of_le hGl.out hb1.size
  have g1 : ∀ w', Ab w1.drew w' → w'.cell? ⟨G, 1, none⟩ = some (.int .i64 p.self) := fun w' h => ((Below.cell h (p := ⟨G, 1, none⟩) hGw1).trans (hb1.cell (p := ⟨G, 1, none⟩) hGl.out)).trans gc1
  have g0 : w1.drew.cell? ⟨G, 0, none⟩ = some (.int .i64 p.n) := (hb1.cell (p := ⟨G, 0, none⟩) hGl.out).trans gc0
  clear hXb hb1 hw1 gc0 gc1 hGw1
  refine wp_region_plan Ab Ab.refl Ab.trans [([0, 1, 2, 3, 4, 5, 6, 7, 8, 9, 10], 11), ([12], 13), ([14, 15, 16, 17], 18), ([19], 20), ([21, 22, 23, 24], 25), ([26, 27, 28, 29], 30), ([31, 32, 33, 34], 35), ([36, 37, 38, 39, 40, 41, 42, 43, 44, 45], 46), ([], 47)] [] (by kernel_rfl) (by kernel_rfl) (fun _ _ _ _ _ h => h) ?_
  simp only [wpPlan, ordPick, Option.toList_some, List.cons_append, List.nil_append, List.getElem?_cons_succ, List.getElem?_cons_zero]
  generalize w1.drew = w2 at x0 x1 x2 x3 x4 g1 g0 hpB hX2 ⊢
  iterate 1 (go_big_quiet_step (exact fun _ => rfl))
  refine wpq_load_one rfl 3 (.tmp 11) rfl ⟨w.heap.size, 2, none⟩ rfl _ x2 _ Try.underlying3 rfl ?_
  simp only [Act.put, List.setIfInBounds_toArray, List.set_cons_succ, List.set_cons_zero]
  iterate 3 (go_big_quiet_step (exact fun _ => rfl))
  refine wpq_load_one rfl 3 (.tmp 15) rfl ⟨G, 1, none⟩ rfl _ g1 _ Try.underlying3 rfl ?_
  simp only [Act.put, List.setIfInBounds_toArray, List.set_cons_succ, List.set_cons_zero]
  iterate 2 (go_big_quiet_step (exact fun _ => rfl))
  iterate 2 (go_big_quiet_step (exact fun _ => rfl))
  refine wpq_load_w rfl 3 (.tmp 20) rfl ⟨w.heap.size, 1, none⟩ rfl _ x1 _ Try.underlying3 rfl ?_
  simp only [Act.put, List.setIfInBounds_toArray, List.set_cons_succ, List.set_cons_zero]
  refine wpQuiet_nil ?_
  go_wp2_with fail
  refine (is_any _ g0 _).mono ?_
  rw [hsrc]
  rintro e w3 ⟨rfl, rfl⟩
  go_wp2_with fail
  refine And.intro (Ab.refl _) ?_
  dsimp only
  iterate 1 (go_big_quiet_step (exact fun _ => rfl))
  refine wpQuiet_nil ?_
  go_wp2_with fail
  refine And.intro (Ab.refl _) ?_
  dsimp only
  iterate 1 (go_big_quiet_step (exact fun _ => rfl))
  iterate 2 (go_big_quiet_step (exact fun _ => rfl))
  refine wpq_load_w rfl 3 (.tmp 27) rfl ⟨w.heap.size, 3, none⟩ rfl _ x3 _ Try.underlying3 rfl ?_
  simp only [Act.put, List.setIfInBounds_toArray, List.set_cons_succ, List.set_cons_zero]
  refine wpQuiet_nil ?_
  go_wp2_with fail
  refine (is_any _ g0 _).mono ?_
  rw [horg]
  rintro e w3 ⟨rfl, rfl⟩
  go_wp2_with fail
  refine And.intro (Ab.refl _) ?_
  dsimp only
  iterate 1 (go_big_quiet_step (exact fun _ => rfl))
  refine wpQuiet_nil ?_
  go_wp2_with fail
  refine And.intro (Ab.refl _) ?_
  dsimp only
  iterate 1 (go_big_quiet_step (exact fun _ => rfl))
  iterate 1 (go_big_quiet_step (exact fun _ => rfl))
  refine wpq_load_w rfl 3 (.tmp 33) rfl ⟨w.heap.size, 4, none⟩ rfl _ x4 _ Try.underlying3 rfl ?_
  simp only [Act.put, List.setIfInBounds_toArray, List.set_cons_succ, List.set_cons_zero]
  iterate 1 (go_big_quiet_step (exact fun _ => rfl))
  refine wpQuiet_nil ?_
  go_wp2_with fail
  refine And.intro (Ab.refl _) ?_
  dsimp only
  iterate 1 (go_big_quiet_step (exact fun _ => rfl))
  iterate 1 (go_big_quiet_step (exact fun _ => rfl))
  refine wpq_load_w rfl 3 (.tmp 38) rfl ⟨w.heap.size, 0, none⟩ rfl _ x0 _ Try.underlying3 rfl ?_
  simp only [Act.put, List.setIfInBounds_toArray, List.set_cons_succ, List.set_cons_zero]
  iterate 1 (go_big_quiet_step (exact fun _ => rfl))
  refine wpQuiet_nil ?_
  go_wp2_with fail
  refine And.intro (Ab.refl _) ?_
  dsimp only
  iterate 1 (go_big_quiet_step (exact fun _ => rfl))
  iterate 3 (go_big_quiet_step (exact fun _ => rfl))
  refine wpQuiet_nil ?_
  go_wp2_with fail
  refine And.intro (Ab.refl _) ?_
  dsimp only
  iterate 10 (go_big_quiet_step (exact fun _ => rfl))
  refine wpQuiet_nil ?_
  go_wp2_with fail
  refine And.intro (Ab.refl _) (wpQuiet_nil ?_)
  go_wp2_with fail
  refine And.intro (Ab.refl _) (wpQuiet_nil ?_)
  go_wp2_with fail
  go_ret
  exact ⟨rfl, hpB.out⟩

set_option maxRecDepth 100000 in
set_option maxHeartbeats 2000000 in
theorem bad6 {w : World} {L : Nat → Lab} {G : Nat} {p : Bra.Proc} (hp : ProcAt w L G p) {A : Option Addr} {n c : Nat} {bs : List UInt8} (hr : Rd w (fun i => L i = .no) A n c bs) (_hf : Fits bs) (kd src o k : Int) (h2 : 0 ≤ src ∧ src < p.n) (h3 : 0 ≤ o ∧ o < p.n) (h4 : ¬ k < 1) (h5 : ¬ kd < 1) (h6 : 3 < kd) :
    Calls Try.prog 15 #[.pointer (some ⟨G, 0, none⟩), .agg #[.int .i64 kd, .int .i64 src, .int .i64 p.self, .int .i64 o, .int .i64 k, .slice A n c]] w fun e w' =>
      e = .returned (.slice none 0 0) ∧ Below w.heap.size w w' := by
  have hsrc : (decide (0 ≤ src) && decide (src < (p.n : Int))) = true := by simp; omega
  have horg : (decide (0 ≤ o) && decide (o < (p.n : Int))) = true := by simp; omega
  have d4 : decide (k < 1) = false := decide_eq_false h4
  have d5 : decide (kd < 1) = false := decide_eq_false h5
  have d6 : decide (3 < kd) = true := decide_eq_true h6
  obtain ⟨M, Ad, nd, cd, lm, vs, hin⟩ := hp.in_
  have gc0 : w.cell? ⟨G, 0, none⟩ = some (.int .i64 p.n) := (hin.blk.cell 0).trans rfl
  have gc1 : w.cell? ⟨G, 1, none⟩ = some (.int .i64 p.self) := (hin.blk.cell 1).trans rfl
  have hGl := Lib.hid hp.lt
  have hp' := Lib.hid hp
  have hR := Lib.hid hr
  clear hin hp hr
  go_enter Try.func15, Try.ntmps15
  go_wp2_with fail
  obtain ⟨w1, hw1⟩ : ∃ w1, w.alloc (.cells #[.int .i64 kd, .int .i64 src, .int .i64 p.self, .int .i64 o, .int .i64 k, .slice A n c] 35) = w1 := ⟨_, rfl⟩
  have hXb : Blk w1 w.heap.size 35 #[.int .i64 kd, .int .i64 src, .int .i64 p.self, .int .i64 o, .int .i64 k, .slice A n c] := by rw [← hw1]; exact Blk.new' rfl
  have hb1 : Below w.heap.size w w1 := by rw [← hw1]; exact (Below.refl _ _).alloc (Nat.le_refl _) _
  rw [hw1]
  have hpB : Hid (Below w.heap.size w w1.drew) := hb1.trans ((ab_drew w1).mono hb1.size)
  have hX2 : Hid (Blk w1.drew w.heap.size 35 #[.int .i64 kd, .int .i64 src, .int .i64 p.self, .int .i64 o, .int .i64 k, .slice A n c]) := hXb
  have x0 : ∀ w', Ab w1.drew w' → w'.cell? ⟨w.heap.size, 0, none⟩ = some (.int .i64 kd) := fun w' h => (Below.cell h (p := ⟨w.heap.size, 0, none⟩) hXb.lt).trans ((hXb.cell 0).trans rfl)
  have x1 : ∀ w', Ab w1.drew w' → w'.cell? ⟨w.heap.size, 1, none⟩ = some (.int .i64 src) := fun w' h => (Below.cell h (p := ⟨w.heap.size, 1, none⟩) hXb.lt).trans ((hXb.cell 1).trans rfl)
  have x2 : ∀ w', Ab w1.drew w' → w'.cell? ⟨w.heap.size, 2, none⟩ = some (.int .i64 p.self) := fun w' h => (Below.cell h (p := ⟨w.heap.size, 2, none⟩) hXb.lt).trans ((hXb.cell 2).trans rfl)
  have x3 : ∀ w', Ab w1.drew w' → w'.cell? ⟨w.heap.size, 3, none⟩ = some (.int .i64 o) := fun w' h => (Below.cell h (p := ⟨w.heap.size, 3, none⟩) hXb.lt).trans ((hXb.cell 3).trans rfl)
  have x4 : ∀ w', Ab w1.drew w' → w'.cell? ⟨w.heap.size, 4, none⟩ = some (.int .i64 k) := fun w' h => (Below.cell h (p := ⟨w.heap.size, 4, none⟩) hXb.lt).trans ((hXb.cell 4).trans rfl)
  have hGw1 : G < w1.heap.size := Nat.lt_of_lt_of_le hGl.out hb1.size
  have g1 : ∀ w', Ab w1.drew w' → w'.cell? ⟨G, 1, none⟩ = some (.int .i64 p.self) := fun w' h => ((Below.cell h (p := ⟨G, 1, none⟩) hGw1).trans (hb1.cell (p := ⟨G, 1, none⟩) hGl.out)).trans gc1
  have g0 : w1.drew.cell? ⟨G, 0, none⟩ = some (.int .i64 p.n) := (hb1.cell (p := ⟨G, 0, none⟩) hGl.out).trans gc0
  clear hXb hb1 hw1 gc0 gc1 hGw1
  refine wp_region_plan Ab Ab.refl Ab.trans [([0, 1, 2, 3, 4, 5, 6, 7, 8, 9, 10], 11), ([12], 13), ([14, 15, 16, 17], 18), ([19], 20), ([21, 22, 23, 24], 25), ([26, 27, 28, 29], 30), ([31, 32, 33, 34], 35), ([36, 37, 38, 39, 40, 41, 42, 43, 44, 45], 46), ([], 47)] [] (by kernel_rfl) (by kernel_rfl) (fun _ _ _ _ _ h => h) ?_
  simp only [wpPlan, ordPick, Option.toList_some, List.cons_append, List.nil_append, List.getElem?_cons_succ, List.getElem?_cons_zero]
  generalize w1.drew = w2 at x0 x1 x2 x3 x4 g1 g0 hpB hX2 ⊢
  iterate 1 (go_big_quiet_step (exact fun _ => rfl))
  refine wpq_load_one rfl 3 (.tmp 11) rfl ⟨w.heap.size, 2, none⟩ rfl _ x2 _ Try.underlying3 rfl ?_
  simp only [Act.put, List.setIfInBounds_toArray, List.set_cons_succ, List.set_cons_zero]
  iterate 3 (go_big_quiet_step (exact fun _ => rfl))
  refine wpq_load_one rfl 3 (.tmp 15) rfl ⟨G, 1, none⟩ rfl _ g1 _ Try.underlying3 rfl ?_
  simp only [Act.put, List.setIfInBounds_toArray, List.set_cons_succ, List.set_cons_zero]
  iterate 2 (go_big_quiet_step (exact fun _ => rfl))
  iterate 2 (go_big_quiet_step (exact fun _ => rfl))
  refine wpq_load_w rfl 3 (.tmp 20) rfl ⟨w.heap.size, 1, none⟩ rfl _ x1 _ Try.underlying3 rfl ?_
  simp only [Act.put, List.setIfInBounds_toArray, List.set_cons_succ, List.set_cons_zero]
  refine wpQuiet_nil ?_
  go_wp2_with fail
  refine (is_any _ g0 _).mono ?_
  rw [hsrc]
  rintro e w3 ⟨rfl, rfl⟩
  go_wp2_with fail
  refine And.intro (Ab.refl _) ?_
  dsimp only
  iterate 1 (go_big_quiet_step (exact fun _ => rfl))
  refine wpQuiet_nil ?_
  go_wp2_with fail
  refine And.intro (Ab.refl _) ?_
  dsimp only
  iterate 1 (go_big_quiet_step (exact fun _ => rfl))
  iterate 2 (go_big_quiet_step (exact fun _ => rfl))
  refine wpq_load_w rfl 3 (.tmp 27) rfl ⟨w.heap.size, 3, none⟩ rfl _ x3 _ Try.underlying3 rfl ?_
  simp only [Act.put, List.setIfInBounds_toArray, List.set_cons_succ, List.set_cons_zero]
  refine wpQuiet_nil ?_
  go_wp2_with fail
  refine (is_any _ g0 _).mono ?_
  rw [horg]
  rintro e w3 ⟨rfl, rfl⟩
  go_wp2_with fail
  refine And.intro (Ab.refl _) ?_
  dsimp only
  iterate 1 (go_big_quiet_step (exact fun _ => rfl))
  refine wpQuiet_nil ?_
  go_wp2_with fail
  refine And.intro (Ab.refl _) ?_
  dsimp only
  iterate 1 (go_big_quiet_step (exact fun _ => rfl))
  iterate 1 (go_big_quiet_step (exact fun _ => rfl))
  refine wpq_load_w rfl 3 (.tmp 33) rfl ⟨w.heap.size, 4, none⟩ rfl _ x4 _ Try.underlying3 rfl ?_
  simp only [Act.put, List.setIfInBounds_toArray, List.set_cons_succ, List.set_cons_zero]
  iterate 1 (go_big_quiet_step (exact fun _ => rfl))
  refine wpQuiet_nil ?_
  go_wp2_with fail
  refine And.intro (Ab.refl _) ?_
  dsimp only
  iterate 1 (go_big_quiet_step (exact fun _ => rfl))
  iterate 1 (go_big_quiet_step (exact fun _ => rfl))
  refine wpq_load_w rfl 3 (.tmp 38) rfl ⟨w.heap.size, 0, none⟩ rfl _ x0 _ Try.underlying3 rfl ?_
  simp only [Act.put, List.setIfInBounds_toArray, List.set_cons_succ, List.set_cons_zero]
  iterate 1 (go_big_quiet_step (exact fun _ => rfl))
  refine wpQuiet_nil ?_
  go_wp2_with fail
  refine And.intro (Ab.refl _) ?_
  dsimp only
  iterate 1 (go_big_quiet_step (exact fun _ => rfl))
  iterate 1 (go_big_quiet_step (exact fun _ => rfl))
  refine wpq_load_w rfl 3 (.tmp 43) rfl ⟨w.heap.size, 0, none⟩ rfl _ x0 _ Try.underlying3 rfl ?_
  simp only [Act.put, List.setIfInBounds_toArray, List.set_cons_succ, List.set_cons_zero]
  iterate 1 (go_big_quiet_step (exact fun _ => rfl))
  refine wpQuiet_nil ?_
  go_wp2_with fail
  refine And.intro (Ab.refl _) ?_
  dsimp only
  iterate 10 (go_big_quiet_step (exact fun _ => rfl))
  refine wpQuiet_nil ?_
  go_wp2_with fail
  refine And.intro (Ab.refl _) (wpQuiet_nil ?_)
  go_wp2_with fail
  refine And.intro (Ab.refl _) (wpQuiet_nil ?_)
  go_wp2_with fail
  go_ret
  exact ⟨rfl, hpB.out⟩

set_option maxRecDepth 100000 in
set_option maxHeartbeats 2000000 in
theorem bad7 {w : World} {L : Nat → Lab} {G : Nat} {p : Bra.Proc} (hp : ProcAt w L G p) {A : Option Addr} {n c : Nat} {bs : List UInt8} (hr : Rd w (fun i => L i = .no) A n c bs) (_hf : Fits bs) (src o k : Int) (h2 : 0 ≤ src ∧ src < p.n) (h3 : 0 ≤ o ∧ o < p.n) (h4 : ¬ k < 1) (h8 : ¬ src = o) :
    Calls Try.prog 15 #[.pointer (some ⟨G, 0, none⟩), .agg #[.int .i64 1, .int .i64 src, .int .i64 p.self, .int .i64 o, .int .i64 k, .slice A n c]] w fun e w' =>
      e = .returned (.slice none 0 0) ∧ Below w.heap.size w w' := by
  have hsrc : (decide (0 ≤ src) && decide (src < (p.n : Int))) = true := by simp; omega
  have horg : (decide (0 ≤ o) && decide (o < (p.n : Int))) = true := by simp; omega
  have hne8 : (src != o) = true := by simpa using h8
  have d4 : decide (k < 1) = false := decide_eq_false h4
  obtain ⟨M, Ad, nd, cd, lm, vs, hin⟩ := hp.in_
  have gc0 : w.cell? ⟨G, 0, none⟩ = some (.int .i64 p.n) := (hin.blk.cell 0).trans rfl
  have gc1 : w.cell? ⟨G, 1, none⟩ = some (.int .i64 p.self) := (hin.blk.cell 1).trans rfl
  have hGl := Lib.hid hp.lt
  have hp' := Lib.hid hp
  have hR := Lib.hid hr
  clear hin hp hr
  go_enter Try.func15, Try.ntmps15
  go_wp2_with fail
  obtain ⟨w1, hw1⟩ : ∃ w1, w.alloc (.cells #[.int .i64 1, .int .i64 src, .int .i64 p.self, .int .i64 o, .int .i64 k, .slice A n c] 35) = w1 := ⟨_, rfl⟩
  have hXb : Blk w1 w.heap.size 35 #[.int .i64 1, .int .i64 src, .int .i64 p.self, .int .i64 o, .int .i64 k, .slice A n c] := by rw [← hw1]; exact Blk.new' rfl
  have hb1 : Below w.heap.size w w1 := by rw [← hw1]; exact (Below.refl _ _).alloc (Nat.le_refl _) _
  rw [hw1]
  have hpB : Hid (Below w.heap.size w w1.drew) := hb1.trans ((ab_drew w1).mono hb1.size)
  have hX2 : Hid (Blk w1.drew w.heap.size 35 #[.int .i64 1, .int .i64 src, .int .i64 p.self, .int .i64 o, .int .i64 k, .slice A n c]) := hXb
  have x0 : ∀ w', Ab w1.drew w' → w'.cell? ⟨w.heap.size, 0, none⟩ = some (.int .i64 1) := fun w' h => (Below.cell h (p := ⟨w.heap.size, 0, none⟩) hXb.lt).trans ((hXb.cell 0).trans rfl)
  have x1 : ∀ w', Ab w1.drew w' → w'.cell? ⟨w.heap.size, 1, none⟩ = some (.int .i64 src) := fun w' h => (Below.cell h (p := ⟨w.heap.size, 1, none⟩) hXb.lt).trans ((hXb.cell 1).trans rfl)
  have x2 : ∀ w', Ab w1.drew w' → w'.cell? ⟨w.heap.size, 2, none⟩ = some (.int .i64 p.self) := fun w' h => (Below.cell h (p := ⟨w.heap.size, 2, none⟩) hXb.lt).trans ((hXb.cell 2).trans rfl)
  have x3 : ∀ w', Ab w1.drew w' → w'.cell? ⟨w.heap.size, 3, none⟩ = some (.int .i64 o) := fun w' h => (Below.cell h (p := ⟨w.heap.size, 3, none⟩) hXb.lt).trans ((hXb.cell 3).trans rfl)
  have x4 : ∀ w', Ab w1.drew w' → w'.cell? ⟨w.heap.size, 4, none⟩ = some (.int .i64 k) := fun w' h => (Below.cell h (p := ⟨w.heap.size, 4, none⟩) hXb.lt).trans ((hXb.cell 4).trans rfl)
  have hGw1 : G < w1.heap.size := Nat.lt_of_lt_of_le hGl.out hb1.size
  have g1 : ∀ w', Ab w1.drew w' → w'.cell? ⟨G, 1, none⟩ = some (.int .i64 p.self) := fun w' h => ((Below.cell h (p := ⟨G, 1, none⟩) hGw1).trans (hb1.cell (p := ⟨G, 1, none⟩) hGl.out)).trans gc1
  have g0 : w1.drew.cell? ⟨G, 0, none⟩ = some (.int .i64 p.n) := (hb1.cell (p := ⟨G, 0, none⟩) hGl.out).trans gc0
  clear hXb hb1 hw1 gc0 gc1 hGw1
  refine wp_region_plan Ab Ab.refl Ab.trans [([0, 1, 2, 3, 4, 5, 6, 7, 8, 9, 10], 11), ([12], 13), ([14, 15, 16, 17], 18), ([19], 20), ([21, 22, 23, 24], 25), ([26, 27, 28, 29], 30), ([31, 32, 33, 34], 35), ([36, 37, 38, 39, 40, 41, 42, 43, 44, 45], 46), ([], 47)] [] (by kernel_rfl) (by kernel_rfl) (fun _ _ _ _ _ h => h) ?_
  simp only [wpPlan, ordPick, Option.toList_some, List.cons_append, List.nil_append, List.getElem?_cons_succ, List.getElem?_cons_zero]
  generalize w1.drew = w2 at x0 x1 x2 x3 x4 g1 g0 hpB hX2 ⊢
  iterate 1 (go_big_quiet_step (exact fun _ => rfl))
  refine wpq_load_one rfl 3 (.tmp 11) rfl ⟨w.heap.size, 2, none⟩ rfl _ x2 _ Try.underlying3 rfl ?_
  simp only [Act.put, List.setIfInBounds_toArray, List.set_cons_succ, List.set_cons_zero]
  iterate 3 (go_big_quiet_step (exact fun _ => rfl))
  refine wpq_load_one rfl 3 (.tmp 15) rfl ⟨G, 1, none⟩ rfl _ g1 _ Try.underlying3 rfl ?_
  simp only [Act.put, List.setIfInBounds_toArray, List.set_cons_succ, List.set_cons_zero]
  iterate 2 (go_big_quiet_step (exact fun _ => rfl))
  iterate 2 (go_big_quiet_step (exact fun _ => rfl))
  refine wpq_load_w rfl 3 (.tmp 20) rfl ⟨w.heap.size, 1, none⟩ rfl _ x1 _ Try.underlying3 rfl ?_
  simp only [Act.put, List.setIfInBounds_toArray, List.set_cons_succ, List.set_cons_zero]
  refine wpQuiet_nil ?_
  go_wp2_with fail
  refine (is_any _ g0 _).mono ?_
  rw [hsrc]
  rintro e w3 ⟨rfl, rfl⟩
  go_wp2_with fail
  refine And.intro (Ab.refl _) ?_
  dsimp only
  iterate 1 (go_big_quiet_step (exact fun _ => rfl))
  refine wpQuiet_nil ?_
  go_wp2_with fail
  refine And.intro (Ab.refl _) ?_
  dsimp only
  iterate 1 (go_big_quiet_step (exact fun _ => rfl))
  iterate 2 (go_big_quiet_step (exact fun _ => rfl))
  refine wpq_load_w rfl 3 (.tmp 27) rfl ⟨w.heap.size, 3, none⟩ rfl _ x3 _ Try.underlying3 rfl ?_
  simp only [Act.put, List.setIfInBounds_toArray, List.set_cons_succ, List.set_cons_zero]
  refine wpQuiet_nil ?_
  go_wp2_with fail
  refine (is_any _ g0 _).mono ?_
  rw [horg]
  rintro e w3 ⟨rfl, rfl⟩
  go_wp2_with fail
  refine And.intro (Ab.refl _) ?_
  dsimp only
  iterate 1 (go_big_quiet_step (exact fun _ => rfl))
  refine wpQuiet_nil ?_
  go_wp2_with fail
  refine And.intro (Ab.refl _) ?_
  dsimp only
  iterate 1 (go_big_quiet_step (exact fun _ => rfl))
  iterate 1 (go_big_quiet_step (exact fun _ => rfl))
  refine wpq_load_w rfl 3 (.tmp 33) rfl ⟨w.heap.size, 4, none⟩ rfl _ x4 _ Try.underlying3 rfl ?_
  simp only [Act.put, List.setIfInBounds_toArray, List.set_cons_succ, List.set_cons_zero]
  iterate 1 (go_big_quiet_step (exact fun _ => rfl))
  refine wpQuiet_nil ?_
  go_wp2_with fail
  refine And.intro (Ab.refl _) ?_
  dsimp only
  iterate 1 (go_big_quiet_step (exact fun _ => rfl))
  iterate 1 (go_big_quiet_step (exact fun _ => rfl))
  refine wpq_load_w rfl 3 (.tmp 38) rfl ⟨w.heap.size, 0, none⟩ rfl _ x0 _ Try.underlying3 rfl ?_
  simp only [Act.put, List.setIfInBounds_toArray, List.set_cons_succ, List.set_cons_zero]
  iterate 1 (go_big_quiet_step (exact fun _ => rfl))
  refine wpQuiet_nil ?_
  go_wp2_with fail
  refine And.intro (Ab.refl _) ?_
  dsimp only
  iterate 1 (go_big_quiet_step (exact fun _ => rfl))
  iterate 1 (go_big_quiet_step (exact fun _ => rfl))
  refine wpq_load_w rfl 3 (.tmp 43) rfl ⟨w.heap.size, 0, none⟩ rfl _ x0 _ Try.underlying3 rfl ?_
  simp only [Act.put, List.setIfInBounds_toArray, List.set_cons_succ, List.set_cons_zero]
  iterate 1 (go_big_quiet_step (exact fun _ => rfl))
  refine wpQuiet_nil ?_
  go_wp2_with fail
  refine And.intro (Ab.refl _) ?_
  dsimp only
  iterate 2 (go_big_quiet_step (exact fun _ => rfl))
  refine wpq_load_w rfl 3 (.tmp 48) rfl ⟨w.heap.size, 0, none⟩ rfl _ x0 _ Try.underlying3 rfl ?_
  simp only [Act.put, List.setIfInBounds_toArray, List.set_cons_succ, List.set_cons_zero]
  iterate 2 (go_big_quiet_step (exact fun _ => rfl))
  iterate 1 (go_big_quiet_step (exact fun _ => rfl))
  refine wpq_load_w rfl 3 (.tmp 52) rfl ⟨w.heap.size, 1, none⟩ rfl _ x1 _ Try.underlying3 rfl ?_
  simp only [Act.put, List.setIfInBounds_toArray, List.set_cons_succ, List.set_cons_zero]
  iterate 1 (go_big_quiet_step (exact fun _ => rfl))
  refine wpq_load_w rfl 3 (.tmp 54) rfl ⟨w.heap.size, 3, none⟩ rfl _ x3 _ Try.underlying3 rfl ?_
  simp only [Act.put, List.setIfInBounds_toArray, List.set_cons_succ, List.set_cons_zero]
  iterate 1 (go_big_quiet_step (exact fun _ => rfl))
  refine wpQuiet_nil ?_
  go_wp2_with fail
  refine And.intro (Ab.refl _) (wpQuiet_nil ?_)
  go_wp2_with fail
  refine And.intro (Ab.refl _) (wpQuiet_nil ?_)
  go_wp2_with fail
  go_ret
  exact ⟨rfl, hpB.out⟩

end Go.Proofs.Ytplijfgjdlghbaa
