/-
  A message of kind 1 received.
-/
import Derived.Test.YtplijfgjdlghbaaBKey
namespace Go.Proofs.Ytplijfgjdlghbaa
open Go.RowKit Go.Pl
set_option maxRecDepth 100000 in
set_option maxHeartbeats 2000000 in
theorem recv1 {w : World} {L : Nat → Lab} {G : Nat} {p : Bra.Proc} (hp : ProcAt w L G p) {A : Option Addr} {n c : Nat} {bs : List UInt8} (hr : Rd w (fun i => L i = .no) A n c bs) (hf : Fits bs) (o k : Int) (h3 : 0 ≤ o ∧ o < p.n) (h4 : ¬ k < 1) (hk9 : k ≤ 9223372036854775807) :
    Calls Try.prog 15 #[.pointer (some ⟨G, 0, none⟩), .agg #[.int .i64 1, .int .i64 o, .int .i64 p.self, .int .i64 o, .int .i64 k, .slice A n c]] w fun e w' =>
      ∃ L' A' n' c', e = .returned (.slice A' n' c') ∧ ProcAt w' L' G (Bra.recv p ⟨1, o, p.self, o, k, bs⟩).1 ∧ RdP w' (fun i => w.heap.size ≤ i ∧ L' i = .no) A' n' c' (Bra.recv p ⟨1, o, p.self, o, k, bs⟩).2 ∧
        (∀ i, i < w.heap.size → L' i = L i) ∧ Fr (fun i => L i ≠ .no) w w' := by
  have d4 : decide (k < 1) = false := decide_eq_false h4
  have horg : (decide (0 ≤ o) && decide (o < (p.n : Int))) = true := by simp; omega
  obtain ⟨M, Ad, nd, cd, lm, vs, hin⟩ := hp.in_
  have gc0 : w.cell? ⟨G, 0, none⟩ = some (.int .i64 p.n) := (hin.blk.cell 0).trans rfl
  have gc1 : w.cell? ⟨G, 1, none⟩ = some (.int .i64 p.self) := (hin.blk.cell 1).trans rfl
  have hGl := Lib.hid hp.lt
  have hp' := Lib.hid hp
  have hR := Lib.hid hr
  clear hin hp hr
  go_enter Try.func15, Try.ntmps15
  go_wp2_with fail
  obtain ⟨w1, hw1⟩ : ∃ w1, w.alloc (.cells #[.int .i64 1, .int .i64 o, .int .i64 p.self, .int .i64 o, .int .i64 k, .slice A n c] 35) = w1 := ⟨_, rfl⟩
  have hXb : Blk w1 w.heap.size 35 #[.int .i64 1, .int .i64 o, .int .i64 p.self, .int .i64 o, .int .i64 k, .slice A n c] := by rw [← hw1]; exact Blk.new' rfl
  have hb1 : Below w.heap.size w w1 := by rw [← hw1]; exact (Below.refl _ _).alloc (Nat.le_refl _) _
  rw [hw1]
  have hpB : Hid (Below w.heap.size w w1.drew) := hb1.trans ((ab_drew w1).mono hb1.size)
  have hX2 : Hid (Blk w1.drew w.heap.size 35 #[.int .i64 1, .int .i64 o, .int .i64 p.self, .int .i64 o, .int .i64 k, .slice A n c]) := hXb
  have x0 : ∀ w', Ab w1.drew w' → w'.cell? ⟨w.heap.size, 0, none⟩ = some (.int .i64 1) := fun w' h => (Below.cell h (p := ⟨w.heap.size, 0, none⟩) hXb.lt).trans ((hXb.cell 0).trans rfl)
  have x1 : ∀ w', Ab w1.drew w' → w'.cell? ⟨w.heap.size, 1, none⟩ = some (.int .i64 o) := fun w' h => (Below.cell h (p := ⟨w.heap.size, 1, none⟩) hXb.lt).trans ((hXb.cell 1).trans rfl)
  have x2 : ∀ w', Ab w1.drew w' → w'.cell? ⟨w.heap.size, 2, none⟩ = some (.int .i64 p.self) := fun w' h => (Below.cell h (p := ⟨w.heap.size, 2, none⟩) hXb.lt).trans ((hXb.cell 2).trans rfl)
  have x3 : ∀ w', Ab w1.drew w' → w'.cell? ⟨w.heap.size, 3, none⟩ = some (.int .i64 o) := fun w' h => (Below.cell h (p := ⟨w.heap.size, 3, none⟩) hXb.lt).trans ((hXb.cell 3).trans rfl)
  have x4 : ∀ w', Ab w1.drew w' → w'.cell? ⟨w.heap.size, 4, none⟩ = some (.int .i64 k) := fun w' h => (Below.cell h (p := ⟨w.heap.size, 4, none⟩) hXb.lt).trans ((hXb.cell 4).trans rfl)
  have hGw1 : G < w1.heap.size := Nat.lt_of_lt_of_le hGl.out hb1.size
  have g1 : ∀ w', Ab w1.drew w' → w'.cell? ⟨G, 1, none⟩ = some (.int .i64 p.self) := fun w' h => ((Below.cell h (p := ⟨G, 1, none⟩) hGw1).trans (hb1.cell (p := ⟨G, 1, none⟩) hGl.out)).trans gc1
  have g0 : w1.drew.cell? ⟨G, 0, none⟩ = some (.int .i64 p.n) := (hb1.cell (p := ⟨G, 0, none⟩) hGl.out).trans gc0
  clear hXb hb1 hw1 gc0 gc1 hGw1
  refine wp_region_plan Ab Ab.refl Ab.trans [([0, 1, 2, 3, 4, 5, 6, 7, 8, 9, 10], 11), ([12], 13), ([14, 15, 16, 17], 18), ([19], 20), ([21, 22, 23, 24], 25), ([26, 27, 28, 29], 30), ([31, 32, 33, 34], 35), ([36, 37, 38, 39, 40, 41, 42, 43, 44, 45], 46), ([], 47)] [] (by kernel_rfl) (by kernel_rfl) (fun _ _ _ _ _ h => h) ?_
  simp only [wpPlan, ordPick, Option.toList_some, List.cons_append, List.nil_append, List.getElem?_cons_succ, List.getElem?_cons_zero]
  generalize w1.drew = w2 at x0 x1 x2 x3 x4 g1 g0 hpB hX2 ⊢
  iterate 1 (go_big_quiet_step (exact fun _ => rfl))
  refine wpq_load_one rfl 3 (.tmp 11) rfl ⟨w.heap.size, 2, none⟩ rfl _ x2 _ Try.underlying3 rfl ?_
  simp only [Act.put, List.setIfInBounds_toArray, List.set_cons_succ, List.set_cons_zero]
  iterate 3 (go_big_quiet_step (exact fun _ => rfl))
  refine wpq_load_one rfl 3 (.tmp 15) rfl ⟨G, 1, none⟩ rfl _ g1 _ Try.underlying3 rfl ?_
  simp only [Act.put, List.setIfInBounds_toArray, List.set_cons_succ, List.set_cons_zero]
  iterate 2 (go_big_quiet_step (exact fun _ => rfl))
  iterate 2 (go_big_quiet_step (exact fun _ => rfl))
  refine wpq_load_w rfl 3 (.tmp 20) rfl ⟨w.heap.size, 1, none⟩ rfl _ x1 _ Try.underlying3 rfl ?_
  simp only [Act.put, List.setIfInBounds_toArray, List.set_cons_succ, List.set_cons_zero]
  refine wpQuiet_nil ?_
  go_wp2_with fail
  refine (is_any _ g0 _).mono ?_
  rw [horg]
  rintro e w3 ⟨rfl, rfl⟩
  go_wp2_with fail
  refine And.intro (Ab.refl _) ?_
  dsimp only
  iterate 1 (go_big_quiet_step (exact fun _ => rfl))
  refine wpQuiet_nil ?_
  go_wp2_with fail
  refine And.intro (Ab.refl _) ?_
  dsimp only
  iterate 1 (go_big_quiet_step (exact fun _ => rfl))
  iterate 2 (go_big_quiet_step (exact fun _ => rfl))
  refine wpq_load_w rfl 3 (.tmp 27) rfl ⟨w.heap.size, 3, none⟩ rfl _ x3 _ Try.underlying3 rfl ?_
  simp only [Act.put, List.setIfInBounds_toArray, List.set_cons_succ, List.set_cons_zero]
  refine wpQuiet_nil ?_
  go_wp2_with fail
  refine (is_any _ g0 _).mono ?_
  rw [horg]
  rintro e w3 ⟨rfl, rfl⟩
  go_wp2_with fail
  refine And.intro (Ab.refl _) ?_
  dsimp only
  iterate 1 (go_big_quiet_step (exact fun _ => rfl))
  refine wpQuiet_nil ?_
  go_wp2_with fail
  refine And.intro (Ab.refl _) ?_
  dsimp only
  iterate 1 (go_big_quiet_step (exact fun _ => rfl))
  iterate 1 (go_big_quiet_step (exact fun _ => rfl))
  refine wpq_load_w rfl 3 (.tmp 33) rfl ⟨w.heap.size, 4, none⟩ rfl _ x4 _ Try.underlying3 rfl ?_
  simp only [Act.put, List.setIfInBounds_toArray, List.set_cons_succ, List.set_cons_zero]
  iterate 1 (go_big_quiet_step (exact fun _ => rfl))
  refine wpQuiet_nil ?_
  go_wp2_with fail
  refine And.intro (Ab.refl _) ?_
  dsimp only
  iterate 1 (go_big_quiet_step (exact fun _ => rfl))
  iterate 1 (go_big_quiet_step (exact fun _ => rfl))
  refine wpq_load_w rfl 3 (.tmp 38) rfl ⟨w.heap.size, 0, none⟩ rfl _ x0 _ Try.underlying3 rfl ?_
  simp only [Act.put, List.setIfInBounds_toArray, List.set_cons_succ, List.set_cons_zero]
  iterate 1 (go_big_quiet_step (exact fun _ => rfl))
  refine wpQuiet_nil ?_
  go_wp2_with fail
  refine And.intro (Ab.refl _) ?_
  dsimp only
  iterate 1 (go_big_quiet_step (exact fun _ => rfl))
  iterate 1 (go_big_quiet_step (exact fun _ => rfl))
  refine wpq_load_w rfl 3 (.tmp 43) rfl ⟨w.heap.size, 0, none⟩ rfl _ x0 _ Try.underlying3 rfl ?_
  simp only [Act.put, List.setIfInBounds_toArray, List.set_cons_succ, List.set_cons_zero]
  iterate 1 (go_big_quiet_step (exact fun _ => rfl))
  refine wpQuiet_nil ?_
  go_wp2_with fail
  refine And.intro (Ab.refl _) ?_
  dsimp only
  iterate 2 (go_big_quiet_step (exact fun _ => rfl))
  refine wpq_load_w rfl 3 (.tmp 48) rfl ⟨w.heap.size, 0, none⟩ rfl _ x0 _ Try.underlying3 rfl ?_
  simp only [Act.put, List.setIfInBounds_toArray, List.set_cons_succ, List.set_cons_zero]
  iterate 2 (go_big_quiet_step (exact fun _ => rfl))
  iterate 1 (go_big_quiet_step (exact fun _ => rfl))
  refine wpq_load_w rfl 3 (.tmp 52) rfl ⟨w.heap.size, 1, none⟩ rfl _ x1 _ Try.underlying3 rfl ?_
  simp only [Act.put, List.setIfInBounds_toArray, List.set_cons_succ, List.set_cons_zero]
  iterate 1 (go_big_quiet_step (exact fun _ => rfl))
  refine wpq_load_w rfl 3 (.tmp 54) rfl ⟨w.heap.size, 3, none⟩ rfl _ x3 _ Try.underlying3 rfl ?_
  simp only [Act.put, List.setIfInBounds_toArray, List.set_cons_succ, List.set_cons_zero]
  iterate 1 (go_big_quiet_step (exact fun _ => rfl))
  refine wpQuiet_nil ?_
  go_wp2_with fail
  refine And.intro (Ab.refl _) (wpQuiet_nil ?_)
  go_wp2_with fail
  refine And.intro (Ab.refl _) (wpQuiet_nil ?_)
  have y3 : w2.cell? ⟨w.heap.size, 3, none⟩ = some (.int .i64 o) := x3 w2 (Ab.refl _)
  have y4 : w2.cell? ⟨w.heap.size, 4, none⟩ = some (.int .i64 k) := x4 w2 (Ab.refl _)
  clear x0 x1 x2 x3 x4 g1 g0
  go_wp2_with fail
  clear y3 y4
  obtain ⟨w3, hw3⟩ : ∃ w3, w2.alloc (.cells #[.int .i64 o, .int .i64 k] 73) = w3 := ⟨_, rfl⟩
  have hBk3 : Blk w3 w2.heap.size 73 #[.int .i64 o, .int .i64 k] := by rw [← hw3]; exact Blk.new' rfl
  have hb3 : Below w2.heap.size w2 w3 := by rw [← hw3]; exact (Below.refl _ _).alloc (Nat.le_refl _) _
  rw [hw3]
  clear hw3
  obtain ⟨M, Ad, nd, cd, lm, vs, hin0⟩ := hp'.out.in_
  have hb4 : Hid (Below w.heap.size w w3.drew) := (hpB.out.trans (hb3.mono hpB.out.size)).trans ((ab_drew w3).mono (hpB.out.trans (hb3.mono hpB.out.size)).size)
  have hI4 : Hid (ProcIn w3.drew L G p M Ad nd cd lm vs) := hin0.up hb4.out
  have hX3 := hX2.out.below hb3 hX2.out.lt
  have hX4 : Hid (Blk w3.drew w.heap.size 35 #[.int .i64 1, .int .i64 o, .int .i64 p.self, .int .i64 o, .int .i64 k, .slice A n c]) := hX3
  have hLab : Hid (∀ i, w.heap.size ≤ i → L i = .no) := fun i hi => by
    cases hx : L i with
    | no => rfl
    | _ => exact absurd (hp'.out.labs i (by rw [hx]; simp)) (by omega)
  have hBk4 : Hid (Blk w3.drew w2.heap.size 73 #[.int .i64 o, .int .i64 k]) := hBk3
  have hS2 : Hid (w.heap.size < w2.heap.size) := hX2.out.lt
  have hIo : I64 o := ⟨by omega, by have := hp'.out.n2; omega⟩
  have hIk : I64 k := ⟨by omega, hk9⟩
  obtain ⟨a, hrun, hcase⟩ := look_cast hI4.out hIo hIk
  have heq := fun w => eq_nil_ptr w a
  obtain ⟨q, hq⟩ : ∃ q, a.isNone = q := ⟨_, rfl⟩
  rw [hq] at heq
  have gM : ∀ w', Ab w3.drew w' → w'.cell? ⟨G, 4, none⟩ = some (.map (some M)) := fun w' h => (Below.cell h (p := ⟨G, 4, none⟩) hI4.out.blk.lt).trans ((hI4.out.blk.cell 4).trans rfl)
  have bK : ∀ w', Ab w3.drew w' → Blk w' w2.heap.size 73 #[.int .i64 o, .int .i64 k] := fun w' h => hBk4.out.below h hBk4.out.lt
  have hcase' := Lib.hid hcase
  have hq' := Lib.hid hq
  clear hin0 hX3 hb3 hBk3 hX2 hpB hcase hq hp'
  unfold idv at hrun
  refine wp_region_plan Ab Ab.refl Ab.trans [([0, 1, 2, 3, 4], 5)] [6] (by kernel_rfl) (by kernel_rfl) (fun _ _ _ _ _ h => h) ?_
  simp only [wpPlan, ordPick, Option.toList_some, List.cons_append, List.nil_append, List.getElem?_cons_succ, List.getElem?_cons_zero]
  generalize w3.drew = w4 at gM bK hrun hb4 hI4 hX4 hBk4 ⊢
  iterate 3 (go_big_quiet_step (exact fun _ => rfl))
  refine wpq_load_one rfl 67 (.tmp 66) rfl ⟨G, 4, none⟩ rfl _ gM _ Try.underlying67 rfl ?_
  simp only [Act.put, List.setIfInBounds_toArray, List.set_cons_succ, List.set_cons_zero]
  refine wpq_load_part rfl 73 (.tmp 5) rfl w2.heap.size 0 rfl 73 _ bK #[.int .i64 o, .int .i64 k] rfl _ Try.underlying73 rfl (by kernel_rfl) ?_
  simp only [Act.put, List.setIfInBounds_toArray, List.set_cons_succ, List.set_cons_zero]
  refine wpQuiet_nil ?_
  clear gM bK
  go_wp2_with fail
  refine And.intro (Ab.refl _) ?_
  dsimp only
  iterate 1 (go_big_quiet_step (exact fun _ => rfl))
  refine wpQuiet_nil ?_
  clear hrun
  go_upto_if 71 with fail
  go_cut [6] from 64 (fun s6 wx => ∃ (L1 : Nat → Lab) (lm1 : List (Value × Value)) (sb : Nat), s6 = .pointer (some ⟨sb, 0, none⟩) ∧ ProcIn wx L1 G { p with casts := Bra.ensure p.casts o k } M Ad nd cd lm1 vs ∧ lm1[Bra.at_ p.casts o k]? = some (idv o k, .pointer (some ⟨sb, 0, none⟩)) ∧
    Blk wx w.heap.size 35 #[.int .i64 1, .int .i64 o, .int .i64 p.self, .int .i64 o, .int .i64 k, .slice A n c] ∧ L1 w.heap.size = .no ∧ Blk wx w2.heap.size 73 #[.int .i64 o, .int .i64 k] ∧ L1 w2.heap.size = .no ∧ (∀ i, i < w.heap.size → L1 i = L i) ∧ Fr (fun i => L i ≠ .no) w wx)
  case first =>
    rcases hcase'.out with ⟨rfl, hany, hno⟩ | ⟨sb, rfl, hany, hl⟩
    · obtain rfl : q = true := hq'.out.symm
      have hmm := @run_makeMap Try.prog
      have hen := ensure_none hany
      have hen' := Lib.hid hen
      have hno' := Lib.hid hno
      clear hen hany hno heq
      go_wp2_with fail
      obtain ⟨w7, hw7⟩ : ∃ w7, (((w4.alloc (Obj.map #[] 0)).alloc (Obj.map #[] 0)).alloc (Obj.cells #[.bool false, .bool false, .bool false, .map (some w4.heap.size), .map (some (w4.heap.size + 1))] 79)) = w7 := ⟨_, rfl⟩
      have he7 : MapIs w7 w4.heap.size [] := by rw [← hw7]; exact ((MapIs.new w4).alloc _).alloc _
      have hr7 : MapIs w7 (w4.heap.size + 1) [] := by
        rw [← hw7]
        have := (MapIs.new (w4.alloc (Obj.map #[] 0))).alloc (Obj.cells #[.bool false, .bool false, .bool false, .map (some w4.heap.size), .map (some (w4.heap.size + 1))] 79)
        rwa [show (w4.alloc (Obj.map #[] 0)).heap.size = w4.heap.size + 1 by simp] at this
      have hs7 : Blk w7 (w4.heap.size + 1 + 1) 79 #[.bool false, .bool false, .bool false, .map (some w4.heap.size), .map (some (w4.heap.size + 1))] := by rw [← hw7]; exact Blk.new' (by simp)
      have hb7 : Below w4.heap.size w4 w7 := by rw [← hw7]; exact (((Below.refl _ _).alloc (Nat.le_refl _) _).alloc (by simp) _).alloc (by simp; omega) _
      rw [hw7]
      clear hw7 hmm
      have hMG : Hid (G ≠ M) := fun e => by have h1 := hI4.out.lab; have h2 := hI4.out.labM; rw [e, h2] at h1; cases h1
      have hMw : Hid (M < w.heap.size) := by
        show _ < _
        rcases Nat.lt_or_ge M w.heap.size with h | h
        · exact h
        · have := hI4.out.labM; rw [hLab.out M h] at this; cases this
      have hS4 : Hid (w2.heap.size < w4.heap.size) := hBk4.out.lt
      have gM7 : ∀ w', Fr (fun i => i = M) w7.drew w' → w'.cell? ⟨G, 4, none⟩ = some (.map (some M)) := fun w' h => ((h.cell (p := ⟨G, 4, none⟩) (Nat.lt_of_lt_of_le hI4.out.blk.lt hb7.size) hMG.out).trans (hb7.cell (p := ⟨G, 4, none⟩) hI4.out.blk.lt)).trans ((hI4.out.blk.cell 4).trans rfl)
      have hBk7 := hBk4.out.below hb7 hBk4.out.lt
      have bK7 : ∀ w', Fr (fun i => i = M) w7.drew w' → Blk w' w2.heap.size 73 #[.int .i64 o, .int .i64 k] := fun w' h => Blk.fr (w := w7.drew) hBk7 h (fun e => by have := hMw.out; have := hS2.out; omega)
      have f7 : Fr (fun i => i = M) w4 w7.drew := (Fr.of_below (F := fun i => i = M) hb7).drew
      have hm7 : Hid (MapIs w7.drew M lm) := hI4.out.map.fr (Fr.of_below (F := fun _ => False) hb7).drew (fun h => h)
      have hks : Hid (∀ q ∈ lm, ∃ x, keyOf Try.prog 73 q.1 = some x) := hI4.out.casts.keys (fun a b ha hb => idKeyOf a b ha hb)
      obtain ⟨kl, hkl⟩ := idKeyOf o k hIo hIk
      have hkl' := Lib.hid hkl
      have he7' : Hid (MapIs w7.drew w4.heap.size []) := he7
      have hr7' : Hid (MapIs w7.drew (w4.heap.size + 1) []) := hr7
      have hs7' : Hid (Blk w7.drew (w4.heap.size + 1 + 1) 79 #[.bool false, .bool false, .bool false, .map (some w4.heap.size), .map (some (w4.heap.size + 1))]) := hs7
      clear he7 hr7 hs7 hb7 hBk7 hkl
      refine wp_region_plan (Fr (fun i => i = M)) (Fr.refl _) (fr_tr _) [([0, 1, 2, 3, 4, 5], 6)] [] (by kernel_rfl) (by kernel_rfl) (fun _ _ _ _ _ h => h) ?_
      simp only [wpPlan, ordPick, Option.toList_some, List.cons_append, List.nil_append, List.getElem?_cons_succ, List.getElem?_cons_zero]
      generalize w7.drew = w8 at gM7 bK7 f7 hm7 he7' hr7' hs7' ⊢
      iterate 3 (go_big_quiet_step (exact fun _ => rfl))
      refine wpq_load_one rfl 67 (.tmp 78) rfl ⟨G, 4, none⟩ rfl _ gM7 _ Try.underlying67 rfl ?_
      simp only [Act.put, List.setIfInBounds_toArray, List.set_cons_succ, List.set_cons_zero]
      refine wpq_load_part rfl 73 (.tmp 5) rfl w2.heap.size 0 rfl 73 _ bK7 #[.int .i64 o, .int .i64 k] rfl _ Try.underlying73 rfl (by kernel_rfl) ?_
      simp only [Act.put, List.setIfInBounds_toArray, List.set_cons_succ, List.set_cons_zero]
      iterate 1 (go_big_quiet_step (exact fun _ => rfl))
      refine wpQuiet_nil ?_
      clear gM7 bK7
      go_wp2_with (at_mapUpdate; refine wpl_mapPush rfl (.tmp 79) (.tmp 80) (.tmp 81) 67 rfl 73 75 idLaw Try.underlying67 rfl hm7.out hks.out (idv o k) _ rfl rfl _ hkl'.out hno'.out ?_; intro w9 hm9 hg9)
      have f9 : Fr (fun i => i = M) w8 w9 := (Fr.refl (fun i => i = M) w8).grown hg9 (fun k h => .inl (by cases h; rfl))
      have f49 := f7.trans f9 (fun _ h => .inl h)
      clear hg9
      go_wp2_with fail
      refine And.intro f9 (wpQuiet_nil ?_)
      go_wp2_with fail
      go_meet
      case rel =>
        have hj := hen'.out.2
        have hz4 : w.heap.size ≤ w4.heap.size := hb4.out.size
        have hl8 : w4.heap.size + 2 < w8.heap.size := hs7'.out.lt
        have hl9 := f9.size
        have ne9 : ∀ {b : Nat}, w.heap.size ≤ b → ¬ b = M := fun hb e => by have := hMw.out; omega
        refine ⟨fun i => if i = w4.heap.size then .ech p.casts.length else if i = w4.heap.size + 1 then .rdy p.casts.length else if i = w4.heap.size + 1 + 1 then .st p.casts.length else L i, lm ++ [(idv o k, .pointer (some ⟨w4.heap.size + 1 + 1, 0, none⟩))], w4.heap.size + 1 + 1, rfl, ?_, ?_, ?_, ?_, ?_, ?_, fun i hi => ?_, ?_⟩
        · rw [hen'.out.1]
          refine hI4.out.snoc (c' := Bra.fresh o k) hm9 f49 (fun i hi => .inr hi) (fun i hi => ?_) (fun i hi => ?_) hIo hIk ⟨w4.heap.size, w4.heap.size + 1, [], [], by dsimp only; rw [if_neg (by omega), if_neg (by omega), if_pos rfl], hs7'.out.fr f9 (ne9 (by omega)), by dsimp only; rw [if_pos rfl], he7'.out.fr f9 (ne9 (by omega)), rfl, by dsimp only; rw [if_neg (by omega), if_pos rfl], hr7'.out.fr f9 (ne9 (by omega)), rfl⟩
          · have : i < w.heap.size := by
              rcases Nat.lt_or_ge i w.heap.size with h | h
              · exact h
              · exact absurd (hLab.out i h) hi
            rw [if_neg (by omega), if_neg (by omega), if_neg (by omega)]
          · by_cases a1 : i = w4.heap.size
            · omega
            · by_cases a2 : i = w4.heap.size + 1
              · omega
              · by_cases a3 : i = w4.heap.size + 1 + 1
                · omega
                · rw [if_neg a1, if_neg a2, if_neg a3] at hi
                  have : i < w.heap.size := by
                    rcases Nat.lt_or_ge i w.heap.size with h | h
                    · exact h
                    · exact absurd (hLab.out i h) hi
                  omega
        · rw [hj, ← hI4.out.casts.len, List.getElem?_append_right (Nat.le_refl _)]
          simp
        · exact hX4.out.fr f49 (ne9 (Nat.le_refl _))
        · have := hS2.out
          have := hS4.out
          dsimp only
          rw [if_neg (by omega), if_neg (by omega), if_neg (by omega)]
          exact hLab.out _ (Nat.le_refl _)
        · exact hBk4.out.fr f49 (ne9 (Nat.le_of_lt hS2.out))
        · have := hS2.out
          have := hS4.out
          dsimp only
          rw [if_neg (by omega), if_neg (by omega), if_neg (by omega)]
          exact hLab.out _ (by omega)
        · dsimp only
          rw [if_neg (by omega), if_neg (by omega), if_neg (by omega)]
        · exact (Fr.of_below (F := fun i => L i ≠ .no) hb4.out).trans f49 (fun i hi => .inl (by rw [hi, hI4.out.labM]; simp))
    · obtain rfl : q = false := hq'.out.symm
      go_wp2_with fail
      go_meet
      case rel =>
        refine ⟨L, lm, sb, rfl, by rw [ensure_some hany]; exact hI4.out, hl, hX4.out, hLab.out _ (Nat.le_refl _), hBk4.out, hLab.out _ (Nat.le_of_lt hS2.out), fun _ _ => rfl, Fr.of_below hb4.out⟩
  case rest =>
    obtain ⟨L1, lm1, sb, hs6, hI, hl, hX, hLX, hBk, hLB, hL1, hf1⟩ := hcut
    subst hs6
    clear hcase' hq' heq hb4 hI4 hX4 hBk4
    obtain ⟨ct, hc⟩ : ∃ ct, Bra.look p.casts o k = ct := ⟨_, rfl⟩
    have hcx := Bra.ensure_at p.casts o k
    have hck := Bra.is_iff.1 (Bra.look_is p.casts o k)
    rw [hc] at hcx hck
    obtain ⟨sb', hl', -, -, hAt⟩ := hI.casts.get hcx
    rw [hck.1, hck.2, hl] at hl'
    obtain rfl : sb = sb' := by simpa using hl'
    rw [Nat.zero_add] at hAt
    obtain ⟨eb, rb, le, lr, a1, a2, a3, a4, a5, a6, a7, a8⟩ := hAt
    have y0 : wc.cell? ⟨w.heap.size, 0, none⟩ = some (.int .i64 1) := (hX.cell 0).trans rfl
    have hcx' := Lib.hid hcx
    have hck' := Lib.hid hck
    have hv : Bra.valid p.n p.self ⟨1, o, p.self, o, k, bs⟩ = true := by simp [Bra.valid]; omega
    have hrecv := Lib.hid (Bra.recv_valid (m := ⟨1, o, p.self, o, k, bs⟩) hv hc)
    have hRc : Hid (Rd wc (fun i => L1 i = .no) A n c bs) := ((hR.out.mono (T := fun i => i < w.heap.size ∧ L i = .no) (fun i hi h => ⟨hi, h⟩)).fr hf1 (fun i hi hne => hne hi.2)).mono (fun i _ h => by rw [hL1 i h.1]; exact h.2)
    have hId := Lib.hid hI
    have hld := Lib.hid hl
    have hXd := Lib.hid hX
    have hBd := Lib.hid hBk
    have hLXd := Lib.hid hLX
    have hLBd := Lib.hid hLB
    have hL1d := Lib.hid hL1
    have hf1d := Lib.hid hf1
    have a1d := Lib.hid a1
    have a2d := Lib.hid a2
    have a3d := Lib.hid a3
    have a4d := Lib.hid a4
    have a5d := Lib.hid a5
    have a6d := Lib.hid a6
    have a7d := Lib.hid a7
    have a8d := Lib.hid a8
    clear hR hcx hck hv hc hl' hI hl hX hBk hLX hLB hL1 hf1 a1 a2 a3 a4 a5 a6 a7 a8
    have e0 : wc.cell? ⟨sb, 0, none⟩ = some (.bool ct.echoed) := (a2d.out.cell 0).trans rfl
    cases hec : ct.echoed
    · rw [hec] at e0
      have hst : Bra.step p.n ct ⟨1, o, p.self, o, k, bs⟩ = ({ ct with echoed := true }, true, false) := by simp [Bra.step, hec]
      rw [hst] at hrecv
      have hF := Lib.hid hf
      have fz := a2d.out.frozen 0
      go_upto_region 14 with fail
      obtain ⟨w8, hw8⟩ : ∃ w8, wc.setCell ⟨sb, 0, none⟩ (.bool true) = w8 := ⟨_, rfl⟩
      have hB8 := a2d.out.set_ 0 (.bool true)
      have f8 : Fr (fun i => i = sb) wc (wc.setCell ⟨sb, 0, none⟩ (.bool true)) := (Fr.refl (fun i => i = sb) wc).setCell (p := ⟨sb, 0, none⟩) (.inl rfl) _
      rw [hw8] at hB8 f8
      rw [hw8]
      have hXs : ¬ w.heap.size = sb := fun e => by have h1 := hLXd.out; rw [e, a1d.out] at h1; cases h1
      have hBs : ¬ w2.heap.size = sb := fun e => by have h1 := hLBd.out; rw [e, a1d.out] at h1; cases h1
      have hGs : ¬ G = sb := fun e => by have h1 := hId.out.lab; rw [e, a1d.out] at h1; cases h1
      have hBk8 := hBd.out.fr f8 hBs
      have z5 : w8.cell? ⟨w.heap.size, 5, none⟩ = some (.slice A n c) := ((hXd.out.fr f8 hXs).cell 5).trans rfl
      have g80 : w8.cell? ⟨G, 0, none⟩ = some (.int .i64 p.n) := ((hId.out.blk.fr f8 hGs).cell 0).trans rfl
      have g81 : w8.cell? ⟨G, 1, none⟩ = some (.int .i64 p.self) := ((hId.out.blk.fr f8 hGs).cell 1).trans rfl
      have hR8 := Lib.hid (hRc.out.fr f8 (fun i hi e => by rw [e, a1d.out] at hi; cases hi))
      have n64 := Lib.hid hId.out.n2
      have f8d := Lib.hid f8
      have hB8d := Lib.hid hB8
      have hes : Hid (eb ≠ sb) := fun e => by have h1 := a3d.out; rw [e, a1d.out] at h1; cases h1
      have hrs : Hid (rb ≠ sb) := fun e => by have h1 := a6d.out; rw [e, a1d.out] at h1; cases h1
      clear hw8 f8 hB8 e0 fz hXs hBs hGs
      go_wp2_with ((with_reducible refine wpl_load_part rfl 73 (.tmp 5) rfl w2.heap.size 0 ?_ 73 _ hBk8 #[.int .i64 o, .int .i64 k] rfl _ Try.underlying73 rfl (by kernel_rfl) ?_); rfl)
      refine (all_any g80 g81 n64.out (hR8.out.mono (fun _ _ _ => trivial)) hF.out 2 o k).mono ?_
      rintro e w9 ⟨A', c', rfl, hr9, hb9⟩
      go_wp2_with fail
      go_ret
      have f89 : Fr (fun _ => False) w8 w9 := Fr.of_below hb9
      have fc9 : Fr (fun i => i = sb) wc w9 := f8d.out.trans f89 (fun _ h => h.elim)
      have hr := hrecv.out
      simp only [if_true, Bool.false_eq_true, if_false] at hr
      rw [hr]
      refine ⟨L1, A', p.n, c', rfl, (hId.out.cast (c' := { ct with echoed := true }) (sb := sb) (j := Bra.at_ p.casts o k) (F := fun i => i = sb) (by show lm1[_]? = some (idv ct.origin ct.number, _); rw [hck'.out.1, hck'.out.2]; exact hld.out) fc9 (fun i e => .inr (.inl (by rw [e]; exact a1d.out))) (fun _ _ => rfl) (fun i hi => Nat.lt_of_lt_of_le (hId.out.labs i hi) fc9.size)
        ⟨eb, rb, _, lr, a1d.out, hB8d.out.fr f89 (fun h => h), a3d.out, a4d.out.fr fc9 hes.out, a5d.out.fr fc9 (fun i hi e => by rw [e, a1d.out] at hi; cases hi), a6d.out, a7d.out.fr fc9 hrs.out, a8d.out.fr fc9 (fun i hi e => by rw [e, a1d.out] at hi; cases hi)⟩).at_, ?_, hL1d.out, hf1d.out.trans fc9 (fun i e => ?_)⟩
      · refine hr9.mono (fun i _ h => ⟨?_, ?_⟩)
        · have := hf1d.out.size; have := f8d.out.size; omega
        · refine Classical.byContradiction (fun hx => ?_)
          have := hId.out.labs i hx
          have := f8d.out.size
          omega
      · rcases Nat.lt_or_ge i w.heap.size with h | h
        · rw [← hL1d.out i h, e, a1d.out]; exact .inl (by simp)
        · exact .inr h
    · rw [hec] at e0
      have hst : Bra.step p.n ct ⟨1, o, p.self, o, k, bs⟩ = (ct, false, false) := by simp [Bra.step, hec]
      rw [hst] at hrecv
      have hrecv' : Hid (Bra.recv p ⟨1, o, p.self, o, k, bs⟩ = ({ p with casts := Bra.ensure p.casts o k }, [])) := by
        show _ = _
        rw [hrecv.out]
        simp [Bra.set_same hcx'.out]
      go_wp2_with fail
      go_ret
      rw [hrecv'.out]
      exact ⟨L1, none, 0, 0, rfl, hId.out.at_, ⟨[], Row.nil _ _ _, rfl⟩, hL1d.out, hf1d.out⟩


end Go.Proofs.Ytplijfgjdlghbaa
