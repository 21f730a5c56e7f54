/-
  A message of kind 3 received.
-/
import Derived.Test.YtplijfgjdlghbaaBKey
namespace Go.Proofs.Ytplijfgjdlghbaa
open Go.RowKit Go.Pl
set_option maxRecDepth 100000 in
set_option maxHeartbeats 2000000 in
theorem recv3 {w : World} {L : Nat → Lab} {G : Nat} {p : Bra.Proc} (hp : ProcAt w L G p) {A : Option Addr} {n c : Nat} {bs : List UInt8} (hr : Rd w (fun i => L i = .no) A n c bs) (hf : Fits bs) (src o k : Int) (h2 : 0 ≤ src ∧ src < p.n) (h3 : 0 ≤ o ∧ o < p.n) (h4 : ¬ k < 1) (hk9 : k ≤ 9223372036854775807) (hdn : p.done.length < 1000000) :
    Calls Try.prog 15 #[.pointer (some ⟨G, 0, none⟩), .agg #[.int .i64 3, .int .i64 src, .int .i64 p.self, .int .i64 o, .int .i64 k, .slice A n c]] w fun e w' =>
      ∃ L' A' n' c', e = .returned (.slice A' n' c') ∧ ProcAt w' L' G (Bra.recv p ⟨3, src, p.self, o, k, bs⟩).1 ∧ RdP w' (fun i => w.heap.size ≤ i ∧ L' i = .no) A' n' c' (Bra.recv p ⟨3, src, p.self, o, k, bs⟩).2 ∧
        (∀ i, i < w.heap.size → L' i = L i) ∧ Fr (fun i => L i ≠ .no) w w' := by
  have d4 : decide (k < 1) = false := decide_eq_false h4
  have horg : (decide (0 ≤ o) && decide (o < (p.n : Int))) = true := by simp; omega
  have hsrc : (decide (0 ≤ src) && decide (src < (p.n : Int))) = true := by simp; omega
  obtain ⟨M, Ad, nd, cd, lm, vs, hin⟩ := hp.in_
  have gc0 : w.cell? ⟨G, 0, none⟩ = some (.int .i64 p.n) := (hin.blk.cell 0).trans rfl
  have gc1 : w.cell? ⟨G, 1, none⟩ = some (.int .i64 p.self) := (hin.blk.cell 1).trans rfl
  have hGl := Lib.hid hp.lt
  have hp' := Lib.hid hp
  have hR := Lib.hid hr
  clear hin hp hr
  go_enter Try.func15, Try.ntmps15
  go_wp2_with fail
  obtain ⟨w1, hw1⟩ : ∃ w1, w.alloc (.cells #[.int .i64 3, .int .i64 src, .int .i64 p.self, .int .i64 o, .int .i64 k, .slice A n c] 35) = w1 := ⟨_, rfl⟩
  have hXb : Blk w1 w.heap.size 35 #[.int .i64 3, .int .i64 src, .int .i64 p.self, .int .i64 o, .int .i64 k, .slice A n c] := by rw [← hw1]; exact Blk.new' rfl
  have hb1 : Below w.heap.size w w1 := by rw [← hw1]; exact (Below.refl _ _).alloc (Nat.le_refl _) _
  rw [hw1]
  have hpB : Hid (Below w.heap.size w w1.drew) := hb1.trans ((ab_drew w1).mono hb1.size)
  have hX2 : Hid (Blk w1.drew w.heap.size 35 #[.int .i64 3, .int .i64 src, .int .i64 p.self, .int .i64 o, .int .i64 k, .slice A n c]) := hXb
  have x0 : ∀ w', Ab w1.drew w' → w'.cell? ⟨w.heap.size, 0, none⟩ = some (.int .i64 3) := fun w' h => (Below.cell h (p := ⟨w.heap.size, 0, none⟩) hXb.lt).trans ((hXb.cell 0).trans rfl)
  have x1 : ∀ w', Ab w1.drew w' → w'.cell? ⟨w.heap.size, 1, none⟩ = some (.int .i64 src) := fun w' h => (Below.cell h (p := ⟨w.heap.size, 1, none⟩) hXb.lt).trans ((hXb.cell 1).trans rfl)
  have x2 : ∀ w', Ab w1.drew w' → w'.cell? ⟨w.heap.size, 2, none⟩ = some (.int .i64 p.self) := fun w' h => (Below.cell h (p := ⟨w.heap.size, 2, none⟩) hXb.lt).trans ((hXb.cell 2).trans rfl)
  have x3 : ∀ w', Ab w1.drew w' → w'.cell? ⟨w.heap.size, 3, none⟩ = some (.int .i64 o) := fun w' h => (Below.cell h (p := ⟨w.heap.size, 3, none⟩) hXb.lt).trans ((hXb.cell 3).trans rfl)
  have x4 : ∀ w', Ab w1.drew w' → w'.cell? ⟨w.heap.size, 4, none⟩ = some (.int .i64 k) := fun w' h => (Below.cell h (p := ⟨w.heap.size, 4, none⟩) hXb.lt).trans ((hXb.cell 4).trans rfl)
  have hGw1 : G < w1.heap.size := Nat.lt_of_lt_of_le hGl.out hb1.size
  have g1 : ∀ w', Ab w1.drew w' → w'.cell? ⟨G, 1, none⟩ = some (.int .i64 p.self) := fun w' h => ((Below.cell h (p := ⟨G, 1, none⟩) hGw1).trans (hb1.cell (p := ⟨G, 1, none⟩) hGl.out)).trans gc1
  have g0 : w1.drew.cell? ⟨G, 0, none⟩ = some (.int .i64 p.n) := (hb1.cell (p := ⟨G, 0, none⟩) hGl.out).trans gc0
  clear hXb hb1 hw1 gc0 gc1 hGw1
  refine wp_region_plan Ab Ab.refl Ab.trans [([0, 1, 2, 3, 4, 5, 6, 7, 8, 9, 10], 11), ([12], 13), ([14, 15, 16, 17], 18), ([19], 20), ([21, 22, 23, 24], 25), ([26, 27, 28, 29], 30), ([31, 32, 33, 34], 35), ([36, 37, 38, 39, 40, 41, 42, 43, 44, 45], 46), ([], 47)] [] (by kernel_rfl) (by kernel_rfl) (fun _ _ _ _ _ h => h) ?_
  simp only [wpPlan, ordPick, Option.toList_some, List.cons_append, List.nil_append, List.getElem?_cons_succ, List.getElem?_cons_zero]
  generalize w1.drew = w2 at x0 x1 x2 x3 x4 g1 g0 hpB hX2 ⊢
  iterate 1 (go_big_quiet_step (exact fun _ => rfl))
  refine wpq_load_one rfl 3 (.tmp 11) rfl ⟨w.heap.size, 2, none⟩ rfl _ x2 _ Try.underlying3 rfl ?_
  simp only [Act.put, List.setIfInBounds_toArray, List.set_cons_succ, List.set_cons_zero]
  iterate 3 (go_big_quiet_step (exact fun _ => rfl))
  refine wpq_load_one rfl 3 (.tmp 15) rfl ⟨G, 1, none⟩ rfl _ g1 _ Try.underlying3 rfl ?_
  simp only [Act.put, List.setIfInBounds_toArray, List.set_cons_succ, List.set_cons_zero]
  iterate 2 (go_big_quiet_step (exact fun _ => rfl))
  iterate 2 (go_big_quiet_step (exact fun _ => rfl))
  refine wpq_load_w rfl 3 (.tmp 20) rfl ⟨w.heap.size, 1, none⟩ rfl _ x1 _ Try.underlying3 rfl ?_
  simp only [Act.put, List.setIfInBounds_toArray, List.set_cons_succ, List.set_cons_zero]
  refine wpQuiet_nil ?_
  go_wp2_with fail
  refine (is_any _ g0 _).mono ?_
  rw [hsrc]
  rintro e w3 ⟨rfl, rfl⟩
  go_wp2_with fail
  refine And.intro (Ab.refl _) ?_
  dsimp only
  iterate 1 (go_big_quiet_step (exact fun _ => rfl))
  refine wpQuiet_nil ?_
  go_wp2_with fail
  refine And.intro (Ab.refl _) ?_
  dsimp only
  iterate 1 (go_big_quiet_step (exact fun _ => rfl))
  iterate 2 (go_big_quiet_step (exact fun _ => rfl))
  refine wpq_load_w rfl 3 (.tmp 27) rfl ⟨w.heap.size, 3, none⟩ rfl _ x3 _ Try.underlying3 rfl ?_
  simp only [Act.put, List.setIfInBounds_toArray, List.set_cons_succ, List.set_cons_zero]
  refine wpQuiet_nil ?_
  go_wp2_with fail
  refine (is_any _ g0 _).mono ?_
  rw [horg]
  rintro e w3 ⟨rfl, rfl⟩
  go_wp2_with fail
  refine And.intro (Ab.refl _) ?_
  dsimp only
  iterate 1 (go_big_quiet_step (exact fun _ => rfl))
  refine wpQuiet_nil ?_
  go_wp2_with fail
  refine And.intro (Ab.refl _) ?_
  dsimp only
  iterate 1 (go_big_quiet_step (exact fun _ => rfl))
  iterate 1 (go_big_quiet_step (exact fun _ => rfl))
  refine wpq_load_w rfl 3 (.tmp 33) rfl ⟨w.heap.size, 4, none⟩ rfl _ x4 _ Try.underlying3 rfl ?_
  simp only [Act.put, List.setIfInBounds_toArray, List.set_cons_succ, List.set_cons_zero]
  iterate 1 (go_big_quiet_step (exact fun _ => rfl))
  refine wpQuiet_nil ?_
  go_wp2_with fail
  refine And.intro (Ab.refl _) ?_
  dsimp only
  iterate 1 (go_big_quiet_step (exact fun _ => rfl))
  iterate 1 (go_big_quiet_step (exact fun _ => rfl))
  refine wpq_load_w rfl 3 (.tmp 38) rfl ⟨w.heap.size, 0, none⟩ rfl _ x0 _ Try.underlying3 rfl ?_
  simp only [Act.put, List.setIfInBounds_toArray, List.set_cons_succ, List.set_cons_zero]
  iterate 1 (go_big_quiet_step (exact fun _ => rfl))
  refine wpQuiet_nil ?_
  go_wp2_with fail
  refine And.intro (Ab.refl _) ?_
  dsimp only
  iterate 1 (go_big_quiet_step (exact fun _ => rfl))
  iterate 1 (go_big_quiet_step (exact fun _ => rfl))
  refine wpq_load_w rfl 3 (.tmp 43) rfl ⟨w.heap.size, 0, none⟩ rfl _ x0 _ Try.underlying3 rfl ?_
  simp only [Act.put, List.setIfInBounds_toArray, List.set_cons_succ, List.set_cons_zero]
  iterate 1 (go_big_quiet_step (exact fun _ => rfl))
  refine wpQuiet_nil ?_
  go_wp2_with fail
  refine And.intro (Ab.refl _) ?_
  dsimp only
  iterate 2 (go_big_quiet_step (exact fun _ => rfl))
  refine wpq_load_w rfl 3 (.tmp 48) rfl ⟨w.heap.size, 0, none⟩ rfl _ x0 _ Try.underlying3 rfl ?_
  simp only [Act.put, List.setIfInBounds_toArray, List.set_cons_succ, List.set_cons_zero]
  iterate 2 (go_big_quiet_step (exact fun _ => rfl))
  iterate 5 (go_big_quiet_step (exact fun _ => rfl))
  refine wpQuiet_nil ?_
  go_wp2_with fail
  refine And.intro (Ab.refl _) (wpQuiet_nil ?_)
  go_wp2_with fail
  refine And.intro (Ab.refl _) (wpQuiet_nil ?_)
  have y3 : w2.cell? ⟨w.heap.size, 3, none⟩ = some (.int .i64 o) := x3 w2 (Ab.refl _)
  have y4 : w2.cell? ⟨w.heap.size, 4, none⟩ = some (.int .i64 k) := x4 w2 (Ab.refl _)
  clear x0 x1 x2 x3 x4 g1 g0
  go_wp2_with fail
  clear y3 y4
  obtain ⟨w3, hw3⟩ : ∃ w3, w2.alloc (.cells #[.int .i64 o, .int .i64 k] 73) = w3 := ⟨_, rfl⟩
  have hBk3 : Blk w3 w2.heap.size 73 #[.int .i64 o, .int .i64 k] := by rw [← hw3]; exact Blk.new' rfl
  have hb3 : Below w2.heap.size w2 w3 := by rw [← hw3]; exact (Below.refl _ _).alloc (Nat.le_refl _) _
  rw [hw3]
  clear hw3
  obtain ⟨M, Ad, nd, cd, lm, vs, hin0⟩ := hp'.out.in_
  have hb4 : Hid (Below w.heap.size w w3.drew) := (hpB.out.trans (hb3.mono hpB.out.size)).trans ((ab_drew w3).mono (hpB.out.trans (hb3.mono hpB.out.size)).size)
  have hI4 : Hid (ProcIn w3.drew L G p M Ad nd cd lm vs) := hin0.up hb4.out
  have hX3 := hX2.out.below hb3 hX2.out.lt
  have hX4 : Hid (Blk w3.drew w.heap.size 35 #[.int .i64 3, .int .i64 src, .int .i64 p.self, .int .i64 o, .int .i64 k, .slice A n c]) := hX3
  have hLab : Hid (∀ i, w.heap.size ≤ i → L i = .no) := fun i hi => by
    cases hx : L i with
    | no => rfl
    | _ => exact absurd (hp'.out.labs i (by rw [hx]; simp)) (by omega)
  have hBk4 : Hid (Blk w3.drew w2.heap.size 73 #[.int .i64 o, .int .i64 k]) := hBk3
  have hS2 : Hid (w.heap.size < w2.heap.size) := hX2.out.lt
  have hIo : I64 o := ⟨by omega, by have := hp'.out.n2; omega⟩
  have hIk : I64 k := ⟨by omega, hk9⟩
  obtain ⟨a, hrun, hcase⟩ := look_cast hI4.out hIo hIk
  have heq := fun w => eq_nil_ptr w a
  obtain ⟨q, hq⟩ : ∃ q, a.isNone = q := ⟨_, rfl⟩
  rw [hq] at heq
  have gM : ∀ w', Ab w3.drew w' → w'.cell? ⟨G, 4, none⟩ = some (.map (some M)) := fun w' h => (Below.cell h (p := ⟨G, 4, none⟩) hI4.out.blk.lt).trans ((hI4.out.blk.cell 4).trans rfl)
  have bK : ∀ w', Ab w3.drew w' → Blk w' w2.heap.size 73 #[.int .i64 o, .int .i64 k] := fun w' h => hBk4.out.below h hBk4.out.lt
  have hcase' := Lib.hid hcase
  have hq' := Lib.hid hq
  clear hin0 hX3 hb3 hBk3 hX2 hpB hcase hq hp'
  unfold idv at hrun
  refine wp_region_plan Ab Ab.refl Ab.trans [([0, 1, 2, 3, 4], 5)] [6] (by kernel_rfl) (by kernel_rfl) (fun _ _ _ _ _ h => h) ?_
  simp only [wpPlan, ordPick, Option.toList_some, List.cons_append, List.nil_append, List.getElem?_cons_succ, List.getElem?_cons_zero]
  generalize w3.drew = w4 at gM bK hrun hb4 hI4 hX4 hBk4 ⊢
  iterate 3 (go_big_quiet_step (exact fun _ => rfl))
  refine wpq_load_one rfl 67 (.tmp 66) rfl ⟨G, 4, none⟩ rfl _ gM _ Try.underlying67 rfl ?_
  simp only [Act.put, List.setIfInBounds_toArray, List.set_cons_succ, List.set_cons_zero]
  refine wpq_load_part rfl 73 (.tmp 5) rfl w2.heap.size 0 rfl 73 _ bK #[.int .i64 o, .int .i64 k] rfl _ Try.underlying73 rfl (by kernel_rfl) ?_
  simp only [Act.put, List.setIfInBounds_toArray, List.set_cons_succ, List.set_cons_zero]
  refine wpQuiet_nil ?_
  clear gM bK
  go_wp2_with fail
  refine And.intro (Ab.refl _) ?_
  dsimp only
  iterate 1 (go_big_quiet_step (exact fun _ => rfl))
  refine wpQuiet_nil ?_
  clear hrun
  go_upto_if 71 with fail
  go_cut [6] from 64 (fun s6 wx => ∃ (L1 : Nat → Lab) (lm1 : List (Value × Value)) (sb : Nat), s6 = .pointer (some ⟨sb, 0, none⟩) ∧ ProcIn wx L1 G { p with casts := Bra.ensure p.casts o k } M Ad nd cd lm1 vs ∧ lm1[Bra.at_ p.casts o k]? = some (idv o k, .pointer (some ⟨sb, 0, none⟩)) ∧
    Blk wx w.heap.size 35 #[.int .i64 3, .int .i64 src, .int .i64 p.self, .int .i64 o, .int .i64 k, .slice A n c] ∧ L1 w.heap.size = .no ∧ Blk wx w2.heap.size 73 #[.int .i64 o, .int .i64 k] ∧ L1 w2.heap.size = .no ∧ (∀ i, i < w.heap.size → L1 i = L i) ∧ Fr (fun i => L i ≠ .no) w wx)
  case first =>
    rcases hcase'.out with ⟨rfl, hany, hno⟩ | ⟨sb, rfl, hany, hl⟩
    · obtain rfl : q = true := hq'.out.symm
      have hmm := @run_makeMap Try.prog
      have hen := ensure_none hany
      have hen' := Lib.hid hen
      have hno' := Lib.hid hno
      clear hen hany hno heq
      go_wp2_with fail
      obtain ⟨w7, hw7⟩ : ∃ w7, (((w4.alloc (Obj.map #[] 0)).alloc (Obj.map #[] 0)).alloc (Obj.cells #[.bool false, .bool false, .bool false, .map (some w4.heap.size), .map (some (w4.heap.size + 1))] 79)) = w7 := ⟨_, rfl⟩
      have he7 : MapIs w7 w4.heap.size [] := by rw [← hw7]; exact ((MapIs.new w4).alloc _).alloc _
      have hr7 : MapIs w7 (w4.heap.size + 1) [] := by
        rw [← hw7]
        have := (MapIs.new (w4.alloc (Obj.map #[] 0))).alloc (Obj.cells #[.bool false, .bool false, .bool false, .map (some w4.heap.size), .map (some (w4.heap.size + 1))] 79)
        rwa [show (w4.alloc (Obj.map #[] 0)).heap.size = w4.heap.size + 1 by simp] at this
      have hs7 : Blk w7 (w4.heap.size + 1 + 1) 79 #[.bool false, .bool false, .bool false, .map (some w4.heap.size), .map (some (w4.heap.size + 1))] := by rw [← hw7]; exact Blk.new' (by simp)
      have hb7 : Below w4.heap.size w4 w7 := by rw [← hw7]; exact (((Below.refl _ _).alloc (Nat.le_refl _) _).alloc (by simp) _).alloc (by simp; omega) _
      rw [hw7]
      clear hw7 hmm
      have hMG : Hid (G ≠ M) := fun e => by have h1 := hI4.out.lab; have h2 := hI4.out.labM; rw [e, h2] at h1; cases h1
      have hMw : Hid (M < w.heap.size) := by
        show _ < _
        rcases Nat.lt_or_ge M w.heap.size with h | h
        · exact h
        · have := hI4.out.labM; rw [hLab.out M h] at this; cases this
      have hS4 : Hid (w2.heap.size < w4.heap.size) := hBk4.out.lt
      have gM7 : ∀ w', Fr (fun i => i = M) w7.drew w' → w'.cell? ⟨G, 4, none⟩ = some (.map (some M)) := fun w' h => ((h.cell (p := ⟨G, 4, none⟩) (Nat.lt_of_lt_of_le hI4.out.blk.lt hb7.size) hMG.out).trans (hb7.cell (p := ⟨G, 4, none⟩) hI4.out.blk.lt)).trans ((hI4.out.blk.cell 4).trans rfl)
      have hBk7 := hBk4.out.below hb7 hBk4.out.lt
      have bK7 : ∀ w', Fr (fun i => i = M) w7.drew w' → Blk w' w2.heap.size 73 #[.int .i64 o, .int .i64 k] := fun w' h => Blk.fr (w := w7.drew) hBk7 h (fun e => by have := hMw.out; have := hS2.out; omega)
      have f7 : Fr (fun i => i = M) w4 w7.drew := (Fr.of_below (F := fun i => i = M) hb7).drew
      have hm7 : Hid (MapIs w7.drew M lm) := hI4.out.map.fr (Fr.of_below (F := fun _ => False) hb7).drew (fun h => h)
      have hks : Hid (∀ q ∈ lm, ∃ x, keyOf Try.prog 73 q.1 = some x) := hI4.out.casts.keys (fun a b ha hb => idKeyOf a b ha hb)
      obtain ⟨kl, hkl⟩ := idKeyOf o k hIo hIk
      have hkl' := Lib.hid hkl
      have he7' : Hid (MapIs w7.drew w4.heap.size []) := he7
      have hr7' : Hid (MapIs w7.drew (w4.heap.size + 1) []) := hr7
      have hs7' : Hid (Blk w7.drew (w4.heap.size + 1 + 1) 79 #[.bool false, .bool false, .bool false, .map (some w4.heap.size), .map (some (w4.heap.size + 1))]) := hs7
      clear he7 hr7 hs7 hb7 hBk7 hkl
      refine wp_region_plan (Fr (fun i => i = M)) (Fr.refl _) (fr_tr _) [([0, 1, 2, 3, 4, 5], 6)] [] (by kernel_rfl) (by kernel_rfl) (fun _ _ _ _ _ h => h) ?_
      simp only [wpPlan, ordPick, Option.toList_some, List.cons_append, List.nil_append, List.getElem?_cons_succ, List.getElem?_cons_zero]
      generalize w7.drew = w8 at gM7 bK7 f7 hm7 he7' hr7' hs7' ⊢
      iterate 3 (go_big_quiet_step (exact fun _ => rfl))
      refine wpq_load_one rfl 67 (.tmp 78) rfl ⟨G, 4, none⟩ rfl _ gM7 _ Try.underlying67 rfl ?_
      simp only [Act.put, List.setIfInBounds_toArray, List.set_cons_succ, List.set_cons_zero]
      refine wpq_load_part rfl 73 (.tmp 5) rfl w2.heap.size 0 rfl 73 _ bK7 #[.int .i64 o, .int .i64 k] rfl _ Try.underlying73 rfl (by kernel_rfl) ?_
      simp only [Act.put, List.setIfInBounds_toArray, List.set_cons_succ, List.set_cons_zero]
      iterate 1 (go_big_quiet_step (exact fun _ => rfl))
      refine wpQuiet_nil ?_
      clear gM7 bK7
      go_wp2_with (at_mapUpdate; refine wpl_mapPush rfl (.tmp 79) (.tmp 80) (.tmp 81) 67 rfl 73 75 idLaw Try.underlying67 rfl hm7.out hks.out (idv o k) _ rfl rfl _ hkl'.out hno'.out ?_; intro w9 hm9 hg9)
      have f9 : Fr (fun i => i = M) w8 w9 := (Fr.refl (fun i => i = M) w8).grown hg9 (fun k h => .inl (by cases h; rfl))
      have f49 := f7.trans f9 (fun _ h => .inl h)
      clear hg9
      go_wp2_with fail
      refine And.intro f9 (wpQuiet_nil ?_)
      go_wp2_with fail
      go_meet
      case rel =>
        have hj := hen'.out.2
        have hz4 : w.heap.size ≤ w4.heap.size := hb4.out.size
        have hl8 : w4.heap.size + 2 < w8.heap.size := hs7'.out.lt
        have hl9 := f9.size
        have ne9 : ∀ {b : Nat}, w.heap.size ≤ b → ¬ b = M := fun hb e => by have := hMw.out; omega
        refine ⟨fun i => if i = w4.heap.size then .ech p.casts.length else if i = w4.heap.size + 1 then .rdy p.casts.length else if i = w4.heap.size + 1 + 1 then .st p.casts.length else L i, lm ++ [(idv o k, .pointer (some ⟨w4.heap.size + 1 + 1, 0, none⟩))], w4.heap.size + 1 + 1, rfl, ?_, ?_, ?_, ?_, ?_, ?_, fun i hi => ?_, ?_⟩
        · rw [hen'.out.1]
          refine hI4.out.snoc (c' := Bra.fresh o k) hm9 f49 (fun i hi => .inr hi) (fun i hi => ?_) (fun i hi => ?_) hIo hIk ⟨w4.heap.size, w4.heap.size + 1, [], [], by dsimp only; rw [if_neg (by omega), if_neg (by omega), if_pos rfl], hs7'.out.fr f9 (ne9 (by omega)), by dsimp only; rw [if_pos rfl], he7'.out.fr f9 (ne9 (by omega)), rfl, by dsimp only; rw [if_neg (by omega), if_pos rfl], hr7'.out.fr f9 (ne9 (by omega)), rfl⟩
          · have : i < w.heap.size := by
              rcases Nat.lt_or_ge i w.heap.size with h | h
              · exact h
              · exact absurd (hLab.out i h) hi
            rw [if_neg (by omega), if_neg (by omega), if_neg (by omega)]
          · by_cases a1 : i = w4.heap.size
            · omega
            · by_cases a2 : i = w4.heap.size + 1
              · omega
              · by_cases a3 : i = w4.heap.size + 1 + 1
                · omega
                · rw [if_neg a1, if_neg a2, if_neg a3] at hi
                  have : i < w.heap.size := by
                    rcases Nat.lt_or_ge i w.heap.size with h | h
                    · exact h
                    · exact absurd (hLab.out i h) hi
                  omega
        · rw [hj, ← hI4.out.casts.len, List.getElem?_append_right (Nat.le_refl _)]
          simp
        · exact hX4.out.fr f49 (ne9 (Nat.le_refl _))
        · have := hS2.out
          have := hS4.out
          dsimp only
          rw [if_neg (by omega), if_neg (by omega), if_neg (by omega)]
          exact hLab.out _ (Nat.le_refl _)
        · exact hBk4.out.fr f49 (ne9 (Nat.le_of_lt hS2.out))
        · have := hS2.out
          have := hS4.out
          dsimp only
          rw [if_neg (by omega), if_neg (by omega), if_neg (by omega)]
          exact hLab.out _ (by omega)
        · dsimp only
          rw [if_neg (by omega), if_neg (by omega), if_neg (by omega)]
        · exact (Fr.of_below (F := fun i => L i ≠ .no) hb4.out).trans f49 (fun i hi => .inl (by rw [hi, hI4.out.labM]; simp))
    · obtain rfl : q = false := hq'.out.symm
      go_wp2_with fail
      go_meet
      case rel =>
        refine ⟨L, lm, sb, rfl, by rw [ensure_some hany]; exact hI4.out, hl, hX4.out, hLab.out _ (Nat.le_refl _), hBk4.out, hLab.out _ (Nat.le_of_lt hS2.out), fun _ _ => rfl, Fr.of_below hb4.out⟩
  case rest =>
    obtain ⟨L1, lm1, sb, hs6, hI, hl, hX, hLX, hBk, hLB, hL1, hf1⟩ := hcut
    subst hs6
    clear hcase' hq' heq hb4 hI4 hX4 hBk4
    obtain ⟨ct, hc⟩ : ∃ ct, Bra.look p.casts o k = ct := ⟨_, rfl⟩
    have hcx := Bra.ensure_at p.casts o k
    have hck := Bra.is_iff.1 (Bra.look_is p.casts o k)
    rw [hc] at hcx hck
    obtain ⟨sb', hl', -, -, hAt⟩ := hI.casts.get hcx
    rw [hck.1, hck.2, hl] at hl'
    obtain rfl : sb = sb' := by simpa using hl'
    rw [Nat.zero_add] at hAt
    obtain ⟨eb, rb, le, lr, a1, a2, a3, a4, a5, a6, a7, a8⟩ := hAt
    have y0 : wc.cell? ⟨w.heap.size, 0, none⟩ = some (.int .i64 3) := (hX.cell 0).trans rfl
    have hcx' := Lib.hid hcx
    have hck' := Lib.hid hck
    have hv : Bra.valid p.n p.self ⟨3, src, p.self, o, k, bs⟩ = true := by simp [Bra.valid]; omega
    have hrecv := Lib.hid (Bra.recv_valid (m := ⟨3, src, p.self, o, k, bs⟩) hv hc)
    have hRc : Hid (Rd wc (fun i => L1 i = .no) A n c bs) := ((hR.out.mono (T := fun i => i < w.heap.size ∧ L i = .no) (fun i hi h => ⟨hi, h⟩)).fr hf1 (fun i hi hne => hne hi.2)).mono (fun i _ h => by rw [hL1 i h.1]; exact h.2)
    have hId := Lib.hid hI
    have hld := Lib.hid hl
    have hXd := Lib.hid hX
    have hBd := Lib.hid hBk
    have hLXd := Lib.hid hLX
    have hLBd := Lib.hid hLB
    have hL1d := Lib.hid hL1
    have hf1d := Lib.hid hf1
    have a1d := Lib.hid a1
    have a2d := Lib.hid a2
    have a3d := Lib.hid a3
    have a4d := Lib.hid a4
    have a5d := Lib.hid a5
    have a6d := Lib.hid a6
    have a7d := Lib.hid a7
    have a8d := Lib.hid a8
    clear hR hcx hck hv hc hl' hI hl hX hBk hLX hLB hL1 hf1 a1 a2 a3 a4 a5 a6 a7 a8
    obtain ⟨w5, rfl⟩ : ∃ x, x = wc := ⟨_, rfl⟩
    have hsE : Hid (sb ≠ rb) := fun e => by have h1 := a1d.out; rw [e, a6d.out] at h1; cases h1
    have hGE : Hid (G ≠ rb) := fun e => by have h1 := hId.out.lab; rw [e, a6d.out] at h1; cases h1
    have hXE : Hid (w.heap.size ≠ rb) := fun e => by have h1 := hLXd.out; rw [e, a6d.out] at h1; cases h1
    have hBE : Hid (w2.heap.size ≠ rb) := fun e => by have h1 := hLBd.out; rw [e, a6d.out] at h1; cases h1
    have hEE : Hid (eb ≠ rb) := fun e => by have h1 := a3d.out; rw [e, a6d.out] at h1; cases h1
    have hES : Hid (eb ≠ sb) := fun e => by have h1 := a3d.out; rw [e, a1d.out] at h1; cases h1
    have hRS : Hid (rb ≠ sb) := fun e => hsE.out e.symm
    have hXs : Hid (w.heap.size ≠ sb) := fun e => by have h1 := hLXd.out; rw [e, a1d.out] at h1; cases h1
    have hBs : Hid (w2.heap.size ≠ sb) := fun e => by have h1 := hLBd.out; rw [e, a1d.out] at h1; cases h1
    have hGs : Hid (G ≠ sb) := fun e => by have h1 := hId.out.lab; rw [e, a1d.out] at h1; cases h1
    have hFl : Hid (∀ i, (i = rb ∨ i = sb) → L1 i = .no ∨ L1 i = .st (Bra.at_ p.casts o k) ∨ L1 i = .ech (Bra.at_ p.casts o k) ∨ L1 i = .rdy (Bra.at_ p.casts o k)) := fun i e => by
      rcases e with e | e
      · exact .inr (.inr (.inr (by rw [e]; exact a6d.out)))
      · exact .inr (.inl (by rw [e]; exact a1d.out))
    have hFb : Hid (∀ i, L1 i = .byt → ¬ (i = rb ∨ i = sb)) := fun i hi e => by
      rcases e with e | e
      · rw [e, a6d.out] at hi; cases hi
      · rw [e, a1d.out] at hi; cases hi
    have s4 : w5.cell? ⟨sb, 4, none⟩ = some (.map (some rb)) := (a2d.out.cell 4).trans rfl
    have k1 : Hid (w5.cell? ⟨w.heap.size, 1, none⟩ = some (.int .i64 src)) := (hXd.out.cell 1).trans rfl
    have k5 : Hid (w5.cell? ⟨w.heap.size, 5, none⟩ = some (.slice A n c)) := (hXd.out.cell 5).trans rfl
    have hsrc2 : 0 ≤ src ∧ src < 64 := by have := hId.out.n2; have : p.n ≤ 64 := this; omega
    have hF := Lib.hid hf
    by_cases hvd : Bra.voted ct.readies src = true
    · have hst : Bra.step p.n ct ⟨3, src, p.self, o, k, bs⟩ = (ct, false, false) := by simp [Bra.step, hvd]
      rw [hst] at hrecv
      have hrecv' : Hid (Bra.recv p ⟨3, src, p.self, o, k, bs⟩ = ({ p with casts := Bra.ensure p.casts o k }, [])) := by
        show _ = _
        rw [hrecv.out]
        simp [Bra.set_same hcx'.out]
      go_wp2_with fail
      refine (record_no a7d.out a8d.out k1.out hsrc2 hvd).mono ?_
      rintro e w6 ⟨rfl, rfl⟩
      go_wp2_with fail
      go_ret
      rw [hrecv'.out]
      exact ⟨L1, none, 0, 0, rfl, hId.out.at_, ⟨[], Row.nil _ _ _, rfl⟩, hL1d.out, hf1d.out⟩
    · have hvd' : Bra.voted ct.readies src = false := by simpa using hvd
      have hst : Bra.step p.n ct ⟨3, src, p.self, o, k, bs⟩ = ({ ct with readies := ct.readies ++ [(src, bs)], readied := ct.readied || (decide (Bra.faults p.n + 1 ≤ Bra.count (ct.readies ++ [(src, bs)]) bs) && !ct.readied), delivered := ct.delivered || (decide (2 * Bra.faults p.n + 1 ≤ Bra.count (ct.readies ++ [(src, bs)]) bs) && !ct.delivered) },
          decide (Bra.faults p.n + 1 ≤ Bra.count (ct.readies ++ [(src, bs)]) bs) && !ct.readied, decide (2 * Bra.faults p.n + 1 ≤ Bra.count (ct.readies ++ [(src, bs)]) bs) && !ct.delivered) := by
        simp [Bra.step, hvd']
      rw [hst] at hrecv
      have hvd2 := Lib.hid hvd'
      clear hvd hvd' hst
      go_wp2_with fail
      refine (record_yes a7d.out a8d.out k1.out k5.out (hRc.out.mono (fun _ _ _ => trivial)) hF.out hsrc2 hvd2.out).mono ?_
      rintro e w6 ⟨rfl, f6, s, hs6, m6⟩
      obtain ⟨L2, hLa, hLb, hLc, hLd⟩ := lab_ext L1 w5.heap.size w6.heap.size (fun i hi => hId.out.labs i hi) f6.size
      have v6 := ((a8d.out.fr f6 (fun i hi e => by rw [e, a6d.out] at hi; cases hi)).mono (T := fun i => L2 i = .byt) (fun i _ h => by rw [hLa i (by rw [h]; simp), h])).snoc hsrc2 (hs6.mono (fun i hi h => hLb i h hi))
      have hfew := votes_few m6 v6
      have hR6 := hRc.out.fr f6 (fun i hi e => by rw [e, a6d.out] at hi; cases hi)
      have k56 : w6.cell? ⟨w.heap.size, 5, none⟩ = some (.slice A n c) := (f6.cell (p := ⟨w.heap.size, 5, none⟩) hXd.out.lt hXE.out).trans k5.out
      have hct := Lib.hid (count_any m6 v6 k56 (hR6.mono (fun _ _ _ => trivial)) (by omega))
      have hcnle : Bra.count (ct.readies ++ [(src, bs)]) bs ≤ 64 := Nat.le_trans (Bra.count_le _ _) hfew
      obtain ⟨cn, hcn⟩ : ∃ cn, Bra.count (ct.readies ++ [(src, bs)]) bs = cn := ⟨_, rfl⟩
      rw [hcn] at hrecv hct hcnle
      have t4 : w6.cell? ⟨sb, 4, none⟩ = some (.map (some rb)) := (f6.cell (p := ⟨sb, 4, none⟩) a2d.out.lt hsE.out).trans s4
      have hf64 : (Bra.faults p.n : Int) ≤ 64 := by have : p.n ≤ 64 := hId.out.n2; unfold Bra.faults; omega
      have hcn64 : (cn : Int) ≤ 64 := by omega
      have m6d := Lib.hid m6
      have v6d := Lib.hid v6
      have hLad := Lib.hid hLa
      have hLcd := Lib.hid hLc
      have hLdd := Lib.hid hLd
      have f6d := Lib.hid f6
      obtain ⟨fl, hfl⟩ : ∃ fl, Bra.faults p.n = fl := ⟨_, rfl⟩
      rw [hfl] at hrecv hf64
      clear m6 v6 hLa hLb hLc hLd hcn hs6 hR6 k56 hfew hcnle f6 s4
      go_wp2_with fail
      refine hct.out.mono ?_
      rintro e w7 ⟨rfl, hb7⟩
      have fc7 : Hid (Fr (fun i => i = rb) w5 w7) := f6d.out.trans (Fr.of_below (F := fun _ => False) hb7) (fun _ h => h.elim)
      have m7 : Hid (MapIs w7 rb (lr ++ [(.int .i64 src, s)])) := m6d.out.below hb7 m6d.out.lt
      have v7 : Hid (VotesIs w7 (fun i => L2 i = .byt) (ct.readies ++ [(src, bs)]) (lr ++ [(.int .i64 src, s)])) := v6d.out.fr (Fr.of_below (F := fun _ => False) hb7) (fun _ _ h => h)
      have h67 : Hid (w6.heap.size ≤ w7.heap.size) := hb7.size
      have fB : Hid (∀ i, i = rb ∨ i = sb → L i ≠ .no ∨ w.heap.size ≤ i) := fun i hi => by
        rcases Nat.lt_or_ge i w.heap.size with h | h
        · rw [← hL1d.out i h]
          rcases hi with e | e
          · rw [e, a6d.out]; exact .inl (by simp)
          · rw [e, a1d.out]; exact .inl (by simp)
        · exact .inr h
      have hL2 : Hid (∀ i, i < w.heap.size → L2 i = L i) := fun i hi => by
        have h1 := hf1d.out.size
        rw [hLdd.out i (by omega), hL1d.out i hi]
      have hB7 : Hid (Blk w7 sb 79 #[.bool ct.echoed, .bool ct.readied, .bool ct.delivered, .map (some eb), .map (some rb)]) := a2d.out.fr fc7.out hsE.out
      have z1 : w7.cell? ⟨sb, 1, none⟩ = some (.bool ct.readied) := (hB7.out.cell 1).trans rfl
      have zf : w7.cell? ⟨G, 2, none⟩ = some (.int .i64 fl) := ((hId.out.blk.fr fc7.out hGE.out).cell 2).trans (by rw [← hfl]; rfl)
      clear hct m6d v6d hb7 t4 f6d
      obtain ⟨sB, hsB⟩ : ∃ sB, (decide (fl + 1 ≤ cn) && !ct.readied) = sB := ⟨_, rfl⟩
      rw [hsB] at hrecv
      have hsBd := Lib.hid hsB
      clear hsB
      go_upto_region 24 with fail
      go_cut [171] from 158 (fun s171 wx => s171 = .bool sB ∧ wx = w7)
      case first =>
        rcases Nat.lt_or_ge cn (fl + 1) with h | h
        · have hx : ¬ (fl : Int) + 1 ≤ (cn : Int) := by omega
          have hxd : decide ((fl : Int) + 1 ≤ (cn : Int)) = false := decide_eq_false hx
          go_wp2_with fail
          go_meet
          case rel => exact ⟨by rw [← hsBd.out, decide_eq_false (by omega : ¬ fl + 1 ≤ cn)]; rfl, rfl⟩
        · have hx : (fl : Int) + 1 ≤ (cn : Int) := by omega
          have hxd : decide ((fl : Int) + 1 ≤ (cn : Int)) = true := decide_eq_true hx
          cases hrd : ct.readied
          · rw [hrd] at z1
            go_wp2_with fail
            go_meet
            case rel => exact ⟨by rw [← hsBd.out, decide_eq_true h, hrd]; rfl, rfl⟩
          · rw [hrd] at z1
            go_wp2_with fail
            go_meet
            case rel => exact ⟨by rw [← hsBd.out, decide_eq_true h, hrd]; rfl, rfl⟩
      case rest =>
        obtain ⟨hs1, hwx⟩ := hcut
        subst hs1 hwx
        obtain ⟨w7, rfl⟩ : ∃ x, x = wc := ⟨_, rfl⟩
        have g70 : Hid (w7.cell? ⟨G, 0, none⟩ = some (.int .i64 p.n)) := ((hId.out.blk.fr fc7.out hGE.out).cell 0).trans rfl
        have g71 : Hid (w7.cell? ⟨G, 1, none⟩ = some (.int .i64 p.self)) := ((hId.out.blk.fr fc7.out hGE.out).cell 1).trans rfl
        have k57 : Hid (w7.cell? ⟨w.heap.size, 5, none⟩ = some (.slice A n c)) := ((hXd.out.fr fc7.out hXE.out).cell 5).trans rfl
        have hBk7 : Hid (Blk w7 w2.heap.size 73 #[.int .i64 o, .int .i64 k]) := hBd.out.fr fc7.out hBE.out
        have hR7 : Hid (Rd w7 (fun i => L1 i = .no) A n c bs) := hRc.out.fr fc7.out (fun i hi e => by rw [e, a6d.out] at hi; cases hi)
        have n64 := Lib.hid hId.out.n2
        have hX7 : Hid (w.heap.size < w7.heap.size) := Nat.lt_of_lt_of_le hXd.out.lt fc7.out.size
        have hG7 : Hid (G < w7.heap.size) := Nat.lt_of_lt_of_le hId.out.blk.lt fc7.out.size
        go_upto_if 171 with fail
        go_cut [9] from 172 (fun s9 wx => ∃ (A' : Option Addr) (n' c' : Nat), s9 = .slice A' n' c' ∧ RdP wx (fun i => w7.heap.size ≤ i ∧ i < wx.heap.size) A' n' c' (if sB then Bra.all p.n p.self 3 o k bs else []) ∧
          Blk wx sb 79 #[.bool ct.echoed, .bool (ct.readied || sB), .bool ct.delivered, .map (some eb), .map (some rb)] ∧ Fr (fun i => i = sb) w7 wx)
        case first =>
          cases hsv : sB
          · rw [hsv] at hsBd
            subst hsv
            go_wp2_with fail
            go_meet
            case rel => exact ⟨none, 0, 0, rfl, ⟨[], Row.nil _ _ _, rfl⟩, by rw [Bool.or_false]; exact hB7.out, Fr.refl _ _⟩
          · subst hsv
            have fz := hB7.out.frozen 1
            have hrd : ct.readied = false := by have := hsBd.out; cases h : ct.readied; rfl; rw [h] at this; simp at this
            go_upto_region 26 with fail
            obtain ⟨w8, hw8⟩ : ∃ w8, w7.setCell ⟨sb, 1, none⟩ (.bool true) = w8 := ⟨_, rfl⟩
            have hB8 := hB7.out.set_ 1 (.bool true)
            have f78 : Fr (fun i => i = sb) w7 (w7.setCell ⟨sb, 1, none⟩ (.bool true)) := (Fr.refl (fun i => i = sb) w7).setCell (p := ⟨sb, 1, none⟩) (.inl rfl) _
            rw [hw8] at hB8 f78
            rw [hw8]
            have hBk8 := hBk7.out.fr f78 hBs.out
            have z5 : w8.cell? ⟨w.heap.size, 5, none⟩ = some (.slice A n c) := (f78.cell (p := ⟨w.heap.size, 5, none⟩) hX7.out hXs.out).trans k57.out
            have g80 : w8.cell? ⟨G, 0, none⟩ = some (.int .i64 p.n) := (f78.cell (p := ⟨G, 0, none⟩) hG7.out hGs.out).trans g70.out
            have g81 : w8.cell? ⟨G, 1, none⟩ = some (.int .i64 p.self) := (f78.cell (p := ⟨G, 1, none⟩) hG7.out hGs.out).trans g71.out
            have hR8 := Lib.hid (hR7.out.fr f78 (fun i hi e => by rw [e, a1d.out] at hi; cases hi))
            have f78d := Lib.hid f78
            have hB8d := Lib.hid hB8
            have hrdd := Lib.hid hrd
            clear hw8 f78 hB8 fz z1 hrd
            go_wp2_with ((with_reducible refine wpl_load_part rfl 73 (.tmp 5) rfl w2.heap.size 0 ?_ 73 _ hBk8 #[.int .i64 o, .int .i64 k] rfl _ Try.underlying73 rfl (by kernel_rfl) ?_); rfl)
            refine (all_any g80 g81 n64.out (hR8.out.mono (fun _ _ _ => trivial)) hF.out 3 o k).mono ?_
            rintro e w9 ⟨A', c', rfl, hr9, hb9⟩
            have f89 : Fr (fun _ => False) w8 w9 := Fr.of_below hb9
            have f79 := f78d.out.trans f89 (fun _ h => h.elim)
            have hB9 : Blk w9 sb 79 #[.bool ct.echoed, .bool (ct.readied || true), .bool ct.delivered, .map (some eb), .map (some rb)] := by
              rw [Bool.or_true]
              exact hB8d.out.fr f89 (fun h => h)
            go_wp2_with fail
            go_meet
            case rel => exact ⟨A', p.n, c', rfl, hr9.mono (fun i hi h => ⟨Nat.le_trans f78d.out.size h, hi⟩), hB9, f79⟩
        case rest =>
          obtain ⟨A', n', c', hs9, hr9, hB9, f9⟩ := hcut
          subst hs9
          obtain ⟨w9, rfl⟩ : ∃ x, x = wc := ⟨_, rfl⟩
          have hr9d := Lib.hid hr9
          have hB9d := Lib.hid hB9
          have f59 : Hid (Fr (fun i => i = rb ∨ i = sb) w5 w9) := (fc7.out.mono (F := fun i => i = rb ∨ i = sb) (fun _ h => .inl (.inl h))).trans f9 (fun _ h => .inl (.inr h))
          have m9 := Lib.hid (m7.out.fr f9 hRS.out)
          have v9 := Lib.hid (v7.out.fr f9 (fun i hi e => by rw [e, hLad.out _ (by rw [a1d.out]; simp), a1d.out] at hi; cases hi))
          have nEG : ¬ (G = rb ∨ G = sb) := fun h => h.elim hGE.out hGs.out
          have nEX : ¬ (w.heap.size = rb ∨ w.heap.size = sb) := fun h => h.elim hXE.out hXs.out
          have nEB : ¬ (w2.heap.size = rb ∨ w2.heap.size = sb) := fun h => h.elim hBE.out hBs.out
          have hG9 : Hid (Blk w9 G 69 #[.int .i64 p.n, .int .i64 p.self, .int .i64 (Bra.faults p.n), .int .i64 p.own, .map (some M), .slice Ad nd cd]) := hId.out.blk.fr f59.out nEG
          have hX9 := Lib.hid (hXd.out.fr f59.out nEX)
          have hBk9 := Lib.hid (hBd.out.fr f59.out nEB)
          have hR9 := Lib.hid (hRc.out.fr f59.out (fun i hi e => by rcases e with e | e; · rw [e, a6d.out] at hi; cases hi
                                                                    · rw [e, a1d.out] at hi; cases hi))
          have h79 : Hid (w7.heap.size ≤ w9.heap.size) := f9.size
          have h57 : Hid (w5.heap.size ≤ w7.heap.size) := fc7.out.size
          have zf9 : w9.cell? ⟨G, 2, none⟩ = some (.int .i64 fl) := (hG9.out.cell 2).trans (by rw [← hfl]; rfl)
          have z2 : w9.cell? ⟨sb, 2, none⟩ = some (.bool ct.delivered) := (hB9.cell 2).trans rfl
          clear hr9 hB9 f9 zf z1 nEG nEX nEB fc7 m7 v7 hB7 g70 g71 k57 hBk7 hR7 hX7 hG7
          rcases Nat.lt_or_ge cn (2 * fl + 1) with h | h
          · have hx : ¬ 2 * (fl : Int) + 1 ≤ (cn : Int) := by omega
            have hxd : decide (2 * (fl : Int) + 1 ≤ (cn : Int)) = false := decide_eq_false hx
            have hxn : decide (2 * fl + 1 ≤ cn) = false := decide_eq_false (by omega)
            rw [hxn] at hrecv
            go_wp2_with fail
            go_ret
            have hr := hrecv.out
            simp only [Bool.false_and, Bool.or_false, Bool.false_eq_true, if_false] at hr
            rw [hr]
            refine ⟨L2, A', n', c', rfl, (hId.out.cast (c' := { ct with readies := ct.readies ++ [(src, bs)], readied := ct.readied || sB, delivered := ct.delivered }) (sb := sb) (j := Bra.at_ p.casts o k) (F := fun i => i = rb ∨ i = sb) (by show lm1[_]? = some (idv ct.origin ct.number, _); rw [hck'.out.1, hck'.out.2]; exact hld.out) f59.out hFl.out hLad.out (fun i hi => Nat.lt_of_lt_of_le (hLcd.out i hi) (Nat.le_trans h67.out h79.out))
              ⟨eb, rb, le, _, by rw [hLad.out _ (by rw [a1d.out]; simp), a1d.out], hB9d.out, by rw [hLad.out _ (by rw [a3d.out]; simp), a3d.out], a4d.out.fr f59.out (fun h => h.elim hEE.out hES.out), (a5d.out.fr f59.out hFb.out).mono (fun i _ h => by rw [hLad.out i (by rw [h]; simp), h]),
                by rw [hLad.out _ (by rw [a6d.out]; simp), a6d.out], m9.out, v9.out⟩).at_, hr9d.out.mono (fun i _ h => ⟨?_, ?_⟩), hL2.out, hf1d.out.trans f59.out fB.out⟩
            · have h1 := h.1; have h2 := hf1d.out.size; have h3 := h57.out; omega
            · refine Classical.byContradiction (fun hx => ?_)
              have h1 := hLcd.out i hx; have h2 := h.1; have h3 := h67.out
              omega
          · have hx : 2 * (fl : Int) + 1 ≤ (cn : Int) := by omega
            have hxd : decide (2 * (fl : Int) + 1 ≤ (cn : Int)) = true := decide_eq_true hx
            have hxn : decide (2 * fl + 1 ≤ cn) = true := decide_eq_true h
            rw [hxn] at hrecv
            cases hdl : ct.delivered
            · rw [hdl] at z2
              have fz := hB9d.out.frozen 2
              go_upto_region 29 with fail
              obtain ⟨w10, hw10⟩ : ∃ w10, w9.setCell ⟨sb, 2, none⟩ (.bool true) = w10 := ⟨_, rfl⟩
              have hB10 := hB9d.out.set_ 2 (.bool true)
              have f10 : Fr (fun i => i = sb) w9 (w9.setCell ⟨sb, 2, none⟩ (.bool true)) := (Fr.refl (fun i => i = sb) w9).setCell (p := ⟨sb, 2, none⟩) (.inl rfl) _
              rw [hw10] at hB10 f10
              rw [hw10]
              have f510 : Hid (Fr (fun i => i = rb ∨ i = sb) w5 w10) := f59.out.trans f10 (fun _ h => .inl (.inr h))
              have hI10 : Hid (ProcIn w10 L2 G { p with casts := (Bra.ensure p.casts o k).set (Bra.at_ p.casts o k) { ct with readies := ct.readies ++ [(src, bs)], readied := ct.readied || sB, delivered := true } } M Ad nd cd lm1 vs) :=
                (hId.out.cast (c' := { ct with readies := ct.readies ++ [(src, bs)], readied := ct.readied || sB, delivered := true }) (sb := sb) (j := Bra.at_ p.casts o k) (F := fun i => i = rb ∨ i = sb) (by show lm1[_]? = some (idv ct.origin ct.number, _); rw [hck'.out.1, hck'.out.2]; exact hld.out) f510.out hFl.out hLad.out (fun i hi => Nat.lt_of_lt_of_le (hLcd.out i hi) (Nat.le_trans h67.out (Nat.le_trans h79.out f10.size)))
                ⟨eb, rb, le, _, by rw [hLad.out _ (by rw [a1d.out]; simp), a1d.out], hB10, by rw [hLad.out _ (by rw [a3d.out]; simp), a3d.out], a4d.out.fr f510.out (fun h => h.elim hEE.out hES.out), (a5d.out.fr f510.out hFb.out).mono (fun i _ h => by rw [hLad.out i (by rw [h]; simp), h]),
                  by rw [hLad.out _ (by rw [a6d.out]; simp), a6d.out], (m9.out.fr f10 hRS.out), (v9.out.fr f10 (fun i hi e => by rw [e, hLad.out _ (by rw [a1d.out]; simp), a1d.out] at hi; cases hi))⟩)
              have hX10 := hX9.out.fr f10 hXs.out
              have hBk10 := hBk9.out.fr f10 hBs.out
              have hR10 : Hid (Rd w10.drew (fun i => L1 i = .no) A n c bs) := (hR9.out.fr f10 (fun i hi e => by rw [e, a1d.out] at hi; cases hi)).fr (Fr.refl (fun _ => False) w10).drew (fun _ _ h => h)
              obtain ⟨V, hV⟩ : ∃ V, (Value.slice Ad nd cd).ownBlock = V := ⟨_, rfl⟩
              have hVd := Lib.hid hV
              have hVG : Hid (V ≠ some G) := fun e => by have h1 := hI10.out.labR G (by rw [hV, e]); rw [hI10.out.lab] at h1; cases h1
              have hVB : Hid (¬ (V = some w2.heap.size ∨ w2.heap.size = G)) := fun e => by
                rcases e with e | e
                · have h1 := hI10.out.labR _ (by rw [hV, e])
                  have h2 := hLdd.out _ hBd.out.lt
                  rw [hLBd.out] at h2
                  rw [h2] at h1; cases h1
                · have h1 := hLBd.out; rw [e, hId.out.lab] at h1; cases h1
              have hVX : Hid (¬ (V = some w.heap.size ∨ w.heap.size = G)) := fun e => by
                rcases e with e | e
                · have h1 := hI10.out.labR _ (by rw [hV, e])
                  have h2 := hLdd.out _ hXd.out.lt
                  rw [hLXd.out] at h2
                  rw [h2] at h1; cases h1
                · have h1 := hLXd.out; rw [e, hId.out.lab] at h1; cases h1
              have gd : w10.drew.cell? ⟨G, 5, none⟩ = some (.slice Ad nd cd) := (hI10.out.blk.cell 5).trans rfl
              have b0 : ∀ w', Fr (fun i => V = some i ∨ i = G) w10.drew w' → w'.cell? ⟨w2.heap.size, 0, none⟩ = some (.int .i64 o) := fun w' h => (h.cell (p := ⟨w2.heap.size, 0, none⟩) hBk10.lt hVB.out).trans ((hBk10.cell 0).trans rfl)
              have b1 : ∀ w', Fr (fun i => V = some i ∨ i = G) w10.drew w' → w'.cell? ⟨w2.heap.size, 1, none⟩ = some (.int .i64 k) := fun w' h => (h.cell (p := ⟨w2.heap.size, 1, none⟩) hBk10.lt hVB.out).trans ((hBk10.cell 1).trans rfl)
              have z5 : ∀ w', Fr (fun i => V = some i ∨ i = G) w10.drew w' → w'.cell? ⟨w.heap.size, 5, none⟩ = some (.slice A n c) := fun w' h => (h.cell (p := ⟨w.heap.size, 5, none⟩) hX10.lt hVX.out).trans ((hX10.cell 5).trans rfl)
              have h910 : Hid (w9.heap.size = w10.heap.size) := by show _ = _; rw [← hw10, size_setCell]
              have fd : Hid (Fr (fun _ => False) w10 w10.drew) := (Fr.refl _ w10).drew
              have f10d := Lib.hid f10
              have hsd : Hid (w10.drew.heap.size = w10.heap.size) := rfl
              have hndl : nd ≤ 1000000 := by have h1 := hI10.out.ndLen; have h2 := hI10.out.few; rw [h1]; exact h2
              clear hw10 hB10 f10 hX10 hBk10 fz z2 zf9 hV
              refine wp_region_sch (Fr (fun i => V = some i ∨ i = G)) (Fr.refl _) (fr_tr _) (.two [0, 1, 2, 3, 5, 6, 7, 8, 9, 10] 4 (.one [] 11 (.one [] 12 (.one [] 13 (.one [] 14 (.one [15, 16] 17 (.last [])))))) 11 (.two [] 4 (.one [] 12 (.one [] 13 (.one [] 14 (.one [15, 16] 17 (.last []))))) 12 (.two [] 4 (.one [] 13 (.one [] 14 (.one [15, 16] 17 (.last [])))) 13 (.one [] 4 (.one [] 14 (.one [15, 16] 17 (.last []))))))) (by kernel_rfl) (by kernel_rfl) (fun _ _ _ _ _ h => h) ?_
              simp only [wpSch, ordPick, Option.toList_some, List.cons_append, List.nil_append, List.getElem?_cons_succ, List.getElem?_cons_zero]
              generalize w10.drew = w11 at gd b0 b1 z5 hR10 fd hsd ⊢
              iterate 5 (go_big_quiet_step (exact fun _ => rfl))
              refine wpq_load_one rfl 3 (.tmp 203) rfl ⟨w2.heap.size, 0, none⟩ rfl _ b0 _ Try.underlying3 rfl ?_
              simp only [Act.put, List.setIfInBounds_toArray, List.set_cons_succ, List.set_cons_zero]
              iterate 1 (go_big_quiet_step (exact fun _ => rfl))
              refine wpq_load_one rfl 3 (.tmp 205) rfl ⟨w2.heap.size, 1, none⟩ rfl _ b1 _ Try.underlying3 rfl ?_
              simp only [Act.put, List.setIfInBounds_toArray, List.set_cons_succ, List.set_cons_zero]
              iterate 1 (go_big_quiet_step (exact fun _ => rfl))
              refine wpq_load_one rfl 33 (.tmp 207) rfl ⟨w.heap.size, 5, none⟩ rfl _ z5 _ Try.underlying33 rfl ?_
              simp only [Act.put, List.setIfInBounds_toArray, List.set_cons_succ, List.set_cons_zero]
              refine wpQuiet_nil ?_
              clear b0 b1 z5
              refine ⟨?sA, ?sB⟩
              case sA =>
                go_wp2_with fail
                refine And.intro (Fr.refl _ _) (wpQuiet_nil ?_)
                go_wp2_with fail
                refine (clone_any hR10.out hF.out).mono ?_
                rintro e w12 ⟨sv, rfl, hsv, hb12⟩
                have f12R : Fr (fun i => V = some i ∨ i = G) w11 w12 := Fr.of_below hb12
                have gd12 : w12.cell? ⟨G, 5, none⟩ = some (.slice Ad nd cd) := (hb12.cell (p := ⟨G, 5, none⟩) (World.block_lt_of_cell? w11 _ gd)).trans gd
                obtain ⟨As, ns, cs, hsv', hrs⟩ := hsv
                subst hsv'
                go_wp2_with fail
                refine And.intro f12R (wpQuiet_nil ?_)
                have f1012 : Hid (Fr (fun _ => False) w10 w12) := fd.out.trans (Fr.of_below (F := fun _ => False) hb12) (fun _ h => h.elim)
                have hs12 : Hid (w11.heap.size ≤ w12.heap.size) := hb12.size
                have o12 := own_alc (own_fr hI10.out.row f1012.out (fun _ _ h => h)) (.cells #[.int .i64 o, .int .i64 k, .slice As ns cs] 56)
                have r12 := Row.new (n := 1) (sz := 3) w12 56 #[.int .i64 o, .int .i64 k, .slice As ns cs] _ rfl rfl (by decide)
                have f13 : Fr (fun i => V = some i ∨ i = G) w12 (w12.alloc (.cells #[.int .i64 o, .int .i64 k, .slice As ns cs] 56)) := (Fr.refl _ w12).alloc _
                have gd13 : (w12.alloc (.cells #[.int .i64 o, .int .i64 k, .slice As ns cs] 56)).cell? ⟨G, 5, none⟩ = some (.slice Ad nd cd) := ((((Fr.refl (fun _ => False) w12).alloc (.cells #[.int .i64 o, .int .i64 k, .slice As ns cs] 56))).cell (p := ⟨G, 5, none⟩) (World.block_lt_of_cell? w12 _ gd12) (fun h => h)).trans gd12
                have hrs12 := Lib.hid hrs
                clear hb12 hrs f12R
                go_wp2_with fail
                refine And.intro (Fr.refl _ _) (wpQuiet_nil ?_)
                go_wp2_with fail
                refine And.intro f13 (wpQuiet_nil ?_)
                clear gd gd12 gd13
                go_wp2_with (at_builtin; refine wpl_app rfl (.tmp 202) (.tmp 211) 30 rfl 0 56 _ 3 40 Try.underlying30 infoDel rfl (by decide) (by decide) _ rfl nd vs o12 _ _ 1 1 rfl _ r12 ?h1 (by omega) (Nat.zero_le _) (nd + 1) rfl ?h2)
                case h1 =>
                  intro u hu
                  simp only [List.mem_cons, List.not_mem_nil, or_false] at hu
                  rcases hu with rfl | rfl | rfl <;> rfl
                case h2 =>
                  intro A13 c13 w13 ho13 hg13 hz13
                  rw [hVd.out] at hg13 hz13
                  have fg : Fr (fun i => V = some i ∨ i = G) (w12.alloc (.cells #[.int .i64 o, .int .i64 k, .slice As ns cs] 56)) w13 := (Fr.refl _ _).grown hg13 (fun g h => .inl (.inl h))
                  have f1013 : Hid (Fr (fun i => V = some i) w10 w13) := (((f1012.out.alloc (.cells #[.int .i64 o, .int .i64 k, .slice As ns cs] 56))).mono (F := fun i => V = some i) (fun _ h => h.elim)).grown hg13 (fun g h => .inl h)
                  have f1213 : Hid (Fr (fun i => V = some i) w12 w13) := ((Fr.refl (fun i => V = some i) w12).alloc (.cells #[.int .i64 o, .int .i64 k, .slice As ns cs] 56)).grown hg13 (fun g h => .inl h)
                  have hG13 := hI10.out.blk.fr f1013.out hVG.out
                  have c5 : w13.cell? ⟨G, 5, none⟩ = some (.slice Ad nd cd) := (hG13.cell 5).trans rfl
                  have fz5 := hG13.frozen 5
                  have hz13' := Lib.hid hz13
                  have ho13' := Lib.hid ho13
                  have hG13' := Lib.hid hG13
                  have hs13 : Hid (w12.heap.size + 1 ≤ w13.heap.size) := by show _ ≤ _; have := hg13.size; rw [size_alloc1] at this; exact this
                  have fst : Fr (fun i => V = some i ∨ i = G) w13 (w13.setCell ⟨G, 5, none⟩ (.slice A13 (nd + 1) c13)) := (Fr.refl (fun i => V = some i ∨ i = G) w13).setCell (p := ⟨G, 5, none⟩) (.inl (.inr rfl)) _
                  clear hg13 hz13 ho13 o12 r12 f13 hG13
                  go_wp2_with fail
                  refine And.intro fg ?_
                  clear fg
                  dsimp only
                  iterate 2 (go_big_quiet_step (exact fun _ => rfl))
                  refine wpQuiet_nil ?_
                  go_wp2_with fail
                  refine And.intro fst (wpQuiet_nil ?_)
                  clear fst
                  go_wp2_with fail
                  go_ret
                  have hr := hrecv.out
                  simp only [hdl, Bool.false_or, Bool.true_and, Bool.not_false, if_true] at hr
                  rw [hr]
                  obtain ⟨w14, hw14⟩ : ∃ w14, w13.setCell ⟨G, 5, none⟩ (.slice A13 (nd + 1) c13) = w14 := ⟨_, rfl⟩
                  have f1314 : Fr (fun i => i = G) w13 (w13.setCell ⟨G, 5, none⟩ (.slice A13 (nd + 1) c13)) := (Fr.refl (fun i => i = G) w13).setCell (p := ⟨G, 5, none⟩) (.inl rfl) _
                  have hG14 := hG13'.out.set_ 5 (.slice A13 (nd + 1) c13)
                  have hs14 := size_setCell w13 ⟨G, 5, none⟩ (.slice A13 (nd + 1) c13)
                  rw [hw14] at f1314 hG14 hs14
                  rw [hw14]
                  have f1014 : Fr (fun i => V = some i ∨ i = G) w10 w14 := (f1013.out.mono (F := fun i => V = some i ∨ i = G) (fun _ h => .inl (.inl h))).trans f1314 (fun _ h => .inl (.inr h))
                  have f1214 : Fr (fun i => V = some i ∨ i = G) w12 w14 := (f1213.out.mono (F := fun i => V = some i ∨ i = G) (fun _ h => .inl (.inl h))).trans f1314 (fun _ h => .inl (.inr h))
                  have z1011 := hsd.out
                  have z1112 := hs12.out
                  have z1213 := hs13.out
                  have z910 := h910.out
                  have z79 := h79.out
                  have z67 := h67.out
                  have z57 := h57.out
                  have z05 := hf1d.out.size
                  obtain ⟨L3a, hA1, hA2, hA3, hA4⟩ := lab_ext L2 w10.heap.size w12.heap.size hI10.out.labs (by omega)
                  obtain ⟨ob, hobd⟩ : ∃ ob, (Value.slice A13 (nd + 1) c13).ownBlock = ob := ⟨_, rfl⟩
                  have hob : ob = V ∨ ob = some (w12.heap.size + 1) := by
                    have := hz13'.out
                    rw [hobd] at this
                    exact this
                  have hVl : ∀ g, V = some g → L2 g = .dels := fun g e => hI10.out.labR g (by rw [hVd.out, e])
                  have hG2 : L2 G = .proc := hI10.out.lab
                  have hsb2 : L2 sb = .st (Bra.at_ p.casts o k) := by rw [hLad.out _ (by rw [a1d.out]; simp), a1d.out]
                  have hVlt : ∀ g, V = some g → g < w10.heap.size := fun g e => hI10.out.labs g (by rw [hVl g e]; simp)
                  have hGlt : G < w10.heap.size := hI10.out.labs G (by rw [hG2]; simp)
                  have h3 : ∀ i, i < w10.heap.size → (if ob = some i then Lab.dels else L3a i) = L2 i := fun i hi => by
                    by_cases hx : ob = some i
                    · rw [if_pos hx]
                      rcases hob with h1 | h1
                      · exact (hVl i (by rw [← h1, hx])).symm
                      · rw [h1] at hx
                        have : w12.heap.size + 1 = i := by simpa using hx
                        omega
                    · rw [if_neg hx, hA4 i hi]
                  have hno : ∀ i, w10.heap.size ≤ i → i < w12.heap.size → ob ≠ some i := fun i h1 h2 e => by
                    rcases hob with h3 | h3
                    · have := hVlt i (by rw [← h3, e]); omega
                    · rw [h3] at e
                      have : w12.heap.size + 1 = i := by simpa using e
                      omega
                  have S6 : ∀ i, w7.heap.size ≤ i → L2 i = .no := fun i hi => Classical.byContradiction (fun hx => by have := hLcd.out i hx; omega)
                  have f914 : Fr (fun i => i = sb ∨ V = some i ∨ i = G) w9 w14 := (f10d.out.mono (F := fun i => i = sb ∨ V = some i ∨ i = G) (fun _ h => .inl (.inl h))).trans f1014 (fun _ h => .inl (.inr h))
                  have f514 : Fr (fun i => L1 i ≠ .no) w5 w14 := (f510.out.mono (F := fun i => L1 i ≠ .no) (fun i h => .inl (by
                      rcases h with e | e
                      · rw [e, a6d.out]; simp
                      · rw [e, a1d.out]; simp))).trans f1014 (fun i h => by
                    rcases h with e | e
                    · rcases Nat.lt_or_ge i w5.heap.size with hl | hl
                      · refine .inl ?_
                        rw [← hLdd.out i hl, hVl i e]; simp
                      · exact .inr hl
                    · refine .inl ?_
                      rw [e, hId.out.lab]; simp)
                  refine ⟨fun i => if ob = some i then Lab.dels else L3a i, A', n', c', rfl, (hI10.out.deliver (F := fun i => V = some i ∨ i = G) (d := ⟨o, k, bs⟩) (s := .slice As ns cs) f1014 (fun i h => ?_) (fun i hi => h3 i (hI10.out.labs i hi)) (fun i hi => ?_) hG14 (own_fr ho13'.out f1314 (fun g e h => ?_)) (fun g e => ?_) ?_ hF.out hdn).at_, ?_, fun i hi => ?_, hf1d.out.trans f514 (fun i h => ?_)⟩
                  · exact h.elim (fun e => .inr (.inl (hVl i e))) (fun e => .inr (.inr e))
                  · by_cases hx : ob = some i
                    · have := (own_lt ho13'.out i (by rw [hobd, hx])).2
                      omega
                    · try dsimp only at hi
                      rw [if_neg hx] at hi
                      have := hA3 i hi
                      omega
                  · rw [hobd] at e
                    rcases hob with h1 | h1
                    · exact hVG.out (by rw [← h1, e, h])
                    · rw [h1] at e
                      have : w12.heap.size + 1 = g := by simpa using e
                      omega
                  · try dsimp only
                    rw [if_pos (by rw [← hobd]; exact e)]
                  · have h1 := (hrs12.out.mono (T := fun i => w11.heap.size ≤ i ∧ i < w12.heap.size) (fun i hi h => ⟨h, hi⟩)).fr f1214 (fun i hi e => by
                      rcases e with e | e
                      · have := hVlt i e; omega
                      · omega)
                    refine ⟨As, ns, cs, rfl, h1.mono (fun i _ h => ?_)⟩
                    try dsimp only
                    rw [if_neg (hno i (by omega) h.2), hA2 i (by omega) h.2]
                  · refine (hr9d.out.fr f914 (fun i hi e => ?_)).mono (fun i _ h => ⟨by omega, ?_⟩)
                    · have h2 := S6 i hi.1
                      rcases e with e | e | e
                      · rw [e, hsb2] at h2; cases h2
                      · rw [hVl i e] at h2; cases h2
                      · rw [e, hG2] at h2; cases h2
                    · try dsimp only
                      rw [h3 i (by omega), S6 i h.1]
                  · try dsimp only
                    rw [h3 i (by omega), hL2.out i hi]
                  · rcases Nat.lt_or_ge i w.heap.size with hl | hl
                    · refine .inl ?_
                      rw [← hL1d.out i hl]
                      exact h
                    · exact .inr hl
              case sB =>
                go_wp2_with fail
                refine (clone_any hR10.out hF.out).mono ?_
                rintro e w12 ⟨sv, rfl, hsv, hb12⟩
                have f12R : Fr (fun i => V = some i ∨ i = G) w11 w12 := Fr.of_below hb12
                have gd12 : w12.cell? ⟨G, 5, none⟩ = some (.slice Ad nd cd) := (hb12.cell (p := ⟨G, 5, none⟩) (World.block_lt_of_cell? w11 _ gd)).trans gd
                obtain ⟨As, ns, cs, hsv', hrs⟩ := hsv
                subst hsv'
                go_wp2_with fail
                refine And.intro f12R (wpQuiet_nil ?_)
                refine ⟨?sC, ?sD⟩
                case sC =>
                  go_wp2_with fail
                  refine And.intro (Fr.refl _ _) (wpQuiet_nil ?_)
                  have f1012 : Hid (Fr (fun _ => False) w10 w12) := fd.out.trans (Fr.of_below (F := fun _ => False) hb12) (fun _ h => h.elim)
                  have hs12 : Hid (w11.heap.size ≤ w12.heap.size) := hb12.size
                  have o12 := own_alc (own_fr hI10.out.row f1012.out (fun _ _ h => h)) (.cells #[.int .i64 o, .int .i64 k, .slice As ns cs] 56)
                  have r12 := Row.new (n := 1) (sz := 3) w12 56 #[.int .i64 o, .int .i64 k, .slice As ns cs] _ rfl rfl (by decide)
                  have f13 : Fr (fun i => V = some i ∨ i = G) w12 (w12.alloc (.cells #[.int .i64 o, .int .i64 k, .slice As ns cs] 56)) := (Fr.refl _ w12).alloc _
                  have gd13 : (w12.alloc (.cells #[.int .i64 o, .int .i64 k, .slice As ns cs] 56)).cell? ⟨G, 5, none⟩ = some (.slice Ad nd cd) := ((((Fr.refl (fun _ => False) w12).alloc (.cells #[.int .i64 o, .int .i64 k, .slice As ns cs] 56))).cell (p := ⟨G, 5, none⟩) (World.block_lt_of_cell? w12 _ gd12) (fun h => h)).trans gd12
                  have hrs12 := Lib.hid hrs
                  clear hb12 hrs f12R
                  go_wp2_with fail
                  refine And.intro (Fr.refl _ _) (wpQuiet_nil ?_)
                  go_wp2_with fail
                  refine And.intro f13 (wpQuiet_nil ?_)
                  clear gd gd12 gd13
                  go_wp2_with (at_builtin; refine wpl_app rfl (.tmp 202) (.tmp 211) 30 rfl 0 56 _ 3 40 Try.underlying30 infoDel rfl (by decide) (by decide) _ rfl nd vs o12 _ _ 1 1 rfl _ r12 ?h1 (by omega) (Nat.zero_le _) (nd + 1) rfl ?h2)
                  case h1 =>
                    intro u hu
                    simp only [List.mem_cons, List.not_mem_nil, or_false] at hu
                    rcases hu with rfl | rfl | rfl <;> rfl
                  case h2 =>
                    intro A13 c13 w13 ho13 hg13 hz13
                    rw [hVd.out] at hg13 hz13
                    have fg : Fr (fun i => V = some i ∨ i = G) (w12.alloc (.cells #[.int .i64 o, .int .i64 k, .slice As ns cs] 56)) w13 := (Fr.refl _ _).grown hg13 (fun g h => .inl (.inl h))
                    have f1013 : Hid (Fr (fun i => V = some i) w10 w13) := (((f1012.out.alloc (.cells #[.int .i64 o, .int .i64 k, .slice As ns cs] 56))).mono (F := fun i => V = some i) (fun _ h => h.elim)).grown hg13 (fun g h => .inl h)
                    have f1213 : Hid (Fr (fun i => V = some i) w12 w13) := ((Fr.refl (fun i => V = some i) w12).alloc (.cells #[.int .i64 o, .int .i64 k, .slice As ns cs] 56)).grown hg13 (fun g h => .inl h)
                    have hG13 := hI10.out.blk.fr f1013.out hVG.out
                    have c5 : w13.cell? ⟨G, 5, none⟩ = some (.slice Ad nd cd) := (hG13.cell 5).trans rfl
                    have fz5 := hG13.frozen 5
                    have hz13' := Lib.hid hz13
                    have ho13' := Lib.hid ho13
                    have hG13' := Lib.hid hG13
                    have hs13 : Hid (w12.heap.size + 1 ≤ w13.heap.size) := by show _ ≤ _; have := hg13.size; rw [size_alloc1] at this; exact this
                    have fst : Fr (fun i => V = some i ∨ i = G) w13 (w13.setCell ⟨G, 5, none⟩ (.slice A13 (nd + 1) c13)) := (Fr.refl (fun i => V = some i ∨ i = G) w13).setCell (p := ⟨G, 5, none⟩) (.inl (.inr rfl)) _
                    clear hg13 hz13 ho13 o12 r12 f13 hG13
                    go_wp2_with fail
                    refine And.intro fg ?_
                    clear fg
                    dsimp only
                    iterate 2 (go_big_quiet_step (exact fun _ => rfl))
                    refine wpQuiet_nil ?_
                    go_wp2_with fail
                    refine And.intro fst (wpQuiet_nil ?_)
                    clear fst
                    go_wp2_with fail
                    go_ret
                    have hr := hrecv.out
                    simp only [hdl, Bool.false_or, Bool.true_and, Bool.not_false, if_true] at hr
                    rw [hr]
                    obtain ⟨w14, hw14⟩ : ∃ w14, w13.setCell ⟨G, 5, none⟩ (.slice A13 (nd + 1) c13) = w14 := ⟨_, rfl⟩
                    have f1314 : Fr (fun i => i = G) w13 (w13.setCell ⟨G, 5, none⟩ (.slice A13 (nd + 1) c13)) := (Fr.refl (fun i => i = G) w13).setCell (p := ⟨G, 5, none⟩) (.inl rfl) _
                    have hG14 := hG13'.out.set_ 5 (.slice A13 (nd + 1) c13)
                    have hs14 := size_setCell w13 ⟨G, 5, none⟩ (.slice A13 (nd + 1) c13)
                    rw [hw14] at f1314 hG14 hs14
                    rw [hw14]
                    have f1014 : Fr (fun i => V = some i ∨ i = G) w10 w14 := (f1013.out.mono (F := fun i => V = some i ∨ i = G) (fun _ h => .inl (.inl h))).trans f1314 (fun _ h => .inl (.inr h))
                    have f1214 : Fr (fun i => V = some i ∨ i = G) w12 w14 := (f1213.out.mono (F := fun i => V = some i ∨ i = G) (fun _ h => .inl (.inl h))).trans f1314 (fun _ h => .inl (.inr h))
                    have z1011 := hsd.out
                    have z1112 := hs12.out
                    have z1213 := hs13.out
                    have z910 := h910.out
                    have z79 := h79.out
                    have z67 := h67.out
                    have z57 := h57.out
                    have z05 := hf1d.out.size
                    obtain ⟨L3a, hA1, hA2, hA3, hA4⟩ := lab_ext L2 w10.heap.size w12.heap.size hI10.out.labs (by omega)
                    obtain ⟨ob, hobd⟩ : ∃ ob, (Value.slice A13 (nd + 1) c13).ownBlock = ob := ⟨_, rfl⟩
                    have hob : ob = V ∨ ob = some (w12.heap.size + 1) := by
                      have := hz13'.out
                      rw [hobd] at this
                      exact this
                    have hVl : ∀ g, V = some g → L2 g = .dels := fun g e => hI10.out.labR g (by rw [hVd.out, e])
                    have hG2 : L2 G = .proc := hI10.out.lab
                    have hsb2 : L2 sb = .st (Bra.at_ p.casts o k) := by rw [hLad.out _ (by rw [a1d.out]; simp), a1d.out]
                    have hVlt : ∀ g, V = some g → g < w10.heap.size := fun g e => hI10.out.labs g (by rw [hVl g e]; simp)
                    have hGlt : G < w10.heap.size := hI10.out.labs G (by rw [hG2]; simp)
                    have h3 : ∀ i, i < w10.heap.size → (if ob = some i then Lab.dels else L3a i) = L2 i := fun i hi => by
                      by_cases hx : ob = some i
                      · rw [if_pos hx]
                        rcases hob with h1 | h1
                        · exact (hVl i (by rw [← h1, hx])).symm
                        · rw [h1] at hx
                          have : w12.heap.size + 1 = i := by simpa using hx
                          omega
                      · rw [if_neg hx, hA4 i hi]
                    have hno : ∀ i, w10.heap.size ≤ i → i < w12.heap.size → ob ≠ some i := fun i h1 h2 e => by
                      rcases hob with h3 | h3
                      · have := hVlt i (by rw [← h3, e]); omega
                      · rw [h3] at e
                        have : w12.heap.size + 1 = i := by simpa using e
                        omega
                    have S6 : ∀ i, w7.heap.size ≤ i → L2 i = .no := fun i hi => Classical.byContradiction (fun hx => by have := hLcd.out i hx; omega)
                    have f914 : Fr (fun i => i = sb ∨ V = some i ∨ i = G) w9 w14 := (f10d.out.mono (F := fun i => i = sb ∨ V = some i ∨ i = G) (fun _ h => .inl (.inl h))).trans f1014 (fun _ h => .inl (.inr h))
                    have f514 : Fr (fun i => L1 i ≠ .no) w5 w14 := (f510.out.mono (F := fun i => L1 i ≠ .no) (fun i h => .inl (by
                        rcases h with e | e
                        · rw [e, a6d.out]; simp
                        · rw [e, a1d.out]; simp))).trans f1014 (fun i h => by
                      rcases h with e | e
                      · rcases Nat.lt_or_ge i w5.heap.size with hl | hl
                        · refine .inl ?_
                          rw [← hLdd.out i hl, hVl i e]; simp
                        · exact .inr hl
                      · refine .inl ?_
                        rw [e, hId.out.lab]; simp)
                    refine ⟨fun i => if ob = some i then Lab.dels else L3a i, A', n', c', rfl, (hI10.out.deliver (F := fun i => V = some i ∨ i = G) (d := ⟨o, k, bs⟩) (s := .slice As ns cs) f1014 (fun i h => ?_) (fun i hi => h3 i (hI10.out.labs i hi)) (fun i hi => ?_) hG14 (own_fr ho13'.out f1314 (fun g e h => ?_)) (fun g e => ?_) ?_ hF.out hdn).at_, ?_, fun i hi => ?_, hf1d.out.trans f514 (fun i h => ?_)⟩
                    · exact h.elim (fun e => .inr (.inl (hVl i e))) (fun e => .inr (.inr e))
                    · by_cases hx : ob = some i
                      · have := (own_lt ho13'.out i (by rw [hobd, hx])).2
                        omega
                      · try dsimp only at hi
                        rw [if_neg hx] at hi
                        have := hA3 i hi
                        omega
                    · rw [hobd] at e
                      rcases hob with h1 | h1
                      · exact hVG.out (by rw [← h1, e, h])
                      · rw [h1] at e
                        have : w12.heap.size + 1 = g := by simpa using e
                        omega
                    · try dsimp only
                      rw [if_pos (by rw [← hobd]; exact e)]
                    · have h1 := (hrs12.out.mono (T := fun i => w11.heap.size ≤ i ∧ i < w12.heap.size) (fun i hi h => ⟨h, hi⟩)).fr f1214 (fun i hi e => by
                        rcases e with e | e
                        · have := hVlt i e; omega
                        · omega)
                      refine ⟨As, ns, cs, rfl, h1.mono (fun i _ h => ?_)⟩
                      try dsimp only
                      rw [if_neg (hno i (by omega) h.2), hA2 i (by omega) h.2]
                    · refine (hr9d.out.fr f914 (fun i hi e => ?_)).mono (fun i _ h => ⟨by omega, ?_⟩)
                      · have h2 := S6 i hi.1
                        rcases e with e | e | e
                        · rw [e, hsb2] at h2; cases h2
                        · rw [hVl i e] at h2; cases h2
                        · rw [e, hG2] at h2; cases h2
                      · try dsimp only
                        rw [h3 i (by omega), S6 i h.1]
                    · try dsimp only
                      rw [h3 i (by omega), hL2.out i hi]
                    · rcases Nat.lt_or_ge i w.heap.size with hl | hl
                      · refine .inl ?_
                        rw [← hL1d.out i hl]
                        exact h
                      · exact .inr hl
                case sD =>
                  go_wp2_with fail
                  refine And.intro (Fr.refl _ _) (wpQuiet_nil ?_)
                  refine ⟨?sE, ?sF⟩
                  case sE =>
                    go_wp2_with fail
                    refine And.intro (Fr.refl _ _) (wpQuiet_nil ?_)
                    have f1012 : Hid (Fr (fun _ => False) w10 w12) := fd.out.trans (Fr.of_below (F := fun _ => False) hb12) (fun _ h => h.elim)
                    have hs12 : Hid (w11.heap.size ≤ w12.heap.size) := hb12.size
                    have o12 := own_alc (own_fr hI10.out.row f1012.out (fun _ _ h => h)) (.cells #[.int .i64 o, .int .i64 k, .slice As ns cs] 56)
                    have r12 := Row.new (n := 1) (sz := 3) w12 56 #[.int .i64 o, .int .i64 k, .slice As ns cs] _ rfl rfl (by decide)
                    have f13 : Fr (fun i => V = some i ∨ i = G) w12 (w12.alloc (.cells #[.int .i64 o, .int .i64 k, .slice As ns cs] 56)) := (Fr.refl _ w12).alloc _
                    have gd13 : (w12.alloc (.cells #[.int .i64 o, .int .i64 k, .slice As ns cs] 56)).cell? ⟨G, 5, none⟩ = some (.slice Ad nd cd) := ((((Fr.refl (fun _ => False) w12).alloc (.cells #[.int .i64 o, .int .i64 k, .slice As ns cs] 56))).cell (p := ⟨G, 5, none⟩) (World.block_lt_of_cell? w12 _ gd12) (fun h => h)).trans gd12
                    have hrs12 := Lib.hid hrs
                    clear hb12 hrs f12R
                    go_wp2_with fail
                    refine And.intro f13 (wpQuiet_nil ?_)
                    clear gd gd12 gd13
                    go_wp2_with (at_builtin; refine wpl_app rfl (.tmp 202) (.tmp 211) 30 rfl 0 56 _ 3 40 Try.underlying30 infoDel rfl (by decide) (by decide) _ rfl nd vs o12 _ _ 1 1 rfl _ r12 ?h1 (by omega) (Nat.zero_le _) (nd + 1) rfl ?h2)
                    case h1 =>
                      intro u hu
                      simp only [List.mem_cons, List.not_mem_nil, or_false] at hu
                      rcases hu with rfl | rfl | rfl <;> rfl
                    case h2 =>
                      intro A13 c13 w13 ho13 hg13 hz13
                      rw [hVd.out] at hg13 hz13
                      have fg : Fr (fun i => V = some i ∨ i = G) (w12.alloc (.cells #[.int .i64 o, .int .i64 k, .slice As ns cs] 56)) w13 := (Fr.refl _ _).grown hg13 (fun g h => .inl (.inl h))
                      have f1013 : Hid (Fr (fun i => V = some i) w10 w13) := (((f1012.out.alloc (.cells #[.int .i64 o, .int .i64 k, .slice As ns cs] 56))).mono (F := fun i => V = some i) (fun _ h => h.elim)).grown hg13 (fun g h => .inl h)
                      have f1213 : Hid (Fr (fun i => V = some i) w12 w13) := ((Fr.refl (fun i => V = some i) w12).alloc (.cells #[.int .i64 o, .int .i64 k, .slice As ns cs] 56)).grown hg13 (fun g h => .inl h)
                      have hG13 := hI10.out.blk.fr f1013.out hVG.out
                      have c5 : w13.cell? ⟨G, 5, none⟩ = some (.slice Ad nd cd) := (hG13.cell 5).trans rfl
                      have fz5 := hG13.frozen 5
                      have hz13' := Lib.hid hz13
                      have ho13' := Lib.hid ho13
                      have hG13' := Lib.hid hG13
                      have hs13 : Hid (w12.heap.size + 1 ≤ w13.heap.size) := by show _ ≤ _; have := hg13.size; rw [size_alloc1] at this; exact this
                      have fst : Fr (fun i => V = some i ∨ i = G) w13 (w13.setCell ⟨G, 5, none⟩ (.slice A13 (nd + 1) c13)) := (Fr.refl (fun i => V = some i ∨ i = G) w13).setCell (p := ⟨G, 5, none⟩) (.inl (.inr rfl)) _
                      clear hg13 hz13 ho13 o12 r12 f13 hG13
                      go_wp2_with fail
                      refine And.intro fg ?_
                      clear fg
                      dsimp only
                      iterate 2 (go_big_quiet_step (exact fun _ => rfl))
                      refine wpQuiet_nil ?_
                      go_wp2_with fail
                      refine And.intro fst (wpQuiet_nil ?_)
                      clear fst
                      go_wp2_with fail
                      go_ret
                      have hr := hrecv.out
                      simp only [hdl, Bool.false_or, Bool.true_and, Bool.not_false, if_true] at hr
                      rw [hr]
                      obtain ⟨w14, hw14⟩ : ∃ w14, w13.setCell ⟨G, 5, none⟩ (.slice A13 (nd + 1) c13) = w14 := ⟨_, rfl⟩
                      have f1314 : Fr (fun i => i = G) w13 (w13.setCell ⟨G, 5, none⟩ (.slice A13 (nd + 1) c13)) := (Fr.refl (fun i => i = G) w13).setCell (p := ⟨G, 5, none⟩) (.inl rfl) _
                      have hG14 := hG13'.out.set_ 5 (.slice A13 (nd + 1) c13)
                      have hs14 := size_setCell w13 ⟨G, 5, none⟩ (.slice A13 (nd + 1) c13)
                      rw [hw14] at f1314 hG14 hs14
                      rw [hw14]
                      have f1014 : Fr (fun i => V = some i ∨ i = G) w10 w14 := (f1013.out.mono (F := fun i => V = some i ∨ i = G) (fun _ h => .inl (.inl h))).trans f1314 (fun _ h => .inl (.inr h))
                      have f1214 : Fr (fun i => V = some i ∨ i = G) w12 w14 := (f1213.out.mono (F := fun i => V = some i ∨ i = G) (fun _ h => .inl (.inl h))).trans f1314 (fun _ h => .inl (.inr h))
                      have z1011 := hsd.out
                      have z1112 := hs12.out
                      have z1213 := hs13.out
                      have z910 := h910.out
                      have z79 := h79.out
                      have z67 := h67.out
                      have z57 := h57.out
                      have z05 := hf1d.out.size
                      obtain ⟨L3a, hA1, hA2, hA3, hA4⟩ := lab_ext L2 w10.heap.size w12.heap.size hI10.out.labs (by omega)
                      obtain ⟨ob, hobd⟩ : ∃ ob, (Value.slice A13 (nd + 1) c13).ownBlock = ob := ⟨_, rfl⟩
                      have hob : ob = V ∨ ob = some (w12.heap.size + 1) := by
                        have := hz13'.out
                        rw [hobd] at this
                        exact this
                      have hVl : ∀ g, V = some g → L2 g = .dels := fun g e => hI10.out.labR g (by rw [hVd.out, e])
                      have hG2 : L2 G = .proc := hI10.out.lab
                      have hsb2 : L2 sb = .st (Bra.at_ p.casts o k) := by rw [hLad.out _ (by rw [a1d.out]; simp), a1d.out]
                      have hVlt : ∀ g, V = some g → g < w10.heap.size := fun g e => hI10.out.labs g (by rw [hVl g e]; simp)
                      have hGlt : G < w10.heap.size := hI10.out.labs G (by rw [hG2]; simp)
                      have h3 : ∀ i, i < w10.heap.size → (if ob = some i then Lab.dels else L3a i) = L2 i := fun i hi => by
                        by_cases hx : ob = some i
                        · rw [if_pos hx]
                          rcases hob with h1 | h1
                          · exact (hVl i (by rw [← h1, hx])).symm
                          · rw [h1] at hx
                            have : w12.heap.size + 1 = i := by simpa using hx
                            omega
                        · rw [if_neg hx, hA4 i hi]
                      have hno : ∀ i, w10.heap.size ≤ i → i < w12.heap.size → ob ≠ some i := fun i h1 h2 e => by
                        rcases hob with h3 | h3
                        · have := hVlt i (by rw [← h3, e]); omega
                        · rw [h3] at e
                          have : w12.heap.size + 1 = i := by simpa using e
                          omega
                      have S6 : ∀ i, w7.heap.size ≤ i → L2 i = .no := fun i hi => Classical.byContradiction (fun hx => by have := hLcd.out i hx; omega)
                      have f914 : Fr (fun i => i = sb ∨ V = some i ∨ i = G) w9 w14 := (f10d.out.mono (F := fun i => i = sb ∨ V = some i ∨ i = G) (fun _ h => .inl (.inl h))).trans f1014 (fun _ h => .inl (.inr h))
                      have f514 : Fr (fun i => L1 i ≠ .no) w5 w14 := (f510.out.mono (F := fun i => L1 i ≠ .no) (fun i h => .inl (by
                          rcases h with e | e
                          · rw [e, a6d.out]; simp
                          · rw [e, a1d.out]; simp))).trans f1014 (fun i h => by
                        rcases h with e | e
                        · rcases Nat.lt_or_ge i w5.heap.size with hl | hl
                          · refine .inl ?_
                            rw [← hLdd.out i hl, hVl i e]; simp
                          · exact .inr hl
                        · refine .inl ?_
                          rw [e, hId.out.lab]; simp)
                      refine ⟨fun i => if ob = some i then Lab.dels else L3a i, A', n', c', rfl, (hI10.out.deliver (F := fun i => V = some i ∨ i = G) (d := ⟨o, k, bs⟩) (s := .slice As ns cs) f1014 (fun i h => ?_) (fun i hi => h3 i (hI10.out.labs i hi)) (fun i hi => ?_) hG14 (own_fr ho13'.out f1314 (fun g e h => ?_)) (fun g e => ?_) ?_ hF.out hdn).at_, ?_, fun i hi => ?_, hf1d.out.trans f514 (fun i h => ?_)⟩
                      · exact h.elim (fun e => .inr (.inl (hVl i e))) (fun e => .inr (.inr e))
                      · by_cases hx : ob = some i
                        · have := (own_lt ho13'.out i (by rw [hobd, hx])).2
                          omega
                        · try dsimp only at hi
                          rw [if_neg hx] at hi
                          have := hA3 i hi
                          omega
                      · rw [hobd] at e
                        rcases hob with h1 | h1
                        · exact hVG.out (by rw [← h1, e, h])
                        · rw [h1] at e
                          have : w12.heap.size + 1 = g := by simpa using e
                          omega
                      · try dsimp only
                        rw [if_pos (by rw [← hobd]; exact e)]
                      · have h1 := (hrs12.out.mono (T := fun i => w11.heap.size ≤ i ∧ i < w12.heap.size) (fun i hi h => ⟨h, hi⟩)).fr f1214 (fun i hi e => by
                          rcases e with e | e
                          · have := hVlt i e; omega
                          · omega)
                        refine ⟨As, ns, cs, rfl, h1.mono (fun i _ h => ?_)⟩
                        try dsimp only
                        rw [if_neg (hno i (by omega) h.2), hA2 i (by omega) h.2]
                      · refine (hr9d.out.fr f914 (fun i hi e => ?_)).mono (fun i _ h => ⟨by omega, ?_⟩)
                        · have h2 := S6 i hi.1
                          rcases e with e | e | e
                          · rw [e, hsb2] at h2; cases h2
                          · rw [hVl i e] at h2; cases h2
                          · rw [e, hG2] at h2; cases h2
                        · try dsimp only
                          rw [h3 i (by omega), S6 i h.1]
                      · try dsimp only
                        rw [h3 i (by omega), hL2.out i hi]
                      · rcases Nat.lt_or_ge i w.heap.size with hl | hl
                        · refine .inl ?_
                          rw [← hL1d.out i hl]
                          exact h
                        · exact .inr hl
                  case sF =>
                    have f1012 : Hid (Fr (fun _ => False) w10 w12) := fd.out.trans (Fr.of_below (F := fun _ => False) hb12) (fun _ h => h.elim)
                    have hs12 : Hid (w11.heap.size ≤ w12.heap.size) := hb12.size
                    have o12 := own_alc (own_fr hI10.out.row f1012.out (fun _ _ h => h)) (.cells #[.int .i64 o, .int .i64 k, .slice As ns cs] 56)
                    have r12 := Row.new (n := 1) (sz := 3) w12 56 #[.int .i64 o, .int .i64 k, .slice As ns cs] _ rfl rfl (by decide)
                    have f13 : Fr (fun i => V = some i ∨ i = G) w12 (w12.alloc (.cells #[.int .i64 o, .int .i64 k, .slice As ns cs] 56)) := (Fr.refl _ w12).alloc _
                    have gd13 : (w12.alloc (.cells #[.int .i64 o, .int .i64 k, .slice As ns cs] 56)).cell? ⟨G, 5, none⟩ = some (.slice Ad nd cd) := ((((Fr.refl (fun _ => False) w12).alloc (.cells #[.int .i64 o, .int .i64 k, .slice As ns cs] 56))).cell (p := ⟨G, 5, none⟩) (World.block_lt_of_cell? w12 _ gd12) (fun h => h)).trans gd12
                    have hrs12 := Lib.hid hrs
                    clear hb12 hrs f12R
                    go_wp2_with fail
                    refine And.intro f13 (wpQuiet_nil ?_)
                    go_wp2_with fail
                    refine And.intro (Fr.refl _ _) (wpQuiet_nil ?_)
                    clear gd gd12 gd13
                    go_wp2_with (at_builtin; refine wpl_app rfl (.tmp 202) (.tmp 211) 30 rfl 0 56 _ 3 40 Try.underlying30 infoDel rfl (by decide) (by decide) _ rfl nd vs o12 _ _ 1 1 rfl _ r12 ?h1 (by omega) (Nat.zero_le _) (nd + 1) rfl ?h2)
                    case h1 =>
                      intro u hu
                      simp only [List.mem_cons, List.not_mem_nil, or_false] at hu
                      rcases hu with rfl | rfl | rfl <;> rfl
                    case h2 =>
                      intro A13 c13 w13 ho13 hg13 hz13
                      rw [hVd.out] at hg13 hz13
                      have fg : Fr (fun i => V = some i ∨ i = G) (w12.alloc (.cells #[.int .i64 o, .int .i64 k, .slice As ns cs] 56)) w13 := (Fr.refl _ _).grown hg13 (fun g h => .inl (.inl h))
                      have f1013 : Hid (Fr (fun i => V = some i) w10 w13) := (((f1012.out.alloc (.cells #[.int .i64 o, .int .i64 k, .slice As ns cs] 56))).mono (F := fun i => V = some i) (fun _ h => h.elim)).grown hg13 (fun g h => .inl h)
                      have f1213 : Hid (Fr (fun i => V = some i) w12 w13) := ((Fr.refl (fun i => V = some i) w12).alloc (.cells #[.int .i64 o, .int .i64 k, .slice As ns cs] 56)).grown hg13 (fun g h => .inl h)
                      have hG13 := hI10.out.blk.fr f1013.out hVG.out
                      have c5 : w13.cell? ⟨G, 5, none⟩ = some (.slice Ad nd cd) := (hG13.cell 5).trans rfl
                      have fz5 := hG13.frozen 5
                      have hz13' := Lib.hid hz13
                      have ho13' := Lib.hid ho13
                      have hG13' := Lib.hid hG13
                      have hs13 : Hid (w12.heap.size + 1 ≤ w13.heap.size) := by show _ ≤ _; have := hg13.size; rw [size_alloc1] at this; exact this
                      have fst : Fr (fun i => V = some i ∨ i = G) w13 (w13.setCell ⟨G, 5, none⟩ (.slice A13 (nd + 1) c13)) := (Fr.refl (fun i => V = some i ∨ i = G) w13).setCell (p := ⟨G, 5, none⟩) (.inl (.inr rfl)) _
                      clear hg13 hz13 ho13 o12 r12 f13 hG13
                      go_wp2_with fail
                      refine And.intro fg ?_
                      clear fg
                      dsimp only
                      iterate 2 (go_big_quiet_step (exact fun _ => rfl))
                      refine wpQuiet_nil ?_
                      go_wp2_with fail
                      refine And.intro fst (wpQuiet_nil ?_)
                      clear fst
                      go_wp2_with fail
                      go_ret
                      have hr := hrecv.out
                      simp only [hdl, Bool.false_or, Bool.true_and, Bool.not_false, if_true] at hr
                      rw [hr]
                      obtain ⟨w14, hw14⟩ : ∃ w14, w13.setCell ⟨G, 5, none⟩ (.slice A13 (nd + 1) c13) = w14 := ⟨_, rfl⟩
                      have f1314 : Fr (fun i => i = G) w13 (w13.setCell ⟨G, 5, none⟩ (.slice A13 (nd + 1) c13)) := (Fr.refl (fun i => i = G) w13).setCell (p := ⟨G, 5, none⟩) (.inl rfl) _
                      have hG14 := hG13'.out.set_ 5 (.slice A13 (nd + 1) c13)
                      have hs14 := size_setCell w13 ⟨G, 5, none⟩ (.slice A13 (nd + 1) c13)
                      rw [hw14] at f1314 hG14 hs14
                      rw [hw14]
                      have f1014 : Fr (fun i => V = some i ∨ i = G) w10 w14 := (f1013.out.mono (F := fun i => V = some i ∨ i = G) (fun _ h => .inl (.inl h))).trans f1314 (fun _ h => .inl (.inr h))
                      have f1214 : Fr (fun i => V = some i ∨ i = G) w12 w14 := (f1213.out.mono (F := fun i => V = some i ∨ i = G) (fun _ h => .inl (.inl h))).trans f1314 (fun _ h => .inl (.inr h))
                      have z1011 := hsd.out
                      have z1112 := hs12.out
                      have z1213 := hs13.out
                      have z910 := h910.out
                      have z79 := h79.out
                      have z67 := h67.out
                      have z57 := h57.out
                      have z05 := hf1d.out.size
                      obtain ⟨L3a, hA1, hA2, hA3, hA4⟩ := lab_ext L2 w10.heap.size w12.heap.size hI10.out.labs (by omega)
                      obtain ⟨ob, hobd⟩ : ∃ ob, (Value.slice A13 (nd + 1) c13).ownBlock = ob := ⟨_, rfl⟩
                      have hob : ob = V ∨ ob = some (w12.heap.size + 1) := by
                        have := hz13'.out
                        rw [hobd] at this
                        exact this
                      have hVl : ∀ g, V = some g → L2 g = .dels := fun g e => hI10.out.labR g (by rw [hVd.out, e])
                      have hG2 : L2 G = .proc := hI10.out.lab
                      have hsb2 : L2 sb = .st (Bra.at_ p.casts o k) := by rw [hLad.out _ (by rw [a1d.out]; simp), a1d.out]
                      have hVlt : ∀ g, V = some g → g < w10.heap.size := fun g e => hI10.out.labs g (by rw [hVl g e]; simp)
                      have hGlt : G < w10.heap.size := hI10.out.labs G (by rw [hG2]; simp)
                      have h3 : ∀ i, i < w10.heap.size → (if ob = some i then Lab.dels else L3a i) = L2 i := fun i hi => by
                        by_cases hx : ob = some i
                        · rw [if_pos hx]
                          rcases hob with h1 | h1
                          · exact (hVl i (by rw [← h1, hx])).symm
                          · rw [h1] at hx
                            have : w12.heap.size + 1 = i := by simpa using hx
                            omega
                        · rw [if_neg hx, hA4 i hi]
                      have hno : ∀ i, w10.heap.size ≤ i → i < w12.heap.size → ob ≠ some i := fun i h1 h2 e => by
                        rcases hob with h3 | h3
                        · have := hVlt i (by rw [← h3, e]); omega
                        · rw [h3] at e
                          have : w12.heap.size + 1 = i := by simpa using e
                          omega
                      have S6 : ∀ i, w7.heap.size ≤ i → L2 i = .no := fun i hi => Classical.byContradiction (fun hx => by have := hLcd.out i hx; omega)
                      have f914 : Fr (fun i => i = sb ∨ V = some i ∨ i = G) w9 w14 := (f10d.out.mono (F := fun i => i = sb ∨ V = some i ∨ i = G) (fun _ h => .inl (.inl h))).trans f1014 (fun _ h => .inl (.inr h))
                      have f514 : Fr (fun i => L1 i ≠ .no) w5 w14 := (f510.out.mono (F := fun i => L1 i ≠ .no) (fun i h => .inl (by
                          rcases h with e | e
                          · rw [e, a6d.out]; simp
                          · rw [e, a1d.out]; simp))).trans f1014 (fun i h => by
                        rcases h with e | e
                        · rcases Nat.lt_or_ge i w5.heap.size with hl | hl
                          · refine .inl ?_
                            rw [← hLdd.out i hl, hVl i e]; simp
                          · exact .inr hl
                        · refine .inl ?_
                          rw [e, hId.out.lab]; simp)
                      refine ⟨fun i => if ob = some i then Lab.dels else L3a i, A', n', c', rfl, (hI10.out.deliver (F := fun i => V = some i ∨ i = G) (d := ⟨o, k, bs⟩) (s := .slice As ns cs) f1014 (fun i h => ?_) (fun i hi => h3 i (hI10.out.labs i hi)) (fun i hi => ?_) hG14 (own_fr ho13'.out f1314 (fun g e h => ?_)) (fun g e => ?_) ?_ hF.out hdn).at_, ?_, fun i hi => ?_, hf1d.out.trans f514 (fun i h => ?_)⟩
                      · exact h.elim (fun e => .inr (.inl (hVl i e))) (fun e => .inr (.inr e))
                      · by_cases hx : ob = some i
                        · have := (own_lt ho13'.out i (by rw [hobd, hx])).2
                          omega
                        · try dsimp only at hi
                          rw [if_neg hx] at hi
                          have := hA3 i hi
                          omega
                      · rw [hobd] at e
                        rcases hob with h1 | h1
                        · exact hVG.out (by rw [← h1, e, h])
                        · rw [h1] at e
                          have : w12.heap.size + 1 = g := by simpa using e
                          omega
                      · try dsimp only
                        rw [if_pos (by rw [← hobd]; exact e)]
                      · have h1 := (hrs12.out.mono (T := fun i => w11.heap.size ≤ i ∧ i < w12.heap.size) (fun i hi h => ⟨h, hi⟩)).fr f1214 (fun i hi e => by
                          rcases e with e | e
                          · have := hVlt i e; omega
                          · omega)
                        refine ⟨As, ns, cs, rfl, h1.mono (fun i _ h => ?_)⟩
                        try dsimp only
                        rw [if_neg (hno i (by omega) h.2), hA2 i (by omega) h.2]
                      · refine (hr9d.out.fr f914 (fun i hi e => ?_)).mono (fun i _ h => ⟨by omega, ?_⟩)
                        · have h2 := S6 i hi.1
                          rcases e with e | e | e
                          · rw [e, hsb2] at h2; cases h2
                          · rw [hVl i e] at h2; cases h2
                          · rw [e, hG2] at h2; cases h2
                        · try dsimp only
                          rw [h3 i (by omega), S6 i h.1]
                      · try dsimp only
                        rw [h3 i (by omega), hL2.out i hi]
                      · rcases Nat.lt_or_ge i w.heap.size with hl | hl
                        · refine .inl ?_
                          rw [← hL1d.out i hl]
                          exact h
                        · exact .inr hl
            · rw [hdl] at z2
              go_wp2_with fail
              go_ret
              have hr := hrecv.out
              simp only [hdl, Bool.true_or, Bool.not_true, Bool.and_false, Bool.false_eq_true, if_false] at hr
              rw [hr]
              refine ⟨L2, A', n', c', rfl, (hId.out.cast (c' := { ct with readies := ct.readies ++ [(src, bs)], readied := ct.readied || sB, delivered := true }) (sb := sb) (j := Bra.at_ p.casts o k) (F := fun i => i = rb ∨ i = sb) (by show lm1[_]? = some (idv ct.origin ct.number, _); rw [hck'.out.1, hck'.out.2]; exact hld.out) f59.out hFl.out hLad.out (fun i hi => Nat.lt_of_lt_of_le (hLcd.out i hi) (Nat.le_trans h67.out h79.out))
                ⟨eb, rb, le, _, by rw [hLad.out _ (by rw [a1d.out]; simp), a1d.out], by rw [← hdl]; exact hB9d.out, by rw [hLad.out _ (by rw [a3d.out]; simp), a3d.out], a4d.out.fr f59.out (fun h => h.elim hEE.out hES.out), (a5d.out.fr f59.out hFb.out).mono (fun i _ h => by rw [hLad.out i (by rw [h]; simp), h]),
                  by rw [hLad.out _ (by rw [a6d.out]; simp), a6d.out], m9.out, v9.out⟩).at_, hr9d.out.mono (fun i _ h => ⟨?_, ?_⟩), hL2.out, hf1d.out.trans f59.out fB.out⟩
              · have h1 := h.1; have h2 := hf1d.out.size; have h3 := h57.out; omega
              · refine Classical.byContradiction (fun hx => ?_)
                have h1 := hLcd.out i hx; have h2 := h.1; have h3 := h67.out
                omega


end Go.Proofs.Ytplijfgjdlghbaa
