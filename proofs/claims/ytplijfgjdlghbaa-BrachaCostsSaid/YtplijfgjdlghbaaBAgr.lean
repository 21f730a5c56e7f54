/-
  The deliveries of a group fit each other and the broadcasts.
-/
import Derived.Test.YtplijfgjdlghbaaBHas
import Derived.Test.YtplijfgjdlghbaaBRun
import Derived.Test.YtplijfgjdlghbaaBLaw6
namespace Go.Proofs.Ytplijfgjdlghbaa
open Go.RowKit Go.Pl
theorem nodup_at {l : List (Int × Int)} (h : l.Nodup) {i j : Nat} {x : Int × Int} (hi : l[i]? = some x) (hj : l[j]? = some x) : i = j := by
  obtain ⟨h1, e1⟩ := List.getElem?_eq_some_iff.1 hi
  obtain ⟨h2, e2⟩ := List.getElem?_eq_some_iff.1 hj
  exact (List.getElem_inj h).1 (e1.trans e2.symm)
set_option maxRecDepth 100000 in
set_option maxHeartbeats 8000000 in
theorem agree_yes {w : World} {K : Nat → GL} {g : Nat} {s : Bra.Grp} (h : GrpAt w K g s) (ha : Bra.Agree s) (hall : s.all.length ≤ 7) (hcs : s.casts.length = s.all.length) (hdl : ∀ (j : Nat) (p : Bra.Proc), s.all[j]? = some (some p) → p.done.length ≤ 1000000) :
    Calls Try.prog 20 #[.pointer (some ⟨g, 0, none⟩)] w fun e w' => e = .returned (.bool true) ∧ Below w.heap.size w w' := by
  obtain ⟨Lb, Gs, AA, an, ac, av, PA, pn, pc, pv, CA, cn, cc, cv, hG⟩ := h
  have hGd := Lib.hid hG
  have hand := Lib.hid hG.anLen
  have hcnd : Hid (cn = an) := by show _ = _; rw [hG.cnLen, hG.anLen, hcs]
  have hal : an ≤ 7 := by rw [hG.anLen]; exact hall
  have had := Lib.hid ha
  have hdld := Lib.hid hdl
  have hcsd := Lib.hid hcs
  clear hG ha hall hcs hdl
  have heq := @eq_nil_proc
  have hneq := @ne_nil_proc
  go_enter Try.func20, Try.ntmps20
  go_wp2_with fail
  go_loopw [3] (fun t3 wr => ∃ i : Nat, i ≤ an ∧ t3 = .int .i64 i ∧ Below w.heap.size w wr) (fun t3 _ => an - (intOf t3).toNat)
  case atStart => exact ⟨0, by omega, rfl, Below.refl _ _⟩
  case round =>
    obtain ⟨i, hi, rfl, hb⟩ := hrel
    have hbd := Lib.hid hb
    have hGr := Lib.hid (hGd.out.upTo hb)
    have g0 : wr.cell? ⟨g, 0, none⟩ = some (.slice AA an ac) := (hGr.out.blk.cell 0).trans rfl
    clear hb
    by_cases hlt : i < an
    · have hltI : (i : Int) < (an : Int) := by omega
      rcases hGr.out.ask (i : Int) with ⟨h3, -⟩ | ⟨h3, -, -⟩ | ⟨i', ab, hii, -, rfl, hab, hcase⟩
      · omega
      · omega
      · obtain rfl : i' = i := by omega
        rcases hcase with ⟨-, -, hc⟩ | ⟨p, -, h4, hc⟩
        · go_wp2_with fail
          go_roundw
          case rel => exact ⟨i' + 1, by omega, by go_num, hbd.out⟩
          case measure => simp [intOf]; omega
        · have h4d := Lib.hid h4
          have habd := Lib.hid hab
          clear h4 hab hii
          go_wp2_with fail
          refine (delivered_any (hGr.out.proc i' p h4d.out).1).mono ?_
          rintro e w1 ⟨A1, n1, c1, rfl, hr1, hb1⟩
          obtain ⟨N1, hN1⟩ : ∃ N, p.done.length = N := ⟨_, rfl⟩
          obtain rfl : n1 = N1 := by rw [hr1.len, hN1]
          have hN1d := Lib.hid hN1
          have hN1l : n1 ≤ 1000000 := by rw [← hN1]; exact hdld.out i' p h4d.out
          have hr1d := Lib.hid (hr1.mono (T := fun i => i < w1.heap.size) (fun i hi _ => hi))
          have hbd1 : Hid (Below w.heap.size w w1) := hbd.out.trans (hb1.mono hbd.out.size)
          have hG1 := Lib.hid (hGr.out.upTo hb1)
          have habd1 : Hid (ab < w1.heap.size) := Nat.lt_of_lt_of_le habd.out hb1.size
          clear hN1 hr1 hb1 g0 hc hGr hbd habd
          go_wp2_with fail
          go_loopw [5] (fun t5 wr => ∃ k : Nat, k ≤ n1 ∧ t5 = .int .i64 k ∧ Below w1.heap.size w1 wr) (fun t5 _ => n1 - (intOf t5).toNat)
          case atStart => exact ⟨0, by omega, rfl, Below.refl _ _⟩
          case round =>
            obtain ⟨k, hk, rfl, hb⟩ := hrel
            have hbd := Lib.hid hb
            by_cases hkl : k < n1
            · have hkI : (k : Int) < (n1 : Int) := by omega
              obtain ⟨d, hd⟩ : ∃ d, p.done[k]? = some d := ⟨_, List.getElem?_eq_getElem (by rw [hN1d.out]; exact hkl)⟩
              have hdd := Lib.hid hd
              obtain ⟨b, off, sv, rfl, hbs, -, hs, hg⟩ := hr1d.out.get hd
              obtain ⟨Ax, nx, cx, rfl, hrx⟩ := hs
              have hrxd := Lib.hid hrx
              have hgd := Lib.hid hg
              have hbsd := Lib.hid hbs
              obtain ⟨q1, q2, q3⟩ := had.out.rng i' p d h4d.out (List.mem_of_getElem? hd)
              obtain ⟨o, ho⟩ : ∃ o : Nat, d.origin = (o : Int) := ⟨d.origin.toNat, by omega⟩
              obtain ⟨nu, hnu⟩ : ∃ nu : Nat, d.number = (nu : Int) + 1 := ⟨(d.number - 1).toNat, by omega⟩
              have hoan : o < an := by rw [hand.out]; omega
              have hoI : (o : Int) < (an : Int) := by omega
              have hod := Lib.hid ho
              have hnud := Lib.hid hnu
              have f1 : decide ((o : Int) < 0) = false := decide_eq_false (by omega)
              have f2 : decide ((an : Int) ≤ (o : Int)) = false := decide_eq_false (by omega)
              have f2n : decide (an ≤ o) = false := decide_eq_false (by omega)
              have f3 : decide ((nu : Int) + 1 < 1) = false := decide_eq_false (by omega)
              clear hd hrx hg hbs q1 q2 q3 ho hnu hb
              go_upto_region 9 with fail
              have up : ∀ {q j : Nat} {v : Value}, q < w1.heap.size → w1.cell? ⟨q, j, none⟩ = some v → ∀ w', Ab wr.drew w' → w'.cell? ⟨q, j, none⟩ = some v := fun hq hv w' h => ((Below.cell h (p := ⟨_, _, none⟩) (Nat.lt_of_lt_of_le hq hbd.out.size)).trans (hbd.out.cell (p := ⟨_, _, none⟩) hq)).trans hv
              have a0 := up hbsd.out (hgd.out 0 _ rfl)
              have a1 := up hbsd.out (hgd.out 1 _ rfl)
              rw [hod.out] at a0
              rw [hnud.out] at a1
              have gp : ∀ w', Ab wr.drew w' → w'.cell? ⟨g, 0, none⟩ = some (.slice (some ⟨ab, 0, none⟩) an ac) := up hG1.out.blk.lt ((hG1.out.blk.cell 0).trans rfl)
              clear up
              refine wp_region_late Ab Ab.refl Ab.trans [] (.last [0, 1] [2, 3, 4, 5, 6, 7, 8, 9, 10, 11, 12, 13, 14, 15, 16, 17, 18, 19, 20, 21, 22, 23, 24, 25, 26]) (by kernel_rfl) (by kernel_rfl) (fun _ _ _ _ _ h => h) ?_
              simp only [wpSchV, ordPick, Option.toList_some, List.cons_append, List.nil_append, List.getElem?_cons_succ, List.getElem?_cons_zero]
              iterate 2 (go_big_quiet_step (exact fun _ => rfl))
              refine wpQuiet_nil ?_
              iterate 2 (go_big_quiet_step (exact fun _ => rfl))
              refine wpq_load_one rfl 3 (.tmp 43) rfl ⟨b, off + k * 3, none⟩ rfl _ a0 _ Try.underlying3 rfl ?_
              simp only [Act.put, List.setIfInBounds_toArray, List.set_cons_succ, List.set_cons_zero]
              iterate 6 (go_big_quiet_step (exact fun _ => rfl))
              refine wpq_load_w rfl 3 (.tmp 50) rfl ⟨b, off + k * 3, none⟩ rfl _ a0 _ Try.underlying3 rfl ?_
              simp only [Act.put, List.setIfInBounds_toArray, List.set_cons_succ, List.set_cons_zero]
              iterate 3 (go_big_quiet_step (exact fun _ => rfl))
              refine wpq_load_w rfl 49 (.tmp 54) rfl ⟨g, 0, none⟩ rfl _ gp _ Try.underlying49 rfl ?_
              simp only [Act.put, List.setIfInBounds_toArray, List.set_cons_succ, List.set_cons_zero]
              iterate 8 (go_big_quiet_step (exact fun _ => rfl))
              refine wpq_load_w rfl 3 (.tmp 63) rfl ⟨b, off + k * 3 + 1, none⟩ rfl _ a1 _ Try.underlying3 rfl ?_
              simp only [Act.put, List.setIfInBounds_toArray, List.set_cons_succ, List.set_cons_zero]
              iterate 2 (go_big_quiet_step (exact fun _ => rfl))
              refine wpQuiet_nil ?_
              clear a0 a1 gp f1 f2 f2n f3
              obtain ⟨w3, hw3⟩ : ∃ x, wr.drew = x := ⟨_, rfl⟩
              have hb3 : Hid (Below w1.heap.size w1 w3) := by show Below _ _ _; rw [← hw3]; exact hbd.out.trans ((ab_drew wr).mono hbd.out.size)
              rw [hw3]
              clear hw3 hbd
              go_upto_region 11 with fail
              have up : ∀ {q j : Nat} {v : Value}, q < w1.heap.size → w1.cell? ⟨q, j, none⟩ = some v → ∀ w', Ab w3.drew w' → w'.cell? ⟨q, j, none⟩ = some v := fun hq hv w' h => ((Below.cell h (p := ⟨_, _, none⟩) (Nat.lt_of_lt_of_le hq hb3.out.size)).trans (hb3.out.cell (p := ⟨_, _, none⟩) hq)).trans hv
              have a0 := up hbsd.out (hgd.out 0 _ rfl)
              have a1 := up hbsd.out (hgd.out 1 _ rfl)
              rw [hod.out] at a0
              rw [hnud.out] at a1
              have a2 := up hbsd.out (hgd.out 2 _ rfl)
              have gp : ∀ w', Ab w3.drew w' → w'.cell? ⟨g, 0, none⟩ = some (.slice (some ⟨ab, 0, none⟩) an ac) := up hG1.out.blk.lt ((hG1.out.blk.cell 0).trans rfl)
              have sx : ∀ w', Ab w3.drew w' → Bytes w' w'.heap.size (.slice Ax nx cx) d.payload := fun w' h => (hrxd.out.fr (Fr.of_below (F := fun i => w1.heap.size ≤ i) (hb3.out.trans (((ab_drew w3).mono hb3.out.size).trans (Below.mono h (Nat.le_trans hb3.out.size (ab_drew w3).size))))) (fun i h => by omega)).all
              have hb4 : Hid (Below w1.heap.size w1 w3.drew) := hb3.out.trans ((ab_drew w3).mono hb3.out.size)
              rcases hG1.out.ask (o : Int) with ⟨h3, -⟩ | ⟨h3, -, -⟩ | ⟨o', ab', hoo, -, hab', -, hcase⟩
              · omega
              · omega
              · obtain rfl : o' = o := by omega
                obtain rfl : ab' = ab := by cases hab'; rfl
                rcases hcase with ⟨-, -, hc⟩ | ⟨q, -, h5, hc⟩
                · as_aux_lemma =>
                    have ga := up habd1.out hc
                    clear hoo hab' hc up hb3
                    refine wp_region_late Ab Ab.refl Ab.trans [] (.last [0, 1, 2, 4, 5] [3, 6, 7, 8, 9, 10, 11, 12, 13, 14, 15, 16, 17, 18, 19, 20, 21, 22, 23, 24, 25, 26, 27, 28, 29, 30, 31, 32, 33, 34, 35, 36, 37, 38, 39, 40, 41, 42, 43, 44, 45, 46, 47, 48, 49, 50, 51, 52, 53, 54, 55, 56, 57, 58, 59]) (by kernel_rfl) (by kernel_rfl) (fun _ _ _ _ _ h => h) ?_
                    simp only [wpSchV, ordPick, Option.toList_some, List.cons_append, List.nil_append, List.getElem?_cons_succ, List.getElem?_cons_zero]
                    iterate 5 (go_big_quiet_step (exact fun _ => rfl))
                    refine wpQuiet_nil ?_
                    refine wpq_load_one rfl 49 (.tmp 69) rfl ⟨g, 0, none⟩ rfl _ gp _ Try.underlying49 rfl ?_
                    simp only [Act.put, List.setIfInBounds_toArray, List.set_cons_succ, List.set_cons_zero]
                    iterate 2 (go_big_quiet_step (exact fun _ => rfl))
                    refine wpq_load_one rfl 3 (.tmp 74) rfl ⟨b, off + k * 3, none⟩ rfl _ a0 _ Try.underlying3 rfl ?_
                    simp only [Act.put, List.setIfInBounds_toArray, List.set_cons_succ, List.set_cons_zero]
                    iterate 1 (go_big_quiet_step (exact fun _ => rfl))
                    refine wpq_load_one rfl 24 (.tmp 76) rfl ⟨ab', o', none⟩ rfl _ ga _ Try.underlying24 rfl ?_
                    simp only [Act.put, List.setIfInBounds_toArray, List.set_cons_succ, List.set_cons_zero]
                    iterate 49 (go_big_quiet_step (exact fun _ => rfl))
                    refine wpQuiet_nil ?_
                    clear a0 a1 a2 gp sx ga
                    obtain ⟨w4, hw4⟩ : ∃ x, w3.drew = x := ⟨_, rfl⟩
                    rw [hw4] at hb4 ⊢
                    clear hw4
                    go_wp2_with fail
                    go_loopw [6] (fun t6 wr => ∃ j : Nat, i' ≤ j ∧ j ≤ an ∧ t6 = .int .i64 j ∧ Below w1.heap.size w1 wr) (fun t6 _ => an - (intOf t6).toNat)
                    case atStart => exact ⟨i', by omega, by omega, rfl, hb4.out⟩
                    case round =>
                      obtain ⟨j, hij, hj, rfl, hb⟩ := hrel
                      clear hb4
                      have hG5 := Lib.hid (hG1.out.upTo hb)
                      have hb5 := Lib.hid hb
                      have g0 : wr.cell? ⟨g, 0, none⟩ = some (.slice (some ⟨ab', 0, none⟩) an ac) := (hG5.out.blk.cell 0).trans rfl
                      clear hb
                      by_cases hjl : j < an
                      · have hjI : (j : Int) < (an : Int) := by omega
                        rcases hG5.out.ask (j : Int) with ⟨h3, -⟩ | ⟨h3, -, -⟩ | ⟨j', ab2, hjj, -, hab2, -, hcase⟩
                        · omega
                        · omega
                        · obtain rfl : j' = j := by omega
                          obtain rfl : ab2 = ab' := by cases hab2; rfl
                          rcases hcase with ⟨-, -, hc⟩ | ⟨r, -, h6, hc⟩
                          · clear hab2 hjj
                            go_wp2_with fail
                            go_roundw
                            case rel => exact ⟨j' + 1, by omega, by omega, by go_num, hb5.out⟩
                            case measure => simp [intOf]; omega
                          · have h6d := Lib.hid h6
                            clear h6 hab2 hjj
                            go_wp2_with fail
                            refine (delivered_any (hG5.out.proc j' r h6d.out).1).mono ?_
                            rintro e w5 ⟨A5, n5, c5, rfl, hr5, hb5'⟩
                            obtain ⟨N5, hN5⟩ : ∃ N, r.done.length = N := ⟨_, rfl⟩
                            obtain rfl : n5 = N5 := by rw [hr5.len, hN5]
                            have hN5d := Lib.hid hN5
                            have hN5l : n5 ≤ 1000000 := by rw [← hN5]; exact hdld.out j' r h6d.out
                            have hr5d := Lib.hid (hr5.mono (T := fun i => i < w5.heap.size) (fun i hi _ => hi))
                            have hb15 : Hid (Below w1.heap.size w1 w5) := hb5.out.trans (hb5'.mono hb5.out.size)
                            clear hN5 hr5 hb5' hc g0 hG5 hb5
                            go_wp2_with fail
                            go_loopw [8] (fun t8 wr => ∃ m : Nat, m ≤ n5 ∧ t8 = .int .i64 m ∧ Below w5.heap.size w5 wr) (fun t8 _ => n5 - (intOf t8).toNat)
                            case atStart => exact ⟨0, by omega, rfl, Below.refl _ _⟩
                            case round =>
                              obtain ⟨m, hm, rfl, hb⟩ := hrel
                              have hb6 := Lib.hid hb
                              by_cases hml : m < n5
                              · have hmI : (m : Int) < (n5 : Int) := by omega
                                obtain ⟨e, he⟩ : ∃ e, r.done[m]? = some e := ⟨_, List.getElem?_eq_getElem (by rw [hN5d.out]; exact hml)⟩
                                have hed := Lib.hid he
                                obtain ⟨b2, off2, sv2, rfl, hbs2, -, hs2, hg2⟩ := hr5d.out.get he
                                obtain ⟨Ay, ny, cy, rfl, hry⟩ := hs2
                                have hbw : Below w1.heap.size w1 wr := hb15.out.trans (hb.mono hb15.out.size)
                                have up : ∀ {q j : Nat} {v : Value}, q < w1.heap.size → w1.cell? ⟨q, j, none⟩ = some v → ∀ w', Ab wr.drew w' → w'.cell? ⟨q, j, none⟩ = some v := fun hq hv w' h => ((Below.cell h (p := ⟨_, _, none⟩) (Nat.lt_of_lt_of_le hq hbw.size)).trans (hbw.cell (p := ⟨_, _, none⟩) hq)).trans hv
                                have up5 : ∀ {q j : Nat} {v : Value}, q < w5.heap.size → w5.cell? ⟨q, j, none⟩ = some v → ∀ w', Ab wr.drew w' → w'.cell? ⟨q, j, none⟩ = some v := fun hq hv w' h => ((Below.cell h (p := ⟨_, _, none⟩) (Nat.lt_of_lt_of_le hq hb.size)).trans (hb.cell (p := ⟨_, _, none⟩) hq)).trans hv
                                have a0 := up hbsd.out (hgd.out 0 _ rfl)
                                have a1 := up hbsd.out (hgd.out 1 _ rfl)
                                have a2 := up hbsd.out (hgd.out 2 _ rfl)
                                have b0 := up5 hbs2 (hg2 0 _ rfl)
                                have b1 := up5 hbs2 (hg2 1 _ rfl)
                                have b2f := up5 hbs2 (hg2 2 _ rfl)
                                have sx : ∀ w', Ab wr.drew w' → Bytes w' w'.heap.size (.slice Ax nx cx) d.payload := fun w' h => (hrxd.out.fr (Fr.of_below (F := fun i => w1.heap.size ≤ i) (hbw.trans (((ab_drew wr).mono hbw.size).trans (Below.mono h (Nat.le_trans hbw.size (ab_drew wr).size))))) (fun i h => by omega)).all
                                have sy : ∀ w', Ab wr.drew w' → Bytes w' w'.heap.size (.slice Ay ny cy) e.payload := fun w' h => (hry.fr (Fr.of_below (F := fun i => w5.heap.size ≤ i) (hb.trans (((ab_drew wr).mono hb.size).trans (Below.mono h (Nat.le_trans hb.size (ab_drew wr).size))))) (fun i h => by omega)).all
                                have hnn2 : ∀ b : Int, (b != b) = false := fun b => by simp
                                have hss : ∀ b : List UInt8, (b != b) = false := fun b => by simp
                                clear he hg2 hry hbs2 up up5 hb hbw
                                by_cases h0 : d.origin = e.origin
                                · have h0b : (d.origin == d.origin) = true := by simp
                                  rw [← h0] at b0
                                  by_cases h1 : d.number = e.number
                                  · have h1b : (d.number == d.number) = true := by simp
                                    have hpp := had.out.same i' j' p r d e h4d.out h6d.out (List.mem_of_getElem? hdd.out) (List.mem_of_getElem? hed.out) h0 h1
                                    have hpb : (d.payload.toArray != d.payload.toArray) = false := by simp
                                    rw [← h1] at b1
                                    rw [← hpp] at sy
                                    by_cases hijx : i' = j'
                                    · obtain rfl : r = p := by
                                        have h7 := h6d.out
                                        rw [← hijx, h4d.out] at h7
                                        cases h7; rfl
                                      obtain rfl : m = k := by
                                        have h7 := had.out.once i' r h4d.out
                                        refine nodup_at h7 (x := (d.origin, d.number)) ?_ ?_
                                        · rw [List.getElem?_map, hed.out, h0, h1]; rfl
                                        · rw [List.getElem?_map, hdd.out]; rfl
                                      subst hijx
                                      have f5 : ((i' : Int) == (i' : Int)) = true := by simp
                                      have f6 : ((m : Int) != (m : Int)) = false := by simp
                                      clear h0 h1 hpp
                                      go_wp2_with fail
                                      refine wp_region_late Ab Ab.refl Ab.trans [] (.last [0, 1, 5, 6] [2, 3, 4, 7, 8, 9, 10, 11, 12, 13, 14, 15, 16, 17, 18, 19, 20, 21, 22, 23, 24, 25, 26, 27, 28, 29, 30, 31, 32, 33, 34, 35, 36, 37, 38, 39, 40, 41, 42, 43, 44, 45, 46, 47, 48]) (by kernel_rfl) (by kernel_rfl) (fun _ _ _ _ _ h => h) ?_
                                      simp only [wpSchV, ordPick, Option.toList_some, List.cons_append, List.nil_append, List.getElem?_cons_succ, List.getElem?_cons_zero]
                                      iterate 4 (go_big_quiet_step (exact fun _ => rfl))
                                      refine wpQuiet_nil ?_
                                      iterate 2 (go_big_quiet_step (exact fun _ => rfl))
                                      refine wpq_load_one rfl 3 (.tmp 162) rfl ⟨b, off + m * 3, none⟩ rfl _ a0 _ Try.underlying3 rfl ?_
                                      simp only [Act.put, List.setIfInBounds_toArray, List.set_cons_succ, List.set_cons_zero]
                                      iterate 2 (go_big_quiet_step (exact fun _ => rfl))
                                      refine wpq_load_one rfl 3 (.tmp 167) rfl ⟨b2, off2 + m * 3, none⟩ rfl _ b0 _ Try.underlying3 rfl ?_
                                      simp only [Act.put, List.setIfInBounds_toArray, List.set_cons_succ, List.set_cons_zero]
                                      iterate 6 (go_big_quiet_step (exact fun _ => rfl))
                                      refine wpq_load_w rfl 3 (.tmp 174) rfl ⟨b, off + m * 3 + 1, none⟩ rfl _ a1 _ Try.underlying3 rfl ?_
                                      simp only [Act.put, List.setIfInBounds_toArray, List.set_cons_succ, List.set_cons_zero]
                                      iterate 4 (go_big_quiet_step (exact fun _ => rfl))
                                      refine wpq_load_w rfl 3 (.tmp 179) rfl ⟨b2, off2 + m * 3 + 1, none⟩ rfl _ b1 _ Try.underlying3 rfl ?_
                                      simp only [Act.put, List.setIfInBounds_toArray, List.set_cons_succ, List.set_cons_zero]
                                      iterate 7 (go_big_quiet_step (exact fun _ => rfl))
                                      refine wpq_load_w rfl 33 (.tmp 187) rfl ⟨b, off + m * 3 + 2, none⟩ rfl _ a2 _ Try.underlying33 rfl ?_
                                      simp only [Act.put, List.setIfInBounds_toArray, List.set_cons_succ, List.set_cons_zero]
                                      refine wpq_string rfl 33 9 5 (.tmp 188) rfl Try.underlying33 Try.underlying5 Try.underlying9 _ _ _ rfl _ sx ?_
                                      simp only [Act.put, List.setIfInBounds_toArray, List.set_cons_succ, List.set_cons_zero]
                                      iterate 4 (go_big_quiet_step (exact fun _ => rfl))
                                      refine wpq_load_w rfl 33 (.tmp 193) rfl ⟨b2, off2 + m * 3 + 2, none⟩ rfl _ b2f _ Try.underlying33 rfl ?_
                                      simp only [Act.put, List.setIfInBounds_toArray, List.set_cons_succ, List.set_cons_zero]
                                      refine wpq_string rfl 33 9 5 (.tmp 194) rfl Try.underlying33 Try.underlying5 Try.underlying9 _ _ _ rfl _ sy ?_
                                      simp only [Act.put, List.setIfInBounds_toArray, List.set_cons_succ, List.set_cons_zero]
                                      iterate 12 (go_big_quiet_step (exact fun _ => rfl))
                                      refine wpQuiet_nil ?_
                                      clear a0 a1 a2 b0 b1 b2f sx sy
                                      go_wp2_with fail
                                      go_roundw
                                      case rel => exact ⟨m + 1, by omega, by go_num, hb6.out.trans ((ab_drew wr).mono hb6.out.size)⟩
                                      case measure => simp [intOf]; omega
                                    · have f5 : ((i' : Int) == (j' : Int)) = false := by simp; omega
                                      clear h0 h1 hpp hijx
                                      go_wp2_with fail
                                      refine wp_region_late Ab Ab.refl Ab.trans [] (.last [0, 1, 5, 6] [2, 3, 4, 7, 8, 9, 10, 11, 12, 13, 14, 15, 16, 17, 18, 19, 20, 21, 22, 23, 24, 25, 26, 27, 28, 29, 30, 31, 32, 33, 34, 35, 36, 37, 38, 39, 40, 41, 42, 43, 44, 45, 46, 47, 48]) (by kernel_rfl) (by kernel_rfl) (fun _ _ _ _ _ h => h) ?_
                                      simp only [wpSchV, ordPick, Option.toList_some, List.cons_append, List.nil_append, List.getElem?_cons_succ, List.getElem?_cons_zero]
                                      iterate 4 (go_big_quiet_step (exact fun _ => rfl))
                                      refine wpQuiet_nil ?_
                                      iterate 2 (go_big_quiet_step (exact fun _ => rfl))
                                      refine wpq_load_one rfl 3 (.tmp 162) rfl ⟨b, off + k * 3, none⟩ rfl _ a0 _ Try.underlying3 rfl ?_
                                      simp only [Act.put, List.setIfInBounds_toArray, List.set_cons_succ, List.set_cons_zero]
                                      iterate 2 (go_big_quiet_step (exact fun _ => rfl))
                                      refine wpq_load_one rfl 3 (.tmp 167) rfl ⟨b2, off2 + m * 3, none⟩ rfl _ b0 _ Try.underlying3 rfl ?_
                                      simp only [Act.put, List.setIfInBounds_toArray, List.set_cons_succ, List.set_cons_zero]
                                      iterate 6 (go_big_quiet_step (exact fun _ => rfl))
                                      refine wpq_load_w rfl 3 (.tmp 174) rfl ⟨b, off + k * 3 + 1, none⟩ rfl _ a1 _ Try.underlying3 rfl ?_
                                      simp only [Act.put, List.setIfInBounds_toArray, List.set_cons_succ, List.set_cons_zero]
                                      iterate 4 (go_big_quiet_step (exact fun _ => rfl))
                                      refine wpq_load_w rfl 3 (.tmp 179) rfl ⟨b2, off2 + m * 3 + 1, none⟩ rfl _ b1 _ Try.underlying3 rfl ?_
                                      simp only [Act.put, List.setIfInBounds_toArray, List.set_cons_succ, List.set_cons_zero]
                                      iterate 7 (go_big_quiet_step (exact fun _ => rfl))
                                      refine wpq_load_w rfl 33 (.tmp 187) rfl ⟨b, off + k * 3 + 2, none⟩ rfl _ a2 _ Try.underlying33 rfl ?_
                                      simp only [Act.put, List.setIfInBounds_toArray, List.set_cons_succ, List.set_cons_zero]
                                      refine wpq_string rfl 33 9 5 (.tmp 188) rfl Try.underlying33 Try.underlying5 Try.underlying9 _ _ _ rfl _ sx ?_
                                      simp only [Act.put, List.setIfInBounds_toArray, List.set_cons_succ, List.set_cons_zero]
                                      iterate 4 (go_big_quiet_step (exact fun _ => rfl))
                                      refine wpq_load_w rfl 33 (.tmp 193) rfl ⟨b2, off2 + m * 3 + 2, none⟩ rfl _ b2f _ Try.underlying33 rfl ?_
                                      simp only [Act.put, List.setIfInBounds_toArray, List.set_cons_succ, List.set_cons_zero]
                                      refine wpq_string rfl 33 9 5 (.tmp 194) rfl Try.underlying33 Try.underlying5 Try.underlying9 _ _ _ rfl _ sy ?_
                                      simp only [Act.put, List.setIfInBounds_toArray, List.set_cons_succ, List.set_cons_zero]
                                      iterate 12 (go_big_quiet_step (exact fun _ => rfl))
                                      refine wpQuiet_nil ?_
                                      clear a0 a1 a2 b0 b1 b2f sx sy
                                      go_wp2_with fail
                                      go_roundw
                                      case rel => exact ⟨m + 1, by omega, by go_num, hb6.out.trans ((ab_drew wr).mono hb6.out.size)⟩
                                      case measure => simp [intOf]; omega
                                  · have h1b : (d.number == e.number) = false := by simpa using h1
                                    clear h0 h1
                                    go_wp2_with fail
                                    refine wp_region_late Ab Ab.refl Ab.trans [] (.last [0, 1, 5, 6] [2, 3, 4, 7, 8, 9, 10, 11, 12, 13, 14, 15, 16, 17, 18, 19, 20, 21, 22, 23, 24, 25, 26, 27, 28, 29, 30, 31, 32, 33, 34, 35, 36, 37, 38, 39, 40, 41, 42, 43, 44, 45, 46, 47, 48]) (by kernel_rfl) (by kernel_rfl) (fun _ _ _ _ _ h => h) ?_
                                    simp only [wpSchV, ordPick, Option.toList_some, List.cons_append, List.nil_append, List.getElem?_cons_succ, List.getElem?_cons_zero]
                                    iterate 4 (go_big_quiet_step (exact fun _ => rfl))
                                    refine wpQuiet_nil ?_
                                    iterate 2 (go_big_quiet_step (exact fun _ => rfl))
                                    refine wpq_load_one rfl 3 (.tmp 162) rfl ⟨b, off + k * 3, none⟩ rfl _ a0 _ Try.underlying3 rfl ?_
                                    simp only [Act.put, List.setIfInBounds_toArray, List.set_cons_succ, List.set_cons_zero]
                                    iterate 2 (go_big_quiet_step (exact fun _ => rfl))
                                    refine wpq_load_one rfl 3 (.tmp 167) rfl ⟨b2, off2 + m * 3, none⟩ rfl _ b0 _ Try.underlying3 rfl ?_
                                    simp only [Act.put, List.setIfInBounds_toArray, List.set_cons_succ, List.set_cons_zero]
                                    iterate 6 (go_big_quiet_step (exact fun _ => rfl))
                                    refine wpq_load_w rfl 3 (.tmp 174) rfl ⟨b, off + k * 3 + 1, none⟩ rfl _ a1 _ Try.underlying3 rfl ?_
                                    simp only [Act.put, List.setIfInBounds_toArray, List.set_cons_succ, List.set_cons_zero]
                                    iterate 4 (go_big_quiet_step (exact fun _ => rfl))
                                    refine wpq_load_w rfl 3 (.tmp 179) rfl ⟨b2, off2 + m * 3 + 1, none⟩ rfl _ b1 _ Try.underlying3 rfl ?_
                                    simp only [Act.put, List.setIfInBounds_toArray, List.set_cons_succ, List.set_cons_zero]
                                    iterate 27 (go_big_quiet_step (exact fun _ => rfl))
                                    refine wpQuiet_nil ?_
                                    clear a0 a1 a2 b0 b1 b2f sx sy
                                    go_wp2_with fail
                                    go_roundw
                                    case rel => exact ⟨m + 1, by omega, by go_num, hb6.out.trans ((ab_drew wr).mono hb6.out.size)⟩
                                    case measure => simp [intOf]; omega
                                · have h0b : (d.origin == e.origin) = false := by simpa using h0
                                  clear h0
                                  go_wp2_with fail
                                  refine wp_region_late Ab Ab.refl Ab.trans [] (.last [0, 1, 5, 6] [2, 3, 4, 7, 8, 9, 10, 11, 12, 13, 14, 15, 16, 17, 18, 19, 20, 21, 22, 23, 24, 25, 26, 27, 28, 29, 30, 31, 32, 33, 34, 35, 36, 37, 38, 39, 40, 41, 42, 43, 44, 45, 46, 47, 48]) (by kernel_rfl) (by kernel_rfl) (fun _ _ _ _ _ h => h) ?_
                                  simp only [wpSchV, ordPick, Option.toList_some, List.cons_append, List.nil_append, List.getElem?_cons_succ, List.getElem?_cons_zero]
                                  iterate 4 (go_big_quiet_step (exact fun _ => rfl))
                                  refine wpQuiet_nil ?_
                                  iterate 2 (go_big_quiet_step (exact fun _ => rfl))
                                  refine wpq_load_one rfl 3 (.tmp 162) rfl ⟨b, off + k * 3, none⟩ rfl _ a0 _ Try.underlying3 rfl ?_
                                  simp only [Act.put, List.setIfInBounds_toArray, List.set_cons_succ, List.set_cons_zero]
                                  iterate 2 (go_big_quiet_step (exact fun _ => rfl))
                                  refine wpq_load_one rfl 3 (.tmp 167) rfl ⟨b2, off2 + m * 3, none⟩ rfl _ b0 _ Try.underlying3 rfl ?_
                                  simp only [Act.put, List.setIfInBounds_toArray, List.set_cons_succ, List.set_cons_zero]
                                  iterate 39 (go_big_quiet_step (exact fun _ => rfl))
                                  refine wpQuiet_nil ?_
                                  clear a0 a1 a2 b0 b1 b2f sx sy
                                  go_wp2_with fail
                                  go_roundw
                                  case rel => exact ⟨m + 1, by omega, by go_num, hb6.out.trans ((ab_drew wr).mono hb6.out.size)⟩
                                  case measure => simp [intOf]; omega
                              · have hmI : ¬ (m : Int) < (n5 : Int) := by omega
                                go_wp2_with fail
                                go_roundw
                                case rel => exact ⟨j' + 1, by omega, by omega, by go_num, hb15.out.trans (hb.mono hb15.out.size)⟩
                                case measure => simp [intOf]; omega
                      · have hjI : ¬ (j : Int) < (an : Int) := by omega
                        go_wp2_with fail
                        go_roundw
                        case rel => exact ⟨k + 1, by omega, by go_num, hb5.out⟩
                        case measure => simp [intOf]; omega
                · as_aux_lemma =>
                    obtain ⟨l, hl⟩ : ∃ l, s.casts[o']? = some l := ⟨_, List.getElem?_eq_getElem (by rw [hcsd.out, ← hand.out]; exact hoan)⟩
                    obtain ⟨A0, n0, c0, hcv, hrow0, hlab0⟩ := hG1.out.cast o' l hl
                    have hcast := had.out.cast i' p d q h4d.out (List.mem_of_getElem? hdd.out) (by rw [hod.out]; exact h5)
                    rw [hod.out, hnud.out, show ((o' : Int)).toNat = o' from rfl, List.getD_eq_getElem?_getD, hl, show (((nu : Int) + 1 - 1)).toNat = nu by omega] at hcast
                    have hcast : l[nu]? = some d.payload := hcast
                    have hnl := (List.getElem?_eq_some_iff.1 hcast).1
                    have hln : n0 = l.length := by have h6 := hrow0.1; simp at h6; omega
                    have hnn : nu < n0 := by omega
                    have hnI : (nu : Int) < (n0 : Int) := by omega
                    have hnM : n0 ≤ 9223372036854775807 := by have h6 := (own_row hrow0).le; have h7 := (own_row hrow0).max; simp only [maxLen] at h7; omega
                    obtain ⟨cb, cq, hCA, -, hcb, hcat⟩ := (own_row hG1.out.crow).at_ (by rw [hcnd.out]; omega)
                    have hcq : cq = 0 := by
                      rcases hG1.out.crow.2 with ⟨he, _⟩ | ⟨g', cap, cur, he, _⟩
                      · cases he; cases hCA
                      · cases he; cases hCA; rfl
                    subst hcq
                    have hck := hcat o' (by rw [hcnd.out]; omega)
                    rw [Nat.zero_add, hcv] at hck
                    obtain ⟨sb, so, hSA, -, hsb, hsat⟩ := (own_row hrow0).at_ (by omega)
                    have hsk := hsat nu (by omega)
                    rw [List.getElem?_map, hcast] at hsk
                    have hsk : w1.cell? ⟨sb, so + nu, none⟩ = some (.string ⟨d.payload.toArray⟩) := hsk
                    have hg2c : w1.cell? ⟨g, 2, none⟩ = some (.slice CA cn cc) := (hG1.out.blk.cell 2).trans rfl
                    rw [hCA, hcnd.out] at hg2c
                    have gc : ∀ w', Ab w3.drew w' → w'.cell? ⟨g, 2, none⟩ = some (.slice (some ⟨cb, 0, none⟩) an cc) := up hG1.out.blk.lt hg2c
                    have gk := up hcb hck
                    rw [hSA] at gk
                    have gs := up hsb hsk
                    have ga := up habd1.out hc
                    have f4 : decide ((n0 : Int) < (nu : Int) + 1) = false := decide_eq_false (by omega)
                    have hss : ∀ b : List UInt8, (b != b) = false := fun b => by simp
                    have hss2 : (d.payload.toArray != d.payload.toArray) = false := by simp
                    clear hoo hab' hc up hb3 hg2c hl hcv hrow0 hlab0 hcast hnl hln hcb hcat hck hsb hsat hsk hCA hSA h5
                    refine wp_region_late Ab Ab.refl Ab.trans [] (.last [0, 1, 2, 4, 5] [3, 6, 7, 8, 9, 10, 11, 12, 13, 14, 15, 16, 17, 18, 19, 20, 21, 22, 23, 24, 25, 26, 27, 28, 29, 30, 31, 32, 33, 34, 35, 36, 37, 38, 39, 40, 41, 42, 43, 44, 45, 46, 47, 48, 49, 50, 51, 52, 53, 54, 55, 56, 57, 58, 59]) (by kernel_rfl) (by kernel_rfl) (fun _ _ _ _ _ h => h) ?_
                    simp only [wpSchV, ordPick, Option.toList_some, List.cons_append, List.nil_append, List.getElem?_cons_succ, List.getElem?_cons_zero]
                    iterate 5 (go_big_quiet_step (exact fun _ => rfl))
                    refine wpQuiet_nil ?_
                    refine wpq_load_one rfl 49 (.tmp 69) rfl ⟨g, 0, none⟩ rfl _ gp _ Try.underlying49 rfl ?_
                    simp only [Act.put, List.setIfInBounds_toArray, List.set_cons_succ, List.set_cons_zero]
                    iterate 2 (go_big_quiet_step (exact fun _ => rfl))
                    refine wpq_load_one rfl 3 (.tmp 74) rfl ⟨b, off + k * 3, none⟩ rfl _ a0 _ Try.underlying3 rfl ?_
                    simp only [Act.put, List.setIfInBounds_toArray, List.set_cons_succ, List.set_cons_zero]
                    iterate 1 (go_big_quiet_step (exact fun _ => rfl))
                    refine wpq_load_one rfl 24 (.tmp 76) rfl ⟨ab', o', none⟩ rfl _ ga _ Try.underlying24 rfl ?_
                    simp only [Act.put, List.setIfInBounds_toArray, List.set_cons_succ, List.set_cons_zero]
                    iterate 6 (go_big_quiet_step (exact fun _ => rfl))
                    refine wpq_load_w rfl 3 (.tmp 83) rfl ⟨b, off + k * 3 + 1, none⟩ rfl _ a1 _ Try.underlying3 rfl ?_
                    simp only [Act.put, List.setIfInBounds_toArray, List.set_cons_succ, List.set_cons_zero]
                    iterate 3 (go_big_quiet_step (exact fun _ => rfl))
                    refine wpq_load_w rfl 50 (.tmp 87) rfl ⟨g, 2, none⟩ rfl _ gc _ Try.underlying50 rfl ?_
                    simp only [Act.put, List.setIfInBounds_toArray, List.set_cons_succ, List.set_cons_zero]
                    iterate 4 (go_big_quiet_step (exact fun _ => rfl))
                    refine wpq_load_w rfl 3 (.tmp 92) rfl ⟨b, off + k * 3, none⟩ rfl _ a0 _ Try.underlying3 rfl ?_
                    simp only [Act.put, List.setIfInBounds_toArray, List.set_cons_succ, List.set_cons_zero]
                    iterate 1 (go_big_quiet_step (exact fun _ => rfl))
                    refine wpq_load_w rfl 53 (.tmp 94) rfl ⟨cb, o', none⟩ rfl _ gk _ Try.underlying53 rfl ?_
                    simp only [Act.put, List.setIfInBounds_toArray, List.set_cons_succ, List.set_cons_zero]
                    iterate 6 (go_big_quiet_step (exact fun _ => rfl))
                    refine wpq_load_w rfl 50 (.tmp 101) rfl ⟨g, 2, none⟩ rfl _ gc _ Try.underlying50 rfl ?_
                    simp only [Act.put, List.setIfInBounds_toArray, List.set_cons_succ, List.set_cons_zero]
                    iterate 4 (go_big_quiet_step (exact fun _ => rfl))
                    refine wpq_load_w rfl 3 (.tmp 106) rfl ⟨b, off + k * 3, none⟩ rfl _ a0 _ Try.underlying3 rfl ?_
                    simp only [Act.put, List.setIfInBounds_toArray, List.set_cons_succ, List.set_cons_zero]
                    iterate 1 (go_big_quiet_step (exact fun _ => rfl))
                    refine wpq_load_w rfl 53 (.tmp 108) rfl ⟨cb, o', none⟩ rfl _ gk _ Try.underlying53 rfl ?_
                    simp only [Act.put, List.setIfInBounds_toArray, List.set_cons_succ, List.set_cons_zero]
                    iterate 4 (go_big_quiet_step (exact fun _ => rfl))
                    refine wpq_load_w rfl 3 (.tmp 113) rfl ⟨b, off + k * 3 + 1, none⟩ rfl _ a1 _ Try.underlying3 rfl ?_
                    simp only [Act.put, List.setIfInBounds_toArray, List.set_cons_succ, List.set_cons_zero]
                    iterate 2 (go_big_quiet_step (exact fun _ => rfl))
                    refine wpq_load_w rfl 9 (.tmp 116) rfl ⟨sb, so + nu, none⟩ rfl _ gs _ Try.underlying9 rfl ?_
                    simp only [Act.put, List.setIfInBounds_toArray, List.set_cons_succ, List.set_cons_zero]
                    iterate 4 (go_big_quiet_step (exact fun _ => rfl))
                    refine wpq_load_w rfl 33 (.tmp 121) rfl ⟨b, off + k * 3 + 2, none⟩ rfl _ a2 _ Try.underlying33 rfl ?_
                    simp only [Act.put, List.setIfInBounds_toArray, List.set_cons_succ, List.set_cons_zero]
                    refine wpq_string rfl 33 9 5 (.tmp 122) rfl Try.underlying33 Try.underlying5 Try.underlying9 _ _ _ rfl _ sx ?_
                    simp only [Act.put, List.setIfInBounds_toArray, List.set_cons_succ, List.set_cons_zero]
                    iterate 3 (go_big_quiet_step (exact fun _ => rfl))
                    refine wpQuiet_nil ?_
                    clear a0 a1 a2 gp sx ga gc gk gs f4 hss2
                    obtain ⟨w4, hw4⟩ : ∃ x, w3.drew = x := ⟨_, rfl⟩
                    rw [hw4] at hb4 ⊢
                    clear hw4
                    go_wp2_with fail
                    go_loopw [6] (fun t6 wr => ∃ j : Nat, i' ≤ j ∧ j ≤ an ∧ t6 = .int .i64 j ∧ Below w1.heap.size w1 wr) (fun t6 _ => an - (intOf t6).toNat)
                    case atStart => exact ⟨i', by omega, by omega, rfl, hb4.out⟩
                    case round =>
                      obtain ⟨j, hij, hj, rfl, hb⟩ := hrel
                      clear hb4
                      have hG5 := Lib.hid (hG1.out.upTo hb)
                      have hb5 := Lib.hid hb
                      have g0 : wr.cell? ⟨g, 0, none⟩ = some (.slice (some ⟨ab', 0, none⟩) an ac) := (hG5.out.blk.cell 0).trans rfl
                      clear hb
                      by_cases hjl : j < an
                      · have hjI : (j : Int) < (an : Int) := by omega
                        rcases hG5.out.ask (j : Int) with ⟨h3, -⟩ | ⟨h3, -, -⟩ | ⟨j', ab2, hjj, -, hab2, -, hcase⟩
                        · omega
                        · omega
                        · obtain rfl : j' = j := by omega
                          obtain rfl : ab2 = ab' := by cases hab2; rfl
                          rcases hcase with ⟨-, -, hc⟩ | ⟨r, -, h6, hc⟩
                          · clear hab2 hjj
                            go_wp2_with fail
                            go_roundw
                            case rel => exact ⟨j' + 1, by omega, by omega, by go_num, hb5.out⟩
                            case measure => simp [intOf]; omega
                          · have h6d := Lib.hid h6
                            clear h6 hab2 hjj
                            go_wp2_with fail
                            refine (delivered_any (hG5.out.proc j' r h6d.out).1).mono ?_
                            rintro e w5 ⟨A5, n5, c5, rfl, hr5, hb5'⟩
                            obtain ⟨N5, hN5⟩ : ∃ N, r.done.length = N := ⟨_, rfl⟩
                            obtain rfl : n5 = N5 := by rw [hr5.len, hN5]
                            have hN5d := Lib.hid hN5
                            have hN5l : n5 ≤ 1000000 := by rw [← hN5]; exact hdld.out j' r h6d.out
                            have hr5d := Lib.hid (hr5.mono (T := fun i => i < w5.heap.size) (fun i hi _ => hi))
                            have hb15 : Hid (Below w1.heap.size w1 w5) := hb5.out.trans (hb5'.mono hb5.out.size)
                            clear hN5 hr5 hb5' hc g0 hG5 hb5
                            go_wp2_with fail
                            go_loopw [8] (fun t8 wr => ∃ m : Nat, m ≤ n5 ∧ t8 = .int .i64 m ∧ Below w5.heap.size w5 wr) (fun t8 _ => n5 - (intOf t8).toNat)
                            case atStart => exact ⟨0, by omega, rfl, Below.refl _ _⟩
                            case round =>
                              obtain ⟨m, hm, rfl, hb⟩ := hrel
                              have hb6 := Lib.hid hb
                              by_cases hml : m < n5
                              · have hmI : (m : Int) < (n5 : Int) := by omega
                                obtain ⟨e, he⟩ : ∃ e, r.done[m]? = some e := ⟨_, List.getElem?_eq_getElem (by rw [hN5d.out]; exact hml)⟩
                                have hed := Lib.hid he
                                obtain ⟨b2, off2, sv2, rfl, hbs2, -, hs2, hg2⟩ := hr5d.out.get he
                                obtain ⟨Ay, ny, cy, rfl, hry⟩ := hs2
                                have hbw : Below w1.heap.size w1 wr := hb15.out.trans (hb.mono hb15.out.size)
                                have up : ∀ {q j : Nat} {v : Value}, q < w1.heap.size → w1.cell? ⟨q, j, none⟩ = some v → ∀ w', Ab wr.drew w' → w'.cell? ⟨q, j, none⟩ = some v := fun hq hv w' h => ((Below.cell h (p := ⟨_, _, none⟩) (Nat.lt_of_lt_of_le hq hbw.size)).trans (hbw.cell (p := ⟨_, _, none⟩) hq)).trans hv
                                have up5 : ∀ {q j : Nat} {v : Value}, q < w5.heap.size → w5.cell? ⟨q, j, none⟩ = some v → ∀ w', Ab wr.drew w' → w'.cell? ⟨q, j, none⟩ = some v := fun hq hv w' h => ((Below.cell h (p := ⟨_, _, none⟩) (Nat.lt_of_lt_of_le hq hb.size)).trans (hb.cell (p := ⟨_, _, none⟩) hq)).trans hv
                                have a0 := up hbsd.out (hgd.out 0 _ rfl)
                                have a1 := up hbsd.out (hgd.out 1 _ rfl)
                                have a2 := up hbsd.out (hgd.out 2 _ rfl)
                                have b0 := up5 hbs2 (hg2 0 _ rfl)
                                have b1 := up5 hbs2 (hg2 1 _ rfl)
                                have b2f := up5 hbs2 (hg2 2 _ rfl)
                                have sx : ∀ w', Ab wr.drew w' → Bytes w' w'.heap.size (.slice Ax nx cx) d.payload := fun w' h => (hrxd.out.fr (Fr.of_below (F := fun i => w1.heap.size ≤ i) (hbw.trans (((ab_drew wr).mono hbw.size).trans (Below.mono h (Nat.le_trans hbw.size (ab_drew wr).size))))) (fun i h => by omega)).all
                                have sy : ∀ w', Ab wr.drew w' → Bytes w' w'.heap.size (.slice Ay ny cy) e.payload := fun w' h => (hry.fr (Fr.of_below (F := fun i => w5.heap.size ≤ i) (hb.trans (((ab_drew wr).mono hb.size).trans (Below.mono h (Nat.le_trans hb.size (ab_drew wr).size))))) (fun i h => by omega)).all
                                have hnn2 : ∀ b : Int, (b != b) = false := fun b => by simp
                                have hss : ∀ b : List UInt8, (b != b) = false := fun b => by simp
                                clear he hg2 hry hbs2 up up5 hb hbw
                                by_cases h0 : d.origin = e.origin
                                · have h0b : (d.origin == d.origin) = true := by simp
                                  rw [← h0] at b0
                                  by_cases h1 : d.number = e.number
                                  · have h1b : (d.number == d.number) = true := by simp
                                    have hpp := had.out.same i' j' p r d e h4d.out h6d.out (List.mem_of_getElem? hdd.out) (List.mem_of_getElem? hed.out) h0 h1
                                    have hpb : (d.payload.toArray != d.payload.toArray) = false := by simp
                                    rw [← h1] at b1
                                    rw [← hpp] at sy
                                    by_cases hijx : i' = j'
                                    · obtain rfl : r = p := by
                                        have h7 := h6d.out
                                        rw [← hijx, h4d.out] at h7
                                        cases h7; rfl
                                      obtain rfl : m = k := by
                                        have h7 := had.out.once i' r h4d.out
                                        refine nodup_at h7 (x := (d.origin, d.number)) ?_ ?_
                                        · rw [List.getElem?_map, hed.out, h0, h1]; rfl
                                        · rw [List.getElem?_map, hdd.out]; rfl
                                      subst hijx
                                      have f5 : ((i' : Int) == (i' : Int)) = true := by simp
                                      have f6 : ((m : Int) != (m : Int)) = false := by simp
                                      clear h0 h1 hpp
                                      go_wp2_with fail
                                      refine wp_region_late Ab Ab.refl Ab.trans [] (.last [0, 1, 5, 6] [2, 3, 4, 7, 8, 9, 10, 11, 12, 13, 14, 15, 16, 17, 18, 19, 20, 21, 22, 23, 24, 25, 26, 27, 28, 29, 30, 31, 32, 33, 34, 35, 36, 37, 38, 39, 40, 41, 42, 43, 44, 45, 46, 47, 48]) (by kernel_rfl) (by kernel_rfl) (fun _ _ _ _ _ h => h) ?_
                                      simp only [wpSchV, ordPick, Option.toList_some, List.cons_append, List.nil_append, List.getElem?_cons_succ, List.getElem?_cons_zero]
                                      iterate 4 (go_big_quiet_step (exact fun _ => rfl))
                                      refine wpQuiet_nil ?_
                                      iterate 2 (go_big_quiet_step (exact fun _ => rfl))
                                      refine wpq_load_one rfl 3 (.tmp 162) rfl ⟨b, off + m * 3, none⟩ rfl _ a0 _ Try.underlying3 rfl ?_
                                      simp only [Act.put, List.setIfInBounds_toArray, List.set_cons_succ, List.set_cons_zero]
                                      iterate 2 (go_big_quiet_step (exact fun _ => rfl))
                                      refine wpq_load_one rfl 3 (.tmp 167) rfl ⟨b2, off2 + m * 3, none⟩ rfl _ b0 _ Try.underlying3 rfl ?_
                                      simp only [Act.put, List.setIfInBounds_toArray, List.set_cons_succ, List.set_cons_zero]
                                      iterate 6 (go_big_quiet_step (exact fun _ => rfl))
                                      refine wpq_load_w rfl 3 (.tmp 174) rfl ⟨b, off + m * 3 + 1, none⟩ rfl _ a1 _ Try.underlying3 rfl ?_
                                      simp only [Act.put, List.setIfInBounds_toArray, List.set_cons_succ, List.set_cons_zero]
                                      iterate 4 (go_big_quiet_step (exact fun _ => rfl))
                                      refine wpq_load_w rfl 3 (.tmp 179) rfl ⟨b2, off2 + m * 3 + 1, none⟩ rfl _ b1 _ Try.underlying3 rfl ?_
                                      simp only [Act.put, List.setIfInBounds_toArray, List.set_cons_succ, List.set_cons_zero]
                                      iterate 7 (go_big_quiet_step (exact fun _ => rfl))
                                      refine wpq_load_w rfl 33 (.tmp 187) rfl ⟨b, off + m * 3 + 2, none⟩ rfl _ a2 _ Try.underlying33 rfl ?_
                                      simp only [Act.put, List.setIfInBounds_toArray, List.set_cons_succ, List.set_cons_zero]
                                      refine wpq_string rfl 33 9 5 (.tmp 188) rfl Try.underlying33 Try.underlying5 Try.underlying9 _ _ _ rfl _ sx ?_
                                      simp only [Act.put, List.setIfInBounds_toArray, List.set_cons_succ, List.set_cons_zero]
                                      iterate 4 (go_big_quiet_step (exact fun _ => rfl))
                                      refine wpq_load_w rfl 33 (.tmp 193) rfl ⟨b2, off2 + m * 3 + 2, none⟩ rfl _ b2f _ Try.underlying33 rfl ?_
                                      simp only [Act.put, List.setIfInBounds_toArray, List.set_cons_succ, List.set_cons_zero]
                                      refine wpq_string rfl 33 9 5 (.tmp 194) rfl Try.underlying33 Try.underlying5 Try.underlying9 _ _ _ rfl _ sy ?_
                                      simp only [Act.put, List.setIfInBounds_toArray, List.set_cons_succ, List.set_cons_zero]
                                      iterate 12 (go_big_quiet_step (exact fun _ => rfl))
                                      refine wpQuiet_nil ?_
                                      clear a0 a1 a2 b0 b1 b2f sx sy
                                      go_wp2_with fail
                                      go_roundw
                                      case rel => exact ⟨m + 1, by omega, by go_num, hb6.out.trans ((ab_drew wr).mono hb6.out.size)⟩
                                      case measure => simp [intOf]; omega
                                    · have f5 : ((i' : Int) == (j' : Int)) = false := by simp; omega
                                      clear h0 h1 hpp hijx
                                      go_wp2_with fail
                                      refine wp_region_late Ab Ab.refl Ab.trans [] (.last [0, 1, 5, 6] [2, 3, 4, 7, 8, 9, 10, 11, 12, 13, 14, 15, 16, 17, 18, 19, 20, 21, 22, 23, 24, 25, 26, 27, 28, 29, 30, 31, 32, 33, 34, 35, 36, 37, 38, 39, 40, 41, 42, 43, 44, 45, 46, 47, 48]) (by kernel_rfl) (by kernel_rfl) (fun _ _ _ _ _ h => h) ?_
                                      simp only [wpSchV, ordPick, Option.toList_some, List.cons_append, List.nil_append, List.getElem?_cons_succ, List.getElem?_cons_zero]
                                      iterate 4 (go_big_quiet_step (exact fun _ => rfl))
                                      refine wpQuiet_nil ?_
                                      iterate 2 (go_big_quiet_step (exact fun _ => rfl))
                                      refine wpq_load_one rfl 3 (.tmp 162) rfl ⟨b, off + k * 3, none⟩ rfl _ a0 _ Try.underlying3 rfl ?_
                                      simp only [Act.put, List.setIfInBounds_toArray, List.set_cons_succ, List.set_cons_zero]
                                      iterate 2 (go_big_quiet_step (exact fun _ => rfl))
                                      refine wpq_load_one rfl 3 (.tmp 167) rfl ⟨b2, off2 + m * 3, none⟩ rfl _ b0 _ Try.underlying3 rfl ?_
                                      simp only [Act.put, List.setIfInBounds_toArray, List.set_cons_succ, List.set_cons_zero]
                                      iterate 6 (go_big_quiet_step (exact fun _ => rfl))
                                      refine wpq_load_w rfl 3 (.tmp 174) rfl ⟨b, off + k * 3 + 1, none⟩ rfl _ a1 _ Try.underlying3 rfl ?_
                                      simp only [Act.put, List.setIfInBounds_toArray, List.set_cons_succ, List.set_cons_zero]
                                      iterate 4 (go_big_quiet_step (exact fun _ => rfl))
                                      refine wpq_load_w rfl 3 (.tmp 179) rfl ⟨b2, off2 + m * 3 + 1, none⟩ rfl _ b1 _ Try.underlying3 rfl ?_
                                      simp only [Act.put, List.setIfInBounds_toArray, List.set_cons_succ, List.set_cons_zero]
                                      iterate 7 (go_big_quiet_step (exact fun _ => rfl))
                                      refine wpq_load_w rfl 33 (.tmp 187) rfl ⟨b, off + k * 3 + 2, none⟩ rfl _ a2 _ Try.underlying33 rfl ?_
                                      simp only [Act.put, List.setIfInBounds_toArray, List.set_cons_succ, List.set_cons_zero]
                                      refine wpq_string rfl 33 9 5 (.tmp 188) rfl Try.underlying33 Try.underlying5 Try.underlying9 _ _ _ rfl _ sx ?_
                                      simp only [Act.put, List.setIfInBounds_toArray, List.set_cons_succ, List.set_cons_zero]
                                      iterate 4 (go_big_quiet_step (exact fun _ => rfl))
                                      refine wpq_load_w rfl 33 (.tmp 193) rfl ⟨b2, off2 + m * 3 + 2, none⟩ rfl _ b2f _ Try.underlying33 rfl ?_
                                      simp only [Act.put, List.setIfInBounds_toArray, List.set_cons_succ, List.set_cons_zero]
                                      refine wpq_string rfl 33 9 5 (.tmp 194) rfl Try.underlying33 Try.underlying5 Try.underlying9 _ _ _ rfl _ sy ?_
                                      simp only [Act.put, List.setIfInBounds_toArray, List.set_cons_succ, List.set_cons_zero]
                                      iterate 12 (go_big_quiet_step (exact fun _ => rfl))
                                      refine wpQuiet_nil ?_
                                      clear a0 a1 a2 b0 b1 b2f sx sy
                                      go_wp2_with fail
                                      go_roundw
                                      case rel => exact ⟨m + 1, by omega, by go_num, hb6.out.trans ((ab_drew wr).mono hb6.out.size)⟩
                                      case measure => simp [intOf]; omega
                                  · have h1b : (d.number == e.number) = false := by simpa using h1
                                    clear h0 h1
                                    go_wp2_with fail
                                    refine wp_region_late Ab Ab.refl Ab.trans [] (.last [0, 1, 5, 6] [2, 3, 4, 7, 8, 9, 10, 11, 12, 13, 14, 15, 16, 17, 18, 19, 20, 21, 22, 23, 24, 25, 26, 27, 28, 29, 30, 31, 32, 33, 34, 35, 36, 37, 38, 39, 40, 41, 42, 43, 44, 45, 46, 47, 48]) (by kernel_rfl) (by kernel_rfl) (fun _ _ _ _ _ h => h) ?_
                                    simp only [wpSchV, ordPick, Option.toList_some, List.cons_append, List.nil_append, List.getElem?_cons_succ, List.getElem?_cons_zero]
                                    iterate 4 (go_big_quiet_step (exact fun _ => rfl))
                                    refine wpQuiet_nil ?_
                                    iterate 2 (go_big_quiet_step (exact fun _ => rfl))
                                    refine wpq_load_one rfl 3 (.tmp 162) rfl ⟨b, off + k * 3, none⟩ rfl _ a0 _ Try.underlying3 rfl ?_
                                    simp only [Act.put, List.setIfInBounds_toArray, List.set_cons_succ, List.set_cons_zero]
                                    iterate 2 (go_big_quiet_step (exact fun _ => rfl))
                                    refine wpq_load_one rfl 3 (.tmp 167) rfl ⟨b2, off2 + m * 3, none⟩ rfl _ b0 _ Try.underlying3 rfl ?_
                                    simp only [Act.put, List.setIfInBounds_toArray, List.set_cons_succ, List.set_cons_zero]
                                    iterate 6 (go_big_quiet_step (exact fun _ => rfl))
                                    refine wpq_load_w rfl 3 (.tmp 174) rfl ⟨b, off + k * 3 + 1, none⟩ rfl _ a1 _ Try.underlying3 rfl ?_
                                    simp only [Act.put, List.setIfInBounds_toArray, List.set_cons_succ, List.set_cons_zero]
                                    iterate 4 (go_big_quiet_step (exact fun _ => rfl))
                                    refine wpq_load_w rfl 3 (.tmp 179) rfl ⟨b2, off2 + m * 3 + 1, none⟩ rfl _ b1 _ Try.underlying3 rfl ?_
                                    simp only [Act.put, List.setIfInBounds_toArray, List.set_cons_succ, List.set_cons_zero]
                                    iterate 27 (go_big_quiet_step (exact fun _ => rfl))
                                    refine wpQuiet_nil ?_
                                    clear a0 a1 a2 b0 b1 b2f sx sy
                                    go_wp2_with fail
                                    go_roundw
                                    case rel => exact ⟨m + 1, by omega, by go_num, hb6.out.trans ((ab_drew wr).mono hb6.out.size)⟩
                                    case measure => simp [intOf]; omega
                                · have h0b : (d.origin == e.origin) = false := by simpa using h0
                                  clear h0
                                  go_wp2_with fail
                                  refine wp_region_late Ab Ab.refl Ab.trans [] (.last [0, 1, 5, 6] [2, 3, 4, 7, 8, 9, 10, 11, 12, 13, 14, 15, 16, 17, 18, 19, 20, 21, 22, 23, 24, 25, 26, 27, 28, 29, 30, 31, 32, 33, 34, 35, 36, 37, 38, 39, 40, 41, 42, 43, 44, 45, 46, 47, 48]) (by kernel_rfl) (by kernel_rfl) (fun _ _ _ _ _ h => h) ?_
                                  simp only [wpSchV, ordPick, Option.toList_some, List.cons_append, List.nil_append, List.getElem?_cons_succ, List.getElem?_cons_zero]
                                  iterate 4 (go_big_quiet_step (exact fun _ => rfl))
                                  refine wpQuiet_nil ?_
                                  iterate 2 (go_big_quiet_step (exact fun _ => rfl))
                                  refine wpq_load_one rfl 3 (.tmp 162) rfl ⟨b, off + k * 3, none⟩ rfl _ a0 _ Try.underlying3 rfl ?_
                                  simp only [Act.put, List.setIfInBounds_toArray, List.set_cons_succ, List.set_cons_zero]
                                  iterate 2 (go_big_quiet_step (exact fun _ => rfl))
                                  refine wpq_load_one rfl 3 (.tmp 167) rfl ⟨b2, off2 + m * 3, none⟩ rfl _ b0 _ Try.underlying3 rfl ?_
                                  simp only [Act.put, List.setIfInBounds_toArray, List.set_cons_succ, List.set_cons_zero]
                                  iterate 39 (go_big_quiet_step (exact fun _ => rfl))
                                  refine wpQuiet_nil ?_
                                  clear a0 a1 a2 b0 b1 b2f sx sy
                                  go_wp2_with fail
                                  go_roundw
                                  case rel => exact ⟨m + 1, by omega, by go_num, hb6.out.trans ((ab_drew wr).mono hb6.out.size)⟩
                                  case measure => simp [intOf]; omega
                              · have hmI : ¬ (m : Int) < (n5 : Int) := by omega
                                go_wp2_with fail
                                go_roundw
                                case rel => exact ⟨j' + 1, by omega, by omega, by go_num, hb15.out.trans (hb.mono hb15.out.size)⟩
                                case measure => simp [intOf]; omega
                      · have hjI : ¬ (j : Int) < (an : Int) := by omega
                        go_wp2_with fail
                        go_roundw
                        case rel => exact ⟨k + 1, by omega, by go_num, hb5.out⟩
                        case measure => simp [intOf]; omega
            · have hkI : ¬ (k : Int) < (n1 : Int) := by omega
              go_wp2_with fail
              go_roundw
              case rel => exact ⟨i' + 1, by omega, by go_num, hbd1.out.trans (hb.mono hbd1.out.size)⟩
              case measure => simp [intOf]; omega
    · have hltI : ¬ (i : Int) < (an : Int) := by omega
      go_wp2_with fail
      go_ret
      exact ⟨rfl, hbd.out⟩
end Go.Proofs.Ytplijfgjdlghbaa
