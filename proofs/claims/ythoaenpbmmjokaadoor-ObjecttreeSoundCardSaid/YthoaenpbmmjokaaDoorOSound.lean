/-
  What is accepted against the root of a map is true, unless two different byte strings with the same digest occur.
-/
import Derived.Test.YthoaenpbmmjokaaDoorObArg
import Derived.Test.YthoaenpbmmjokaaDoorObAwk
import Derived.Test.YthoaenpbmmjokaaDoorObSm
import Derived.Test.YthoaenpbmmjokaaDoorObCla
import Derived.Test.YthoaenpbmmjokaaDoorObFol
import Derived.Test.YthoaenpbmmjokaaDoorObBy
namespace Go.Proofs.YthoaenpbmmjokaaDoor
open Go.RowKit Go.Pl
set_option maxRecDepth 100000 in
set_option maxHeartbeats 1000000 in
theorem truth_any (w : World) {X : Option Addr} {xn xc : Nat} {xs : List Ob.It} (hX : RdI w (fun _ => True) X xn xc xs) {x : Ob.It} {A B : Option Addr} {n c m d : Nat} (hA : Rd w (fun _ => True) A n c x.content) (hn : xn ≤ 100000) :
    Calls Tryd.prog 16 #[.slice X xn xc, .agg #[.string ⟨x.key.toArray⟩, .bool x.present, .slice A n c, .slice B m d]] w fun e w' => e = .returned (.bool (Ob.truthP xs x)) ∧ Below w.heap.size w w' := by
  obtain ⟨w1, hw1⟩ : ∃ v, w.alloc (.cells #[.string ⟨x.key.toArray⟩, .bool x.present, .slice A n c, .slice B m d] 26) = v := ⟨_, rfl⟩
  have hG1 : Blk w1 w.heap.size 26 #[.string ⟨x.key.toArray⟩, .bool x.present, .slice A n c, .slice B m d] := by rw [← hw1]; exact Blk.new' rfl
  have hb1 : Below w.heap.size w w1 := by rw [← hw1]; exact (Below.refl _ _).alloc (Nat.le_refl _) _
  have hf1 : Fr (fun _ => False) w w1 := Fr.of_below hb1
  have hX1 := Lib.hid (hX.fr hf1 (fun _ _ h => h))
  have hA1 := Lib.hid (hA.fr hf1 (fun _ _ h => h))
  have hxl : Hid (xn = xs.length) := hX.len
  have hb1d := Lib.hid hb1
  have hw1d := Lib.hid hw1
  have hGd := Lib.hid hG1
  clear hX hA hw1 hG1 hb1 hf1
  go_enter Tryd.func16, Tryd.ntmps16
  go_wp2_with fail
  rw [hw1d.out]
  obtain ⟨G, hG⟩ : ∃ G, w.heap.size = G := ⟨_, rfl⟩
  rw [hG] at hGd ⊢
  have hGG := Lib.hid hG
  clear hG
  go_loopw [5] (fun t5 wr => ∃ i : Nat, i ≤ xn ∧ t5 = .int .i64 i ∧ (∀ (j : Nat) (z : Ob.It), j < i → xs[j]? = some z → (z.key == x.key) = false) ∧ Ab w1 wr) (fun t5 _ => xn - (intOf t5).toNat)
  case atStart => exact ⟨0, by omega, rfl, fun j z h => by omega, Ab.refl _⟩
  case round =>
    obtain ⟨i, hi, rfl, hok, hb⟩ := hrel
    have hokd := Lib.hid hok
    have hab := Lib.hid hb
    have hbr : Hid (Below w.heap.size w wr) := hb1d.out.trans (hb.mono hb1d.out.size)
    have kGr := hGd.out.below hb hGd.out.lt
    have kGd := Lib.hid kGr
    clear hok hb
    by_cases hlt : i < xn
    · have hltI : (i : Int) < (xn : Int) := by omega
      obtain ⟨y, hy⟩ : ∃ y, xs[i]? = some y := ⟨_, List.getElem?_eq_getElem (by have := hxl.out; omega)⟩
      obtain ⟨b, o, s, p, rfl, -, hbl, ⟨A2, n2, c2, rfl, r2⟩, -, y0, -, y2, -⟩ := hX1.out.get hy
      have e0 := (hab.out.cell (p := ⟨b, o + i * 4, none⟩) hbl).trans y0
      have e2 := (hab.out.cell (p := ⟨b, o + i * 4 + 2, none⟩) hbl).trans y2
      have g0 := (kGr.cell 0).trans rfl
      have hyd := Lib.hid hy
      have r2d := Lib.hid r2
      have hbld := Lib.hid hbl
      clear kGr hy r2 y0 y2
      by_cases hk : y.key = x.key
      · have q1 := str_eq (a := y.key) (b := x.key) true ⟨fun _ => hk, fun _ => rfl⟩
        have q2 : (y.key == x.key) = true := by simpa using hk
        have hfi : Hid (xs.find? (fun y => y.key == x.key) = some y) := Ob.find_at hyd.out q2 hokd.out
        have hkd := Lib.hid hk
        clear hk
        go_upto_region 4 with fail
        go_quiet (fail)
        go_upto_region 5 with fail
        obtain ⟨w4, hw4⟩ : ∃ v, wr.drewN nq = v := ⟨_, rfl⟩
        have f4 : Hid (Fr (fun _ => False) wr w4) := by show Fr _ _ _; rw [← hw4]; exact (Fr.refl (fun _ => False) wr).drewN _
        rw [hw4]
        clear hw4 e0 g0 q1
        have b4 : Hid (Below w.heap.size w w4) := hbr.out.trans (f4.out.below (fun _ h => h.elim) hbr.out.size)
        have k4 := kGd.out.fr f4.out (fun h => h)
        by_cases hpr : x.present = true
        · have u1 : ∀ w', Ab w4.drew w' → w'.cell? ⟨G, 1, none⟩ = some (.bool true) := fun w' h => (Below.cell h (p := ⟨G, 1, none⟩) k4.lt).trans ((k4.cell 1).trans (by rw [hpr]; rfl))
          have u2 : ∀ w', Ab w4.drew w' → w'.cell? ⟨G, 2, none⟩ = some (.slice A n c) := fun w' h => (Below.cell h (p := ⟨G, 2, none⟩) k4.lt).trans ((k4.cell 2).trans rfl)
          have hb4l : b < w4.heap.size := Nat.lt_of_lt_of_le (Nat.lt_of_lt_of_le hbld.out hab.out.size) f4.out.size
          have e24 := (f4.out.cell (p := ⟨b, o + i * 4 + 2, none⟩) (Nat.lt_of_lt_of_le hbld.out hab.out.size) (fun h => h)).trans e2
          have u3 : ∀ w', Ab w4.drew w' → w'.cell? ⟨b, o + i * 4 + 2, none⟩ = some (.slice A2 n2 c2) := fun w' h => (Below.cell h (p := ⟨b, o + i * 4 + 2, none⟩) hb4l).trans e24
          have f14 : Fr (fun _ => False) w1 w4 := (Fr.of_below (F := fun _ => False) hab.out).trans f4.out (fun _ h => h.elim)
          have u5 : ∀ w', Ab w4.drew w' → Bytes w' w'.heap.size (.slice A2 n2 c2) y.content := fun w' h => (((r2d.out.fr f14 (fun _ _ h => h)).ab (ab_drew w4)).ab h).bytes (fun i hi _ => hi)
          have u6 : ∀ w', Ab w4.drew w' → Bytes w' w'.heap.size (.slice A n c) x.content := fun w' h => (((hA1.out.fr f14 (fun _ _ h => h)).ab (ab_drew w4)).ab h).bytes (fun i hi _ => hi)
          have q5 : ((⟨y.content.toArray⟩ : ByteArray).toList == (⟨x.content.toArray⟩ : ByteArray).toList) = (y.content == x.content) := by rw [Ob.toList_bytes, Ob.toList_bytes]
          have hF : Hid (Ob.truthP xs x = (y.content == x.content)) := by show _ = _; unfold Ob.truthP; rw [hfi.out, hpr]; simp
          clear e2 e24 k4 hbl f14 hb4l hpr q2
          refine wp_region_plan Ab Ab.refl Ab.trans [] [0, 1, 2, 3, 4, 5, 6, 7, 8, 9, 10, 11, 12, 13, 14] (by kernel_rfl) (by kernel_rfl) (fun _ _ _ _ _ h => h) ?_
          simp only [wpPlan, ordPick, Option.toList_some, List.cons_append, List.nil_append, List.getElem?_cons_succ, List.getElem?_cons_zero]
          iterate 1 (go_big_quiet_step (exact fun _ => rfl))
          refine wpq_load_one rfl 4 (.tmp 20) rfl ⟨G, 1, none⟩ rfl _ u1 _ Tryd.underlying4 rfl ?_
          simp only [Act.put, List.setIfInBounds_toArray, List.set_cons_succ, List.set_cons_zero]
          iterate 5 (go_big_quiet_step (exact fun _ => rfl))
          refine wpq_load_w rfl 23 (.tmp 26) rfl ⟨b, o + i * 4 + 2, none⟩ rfl _ u3 _ Tryd.underlying23 rfl ?_
          simp only [Act.put, List.setIfInBounds_toArray, List.set_cons_succ, List.set_cons_zero]
          refine wpq_string rfl 23 9 5 (.tmp 27) rfl Tryd.underlying23 Tryd.underlying5 Tryd.underlying9 A2 n2 c2 rfl y.content u5 ?_
          simp only [Act.put, List.setIfInBounds_toArray, List.set_cons_succ, List.set_cons_zero]
          iterate 1 (go_big_quiet_step (exact fun _ => rfl))
          refine wpq_load_w rfl 23 (.tmp 29) rfl ⟨G, 2, none⟩ rfl _ u2 _ Tryd.underlying23 rfl ?_
          simp only [Act.put, List.setIfInBounds_toArray, List.set_cons_succ, List.set_cons_zero]
          refine wpq_string rfl 23 9 5 (.tmp 30) rfl Tryd.underlying23 Tryd.underlying5 Tryd.underlying9 A n c rfl x.content u6 ?_
          simp only [Act.put, List.setIfInBounds_toArray, List.set_cons_succ, List.set_cons_zero]
          iterate 3 (go_big_quiet_step (exact fun _ => rfl))
          refine wpQuiet_nil ?_
          go_wp2_with fail
          go_ret
          exact ⟨by rw [hF.out]; rfl, b4.out.trans ((ab_drew w4).mono b4.out.size)⟩
        · have hpr' : x.present = false := by simpa using hpr
          have g1 : w4.cell? ⟨G, 1, none⟩ = some (.bool false) := (k4.cell 1).trans (by rw [hpr']; rfl)
          have hF : Hid (Ob.truthP xs x = false) := by show _ = _; unfold Ob.truthP; rw [hfi.out, hpr']; rfl
          clear k4 hpr e2 hbl q2
          go_quiet (fail)
          go_wp2_with fail
          go_ret
          exact ⟨by rw [hF.out]; rfl, b4.out.trans ((Fr.refl (fun _ => False) w4).drewN _ |>.below (fun _ h => h.elim) b4.out.size)⟩
      · have q1 := str_eq (a := y.key) (b := x.key) false ⟨fun h => (by cases h), fun h => (hk h).elim⟩
        have q2 : (y.key == x.key) = false := by simpa using hk
        have q2d := Lib.hid q2
        clear hk
        go_upto_region 4 with fail
        go_quiet (fail)
        go_wp2_with fail
        go_roundw
        case rel =>
          refine ⟨i + 1, hlt, by go_num, fun j z hj hz => ?_, Ab.trans _ _ _ hab.out ((Fr.refl (fun _ => False) wr).drewN _ |>.below (fun _ h => h.elim) (Nat.le_refl _))⟩
          rcases Nat.lt_or_ge j i with h | h
          · exact hokd.out j z h hz
          · obtain rfl : j = i := by omega
            rw [hyd.out] at hz
            cases hz
            exact q2d.out
        case measure => simp [intOf]; omega
    · have hltI : ¬ (i : Int) < (xn : Int) := by omega
      have hF : Hid (Ob.truthP xs x = !x.present) := by
        show _ = _
        have hnone : xs.find? (fun y => y.key == x.key) = none := by
          refine List.find?_eq_none.2 fun z hz => ?_
          obtain ⟨j, hj⟩ := List.getElem?_of_mem hz
          have := (List.getElem?_eq_some_iff.1 hj).1
          have h2 := hokd.out j z (by have := hxl.out; omega) hj
          rw [h2]
          exact Bool.false_ne_true
        unfold Ob.truthP
        rw [hnone]
      have g1 := (kGr.cell 1).trans rfl
      clear kGr
      go_wp2_with fail
      go_ret
      exact ⟨by rw [hF.out]; rfl, hbr.out⟩
end Go.Proofs.YthoaenpbmmjokaaDoor
namespace Ob
theorem climb_bounds {key : Key} : ∀ {l : List (List UInt8)} {ab : Nat} {d0 d : List UInt8} {tk0 tk : List (List UInt8)}, climb key l ab d0 tk0 = some (d, tk) → d0.length = 32 → (∀ u ∈ tk0, u.length ≤ 1000000000) → tk.length ≤ tk0.length + l.length ∧ ∀ u ∈ tk, u.length ≤ 1000000000
  | [], ab, d0, d, tk0, tk, h, h0, hb => by cases h; exact ⟨by simp, hb⟩
  | s :: l, ab, d0, d, tk0, tk, h, h0, hb => by
    simp only [climb] at h
    split at h
    · rename_i hc
      have hs : (stepB key s d0).length ≤ 1000000000 := by
        unfold stepB
        split <;> simp only [nodeB, List.length_cons, List.length_append, num_len, List.length_drop] <;> omega
      obtain ⟨i1, i2⟩ := climb_bounds h (Sha.length_sha _) (fun u hu => by
        rcases List.mem_append.1 hu with hu | hu
        · exact hb u hu
        · rw [List.mem_singleton.1 hu]; exact hs)
      refine ⟨?_, i2⟩
      rw [List.length_append, List.length_singleton] at i1
      rw [List.length_cons]
      omega
    · cases h
theorem follow_bounds {x : It} {d : List UInt8} {tk : List (List UInt8)} (h : followP x = some (d, tk)) (hk : x.key.length ≤ 1000000) (hc : x.content.length ≤ 1000000) : tk.length ≤ 2 + x.path.length ∧ ∀ u ∈ tk, u.length ≤ 1000000000 := by
  unfold followP at h
  split at h
  · cases hst : startP x with
    | none => rw [hst] at h; cases h
    | some y =>
      obtain ⟨d0, tk0, st⟩ := y
      rw [hst] at h
      simp only at h
      have hf := startP_facts hst
      have ht : tk0.length ≤ 2 ∧ ∀ u ∈ tk0, u.length ≤ 1000000000 := by
        unfold startP at hst
        split at hst
        · cases hst
          refine ⟨by simp, fun u hu => ?_⟩
          simp only [List.mem_cons, List.not_mem_nil, or_false] at hu
          rcases hu with rfl | rfl
          · omega
          · simp only [leafB, List.length_cons, List.length_append, num_len, Sha.length_sha]; omega
        · split at hst
          · split at hst
            · cases hst
              refine ⟨by simp, fun u hu => ?_⟩
              rw [List.mem_singleton.1 hu]
              decide
            · rename_i l hl
              split at hst
              · rename_i hcc
                cases hst
                refine ⟨by simp, fun u hu => ?_⟩
                rw [List.mem_singleton.1 hu]
                simp only [leafB, List.length_cons, List.length_append, num_len, List.length_take, List.length_drop]
                omega
              · cases hst
          · cases hst
      obtain ⟨i1, i2⟩ := climb_bounds h hf.1 ht.2
      refine ⟨?_, i2⟩
      rw [List.length_reverse] at i1
      have := hf.2.1
      have := ht.1
      omega
  · cases h
end Ob
namespace Go.Proofs.YthoaenpbmmjokaaDoor.objecttreeSound
open Go.ChangeShapes Go.WideShapes Go.ChangeAt Go.RowKit Go.Pl
theorem ismap_keys {xs : List Ob.It} (h : Ob.IsMap xs) : ∀ x ∈ xs, x.key.length ≤ 65536 := by
  intro x hx
  obtain ⟨i, hi⟩ := List.getElem?_of_mem hx
  obtain ⟨y, h1, h2, h3, h4, _⟩ := h i (List.getElem?_eq_some_iff.1 hi).1
  rw [hi] at h1
  cases h1
  exact h4
set_option maxRecDepth 100000 in
set_option maxHeartbeats 2000000 in
theorem walk {X A B : Option Addr} {xn xc n c m d : Nat} {xs : List Ob.It} {x : Ob.It} (w : World) (hK : Kst w) (hX : RdI w (fun _ => True) X xn xc xs) (hA : Rd w (fun _ => True) A n c x.content) (hB : RdS w (fun _ => True) B m d x.path) :
    Calls Tryd.prog 3 #[.slice X xn xc, .agg #[.string ⟨x.key.toArray⟩, .bool x.present, .slice A n c, .slice B m d]] w fun e w' => e = .returned (.bool true) ∧ Below w.heap.size w w' := by
  obtain ⟨w1, hw1⟩ : ∃ v, w.alloc (.cells #[.string ⟨x.key.toArray⟩, .bool x.present, .slice A n c, .slice B m d] 26) = v := ⟨_, rfl⟩
  have hG1 : Blk w1 w.heap.size 26 #[.string ⟨x.key.toArray⟩, .bool x.present, .slice A n c, .slice B m d] := by rw [← hw1]; exact Blk.new' rfl
  have hb1 : Below w.heap.size w w1 := by rw [← hw1]; exact (Below.refl _ _).alloc (Nat.le_refl _) _
  have hnl := Lib.hid hX.len
  have hXd := Lib.hid hX
  have hAd := Lib.hid hA
  have hBd := Lib.hid hB
  have hb1d := Lib.hid hb1
  have hw1d := Lib.hid hw1
  have hG1d := Lib.hid hG1
  have up : ∀ w', Below w.heap.size w w' → RdI w' (fun _ => True) X xn xc xs := fun _ h => hXd.out.fr (Fr.of_below (F := fun _ => False) h) (fun _ _ h => h)
  have upd := Lib.hid up
  have ua : ∀ w', Below w.heap.size w w' → Rd w' (fun _ => True) A n c x.content := fun _ h => hAd.out.fr (Fr.of_below (F := fun _ => False) h) (fun _ _ h => h)
  have uad := Lib.hid ua
  have ub : ∀ w', Below w.heap.size w w' → RdS w' (fun _ => True) B m d x.path := fun _ h => hBd.out.fr (Fr.of_below (F := fun _ => False) h) (fun _ _ h => h)
  have ubd := Lib.hid ub
  clear hX hA hB hb1 hw1 hG1 up ua ub
  go_enter Tryd.func3, Tryd.ntmps3
  go_wp2_with fail
  rw [hw1d.out]
  refine (awake_any w1 (hK.below hb1d.out hK.pos)).mono ?_
  rintro e w2 ⟨rfl, hb2⟩
  have hb2d : Hid (Below w.heap.size w w2) := hb1d.out.trans (hb2.mono hb1d.out.size)
  have k2 : Blk w2 w.heap.size 26 #[.string ⟨x.key.toArray⟩, .bool x.present, .slice A n c, .slice B m d] := hG1d.out.below hb2 hG1d.out.lt
  have k2d := Lib.hid k2
  clear hb2 k2 hw1d hG1d
  go_wp2_with fail
  obtain ⟨G, hG⟩ : ∃ G, w.heap.size = G := ⟨_, rfl⟩
  have hGG := Lib.hid hG
  rw [hG] at k2d ⊢
  clear hG
  by_cases hs : Ob.Small xs
  · refine (small_any w2 (upd.out _ hb2d.out) true ⟨fun _ => hs, fun _ => rfl⟩).mono ?_
    rintro e w3 ⟨rfl, rfl⟩
    have hsm := Lib.hid hs
    have hks : Hid (∀ x ∈ xs, x.key.length ≤ 100000 ∧ x.content.length ≤ 1000000) := fun x h => by have := hsm.out.2 x h; exact ⟨by have := this.1; omega, by have := this.2.1; omega⟩
    have hn : xn ≤ 20 := by have := hs.1; have := hnl.out; omega
    have hnd := Lib.hid hn
    have g0 := (k2d.out.cell 0).trans rfl
    have g1 := (k2d.out.cell 1).trans rfl
    have g2 := (k2d.out.cell 2).trans rfl
    have g3 := (k2d.out.cell 3).trans rfl
    clear hs hn
    go_wp2_with fail
    obtain ⟨w3, hw3⟩ : ∃ v, w2.alloc (.cells #[.string ⟨x.key.toArray⟩, .bool x.present, .slice A n c, .slice B m d] 26) = v := ⟨_, rfl⟩
    have f23 : Fr (fun _ => False) w2 w3 := by rw [← hw3]; exact (Fr.refl (fun _ => False) w2).alloc _
    have hb3d : Hid (Below w.heap.size w w3) := hb2d.out.trans (f23.below (fun _ h => h.elim) hb2d.out.size)
    have hI : RdI w3 (fun _ => True) (some ⟨w2.heap.size, 0, none⟩) 1 1 [x] := by
      have := rdi_one w2 x (.slice A n c) (.slice B m d) ⟨_, _, _, rfl, by
        show Rd (w2.alloc (.cells #[.string ⟨x.key.toArray⟩, .bool x.present, .slice A n c, .slice B m d] 26)) _ _ _ _ _
        rw [hw3]; exact uad.out _ hb3d.out⟩ ⟨_, _, _, rfl, by
        show RdS (w2.alloc (.cells #[.string ⟨x.key.toArray⟩, .bool x.present, .slice A n c, .slice B m d] 26)) _ _ _ _ _
        rw [hw3]; exact ubd.out _ hb3d.out⟩
      rw [← hw3]
      exact this
    have k3 : Hid (Blk w3 G 26 #[.string ⟨x.key.toArray⟩, .bool x.present, .slice A n c, .slice B m d]) := k2d.out.fr f23 (fun h => h)
    rw [hw3]
    have hId := Lib.hid hI
    clear hw3 f23 hI g0 g1 g2 g3
    by_cases hs : Ob.SmallI x
    · refine (small_any w3 hId.out true ⟨fun _ => ⟨by simp, fun y h => by rw [List.mem_singleton.1 h]; exact hs⟩, fun _ => rfl⟩).mono ?_
      rintro e w4 ⟨rfl, rfl⟩
      have hsd := Lib.hid hs
      have hx1 : Hid (x.key.length ≤ 100000 ∧ x.content.length ≤ 1000000 ∧ x.path.length ≤ 1000 ∧ ∀ p ∈ x.path, p.length ≤ 1000000) := ⟨by have := hs.1; omega, by have := hs.2.1; omega, by have := hs.2.2.1; omega, fun p h => by have := hs.2.2.2 p h; omega⟩
      clear hs hId
      go_wp2_with fail
      by_cases hm : Ob.IsMap xs
      · refine (refmap_any w3 (upd.out _ hb3d.out) (by have := hnd.out; omega) (fun x h => (hks.out x h).1) true ⟨fun _ => hm, fun _ => rfl⟩).mono ?_
        rintro e w4 ⟨rfl, hb4⟩
        have hb4d : Hid (Below w.heap.size w w4) := hb3d.out.trans (hb4.mono hb3d.out.size)
        have k4 : Hid (Blk w4 G 26 #[.string ⟨x.key.toArray⟩, .bool x.present, .slice A n c, .slice B m d]) := k3.out.below hb4 k3.out.lt
        have hmd := Lib.hid hm
        clear hb4 hm
        go_wp2_with fail
        refine (root_map w4 (hK.below hb4d.out hK.pos) (upd.out _ hb4d.out) (by have := hnd.out; omega) hks.out hmd.out).mono ?_
        rintro e w5 ⟨A5, n5, c5, rfl, hr5, hb5⟩
        have r5 := Lib.hid (hr5.mono (T := fun _ => True) (fun _ _ _ => trivial))
        have hb5d : Hid (Below w.heap.size w w5) := hb4d.out.trans (hb5.mono hb4d.out.size)
        have k5 : Hid (Blk w5 G 26 #[.string ⟨x.key.toArray⟩, .bool x.present, .slice A n c, .slice B m d]) := k4.out.below hb5 k4.out.lt
        have g0 := (k5.out.cell 0).trans rfl
        have g1 := (k5.out.cell 1).trans rfl
        have g2 := (k5.out.cell 2).trans rfl
        have g3 := (k5.out.cell 3).trans rfl
        clear hr5 hb5
        go_wp2_with fail
        refine (chk_any w5 (hK.below hb5d.out hK.pos) r5.out (uad.out _ hb5d.out) (ubd.out _ hb5d.out) hx1.out.1 hx1.out.2.1 hx1.out.2.2.1 hx1.out.2.2.2).mono ?_
        rintro e w6 ⟨rfl, hb6⟩
        have hb6d : Hid (Below w.heap.size w w6) := hb5d.out.trans (hb6.mono hb5d.out.size)
        have k6 : Hid (Blk w6 G 26 #[.string ⟨x.key.toArray⟩, .bool x.present, .slice A n c, .slice B m d]) := k5.out.below hb6 k5.out.lt
        clear hb6 g0 g1 g2 g3
        have g0 := (k6.out.cell 0).trans rfl
        have g1 := (k6.out.cell 1).trans rfl
        have g2 := (k6.out.cell 2).trans rfl
        have g3 := (k6.out.cell 3).trans rfl
        by_cases hck : Ob.checkP (Ob.rootH xs) x = true
        · rw [hck]
          obtain ⟨dg, tk, hf, hdg⟩ : ∃ dg tk, Ob.followP x = some (dg, tk) ∧ dg = Ob.rootH xs := by
            cases hf : Ob.followP x with
            | none => rw [Ob.check_none hf] at hck; cases hck
            | some y =>
              obtain ⟨dg, tk⟩ := y
              rw [Ob.check_some hf] at hck
              exact ⟨dg, tk, rfl, by simpa using hck⟩
          have hfd := Lib.hid hf
          have hdgd := Lib.hid hdg
          clear hck hf hdg
          go_wp2_with fail
          refine (truth_any w6 (upd.out _ hb6d.out) (x := x) (uad.out _ hb6d.out) (by have := hnd.out; omega)).mono ?_
          rintro e w7 ⟨rfl, hb7⟩
          have hb7d : Hid (Below w.heap.size w w7) := hb6d.out.trans (hb7.mono hb6d.out.size)
          have k7 : Hid (Blk w7 G 26 #[.string ⟨x.key.toArray⟩, .bool x.present, .slice A n c, .slice B m d]) := k6.out.below hb7 k6.out.lt
          clear hb7 g0 g1 g2 g3
          by_cases htr : Ob.truthP xs x = true
          · rw [htr]
            clear htr
            go_wp2_with fail
            go_ret
            exact ⟨rfl, hb7d.out⟩
          · have htr' : Ob.truthP xs x = false := by simpa using htr
            rw [htr']
            have hncl : Hid (¬ Ob.NoClash (Ob.treeL xs ++ tk)) := fun h => htr (Ob.sound (ismap_asc hmd.out) (ismap_keys hmd.out) hfd.out hdgd.out h)
            have hbt := Lib.hid (Ob.follow_bounds hfd.out (by have := hx1.out.1; omega) hx1.out.2.1)
            have hp40 : Hid (x.path.length ≤ 40) := hsd.out.2.2.1
            clear htr htr'
            go_wp2_with fail
            refine (reftree_any xn w7 X xn xc xs (upd.out _ hb7d.out) (ismap_asc hmd.out) (Nat.le_refl _) (by have := hnd.out; omega) hks.out).mono ?_
            rintro e w8 ⟨A8, n8, c8, V8, rfl, hr8, ⟨P8, pn8, pc8, rfl, hp8⟩, hb8⟩
            have b8 : Hid (Below w.heap.size w w8) := hb7d.out.trans (hb8.mono hb7d.out.size)
            have k8 : Hid (Blk w8 G 26 #[.string ⟨x.key.toArray⟩, .bool x.present, .slice A n c, .slice B m d]) := k7.out.below hb8 k7.out.lt
            have hp8d := Lib.hid hp8
            have g0 := (k8.out.cell 0).trans rfl
            have g1 := (k8.out.cell 1).trans rfl
            have g2 := (k8.out.cell 2).trans rfl
            have g3 := (k8.out.cell 3).trans rfl
            clear hr8 hb8 hp8
            go_wp2_with fail
            refine (follow_any w8 (uad.out _ b8.out) (ubd.out _ b8.out) hx1.out.1 hx1.out.2.1 hx1.out.2.2.1 hx1.out.2.2.2).mono ?_
            rintro e w9 ⟨hb9, hpost⟩
            rw [hfd.out] at hpost
            obtain ⟨A9, n9, c9, P9, pn9, pc9, rfl, hr9, hp9⟩ : ∃ A m c B k e', e = .returned (.tuple #[.slice A m c, .slice B k e', .bool true]) ∧ Rd w9 (fun _ => True) A m c dg ∧ RdS w9 (fun _ => True) B k e' tk := hpost
            have b9 : Hid (Below w.heap.size w w9) := b8.out.trans (hb9.mono b8.out.size)
            have hp89 : Hid (RdS w9 (fun i => i < w9.heap.size) P8 pn8 pc8 (Ob.treeL xs)) := (hp8d.out.fr (Fr.of_below (F := fun _ => False) hb9) (fun _ _ h => h)).mono (fun i hi _ => hi)
            have hp9d : Hid (RdS w9 (fun i => i < w9.heap.size) P9 pn9 pc9 tk) := hp9.mono (fun i hi _ => hi)
            clear hr9 hb9 hp9 g0 g1 g2 g3
            obtain ⟨vs2, ro2, hs2⟩ := hp89.out
            obtain ⟨vs3, ro3, hs3⟩ := hp9d.out
            have hpl2 : pn8 ≤ 61 ∧ pn9 ≤ 61 := by
              have q2 := (Ob.treeL_le _ xs (Nat.le_refl _)).1
              have q3 := hbt.out.1
              have := hp89.out.len
              have := hp9d.out.len
              have := hnl.out
              have := hnd.out
              have := hp40.out
              omega
            have hown := made0_ w9 23 1 w9.heap.size (Nat.le_refl _)
            have ro2' := ro2.fr ((Fr.refl (fun _ => False) w9).alloc (.cells #[] 23)) (fun _ _ h => h)
            have hb6 : Below w9.heap.size w9 (w9.alloc (.cells #[] 23)) := (Below.refl _ _).alloc (Nat.le_refl _) _
            have on2 := hs2.ones
            have on3 := Lib.hid hs3.ones
            have ro3d := Lib.hid ro3
            have hs2d := Lib.hid hs2
            have hs3d := Lib.hid hs3
            have hb6d := Lib.hid hb6
            clear ro2 hs2 ro3 hs3 hb6
            go_wp2_with (at_builtin; refine wpl_app rfl (.tmp 55) (.tmp 56) 24 rfl w9.heap.size 23 _ 1 24 Tryd.underlying24 infoBytes rfl (by decide) (by decide) _ rfl 0 [] hown _ _ pn8 pc8 rfl _ ro2' on2 (by omega) (by simp) pn8 (Nat.zero_add _) ?h2)
            case h2 =>
              intro A6 c6 w6 o6 g6 _
              have hb7 : Below w9.heap.size w9 w6 := hb6d.out.trans (app_below_ g6 (fun k e => (own_lt hown k e).1) hb6d.out.size)
              have ro3' := ro3d.out.fr (Fr.of_below (F := fun _ => False) hb7) (fun _ _ h => h)
              have on3' := on3.out
              have hb7d := Lib.hid hb7
              have hs7 := hb7.size
              clear hown ro2' on2 g6 hb7 hb6d
              go_wp2_with (at_builtin; refine wpl_app rfl (.tmp 57) (.tmp 58) 24 rfl w9.heap.size 23 _ 1 24 Tryd.underlying24 infoBytes rfl (by decide) (by decide) _ rfl pn8 vs2 o6 _ _ pn9 pc9 rfl _ ro3' on3' (by omega) hs7 (pn8 + pn9) rfl ?h3)
              case h3 =>
                intro A7 c7 w7 o7 g7 _
                have hb8 : Below w9.heap.size w9 w7 := hb7d.out.trans (app_below_ g7 (fun k e => (own_lt o6 k e).1) hs7)
                have f97 := Fr.of_below (F := fun _ => False) hb8
                have hLs : RdS w7 (fun _ => True) A7 (pn8 + pn9) c7 (Ob.treeL xs ++ tk) := ⟨_, (own_row o7).mono (fun _ _ _ => trivial), ((hs2d.out.append hs3d.out).fr f97 (fun _ _ h => h)).mono (fun _ _ _ => trivial)⟩
                have b7 : Hid (Below w.heap.size w w7) := b9.out.trans (hb8.mono b9.out.size)
                have hLd := Lib.hid hLs
                have hpn : Hid (pn8 + pn9 ≤ 10000) := by show _ ≤ _; omega
                clear o6 g7 o7 ro3' on3' hb8 f97 hLs hs7 hpl2
                go_wp2_with fail
                refine (clash_any w7 hLd.out hpn.out (fun u hu => ?_) true ⟨fun _ => hncl.out, fun _ => rfl⟩).mono ?_
                · rcases List.mem_append.1 hu with h | h
                  · exact Ob.treeL_len _ xs (Nat.le_refl _) hks.out u h
                  · exact hbt.out.2 u h
                rintro e w10 ⟨rfl, hb10⟩
                have hb10d : Hid (Below w.heap.size w w10) := b7.out.trans (hb10.mono b7.out.size)
                clear hb10
                go_wp2_with fail
                go_ret
                exact ⟨rfl, hb10d.out⟩
        · have hck' : Ob.checkP (Ob.rootH xs) x = false := by simpa using hck
          rw [hck']
          clear hck hck'
          go_wp2_with fail
          go_ret
          exact ⟨rfl, hb6d.out⟩
      · refine (refmap_any w3 (upd.out _ hb3d.out) (by have := hnd.out; omega) (fun x h => (hks.out x h).1) false ⟨fun h => (by cases h), fun h => (hm h).elim⟩).mono ?_
        rintro e w4 ⟨rfl, hb4⟩
        have hb4d : Hid (Below w.heap.size w w4) := hb3d.out.trans (hb4.mono hb3d.out.size)
        clear hb4
        go_wp2_with fail
        go_ret
        exact ⟨rfl, hb4d.out⟩
    · refine (small_any w3 hId.out false ⟨fun h => (by cases h), fun h => (hs (h.2 x (by simp))).elim⟩).mono ?_
      rintro e w4 ⟨rfl, rfl⟩
      go_wp2_with fail
      go_ret
      exact ⟨rfl, hb3d.out⟩
  · refine (small_any w2 (upd.out _ hb2d.out) false ⟨fun h => (by cases h), fun h => (hs h).elim⟩).mono ?_
    rintro e w3 ⟨rfl, rfl⟩
    go_wp2_with fail
    go_ret
    exact ⟨rfl, hb2d.out⟩
theorem table {W : World} (h : laidMetH Tryd.prog Rows.objecttreeSoundRow.laid W) : Lib.TabIs Tryd.prog W "plexus/sha256.constants" .u32 (Sha.K.map fun (n : Nat) => (n : Int)) :=
  Lib.tabIs_of_head (rest := []) gTab gTabType Tryd.underlying69 Tryd.underlying64 cellsWord cellsTab h
theorem contract (H : Type) (enc : TypeId × Value → H) (W : World) (base : Nat) (args : Array Value) (ds gs : List (DataW H)) (before : List MemPlace)
    (hval : ∀ (j : Nat) t v, Tryd.f3.params[j]? = some t → args[j]? = some v → Value.okWide Tryd.prog W .any base t v)
    (hW : DataW.Whole enc Tryd.prog Tryd.f3.params.toList Rows.objecttreeSoundSpec.vars false W args.toList ds gs before) (hL : laidMetH Tryd.prog Rows.objecttreeSoundRow.laid W) :
    Calls Tryd.prog 3 args W fun e W' => ∃ v, e = .returned v ∧ Rows.objecttreeSoundSpec.post enc Tryd.prog Tryd.f3 false true false false W args v W' := by
  have hW' := hW
  obtain ⟨p, q, hA0, hV, rfl, hfz, hnd⟩ := hW
  have hA : DataW.TrodAll enc Tryd.prog W 0 (fun _ => true) true Tryd.f3.params.toList args.toList ds p := hA0
  rw [Tryd.params3] at hA hval
  obtain ⟨v0, vs0, d0, ds0, p0, q0, hargs, rfl, rfl, h0, r0⟩ := trodAll_cons hA
  obtain ⟨v1, vs1, d1, ds1, p1, q1, rfl, rfl, rfl, h1, r1⟩ := trodAll_cons r0
  obtain ⟨rfl, rfl, rfl⟩ := trodAll_nil r1
  obtain rfl : args = #[v0, v1] := by cases args; simp_all
  obtain ⟨rfl, rfl⟩ := trodVars_none hV
  obtain ⟨a0, len0, cap0, rfl⟩ := okWide_slice Tryd.underlying22 (hval 0 22 v0 rfl rfl)
  have k0 := h0
  have lt0 : ∀ x ∈ p0, x.block < W.heap.size := by obtain ⟨m, hm⟩ := k0; exact DataW.trod_lt m _ _ _ hm
  obtain ⟨xs0, hri0⟩ := items_of_trod Tryd.underlying22 Tryd.underlying26 (by kernel_rfl) rfl rfl rfl rfl rfl rfl rfl rfl rfl rfl rfl rfl rfl Tryd.underlying9 Tryd.underlying4 (by kernel_rfl) (by kernel_rfl) (by kernel_rfl) (by kernel_rfl) Tryd.underlying23 Tryd.underlying5 (by kernel_rfl) Tryd.underlying24 Tryd.underlying23 (by kernel_rfl) h0
  have k1 := h1
  have lt1 : ∀ x ∈ p1, x.block < W.heap.size := by obtain ⟨m, hm⟩ := k1; exact DataW.trod_lt m _ _ _ hm
  obtain ⟨cs1, rfl, hcs1⟩ := okWide_struct Tryd.underlying26 (hval 1 26 v1 rfl rfl)
  obtain ⟨x1, A1, n1, c1, B1, m1, e1, rfl, hA1, hB1⟩ := item_of_trod Tryd.underlying26 (by kernel_rfl) rfl rfl rfl rfl rfl rfl rfl rfl rfl rfl rfl rfl rfl Tryd.underlying9 Tryd.underlying4 (by kernel_rfl) (by kernel_rfl) (by kernel_rfl) (by kernel_rfl) Tryd.underlying23 Tryd.underlying5 (by kernel_rfl) Tryd.underlying24 Tryd.underlying23 (by kernel_rfl) hcs1 h1
  clear hA0
  refine (walk W (kst_of_tab (table hL)) hri0 hA1 hB1).mono fun e W' ⟨he, bel⟩ => ?_
  subst he
  exact ⟨_, rfl, _, _, _, [], _, [], hW', trodAll_mk1 (shut_bool Tryd.underlying4 _), (trodAll_cons_mk (Below.trod laidOut (by kernel_rfl) (of_decide_eq_true (by kernel_rfl)) k0 bel lt0) (trodAll_cons_mk (Below.trod laidOut (by kernel_rfl) (of_decide_eq_true (by kernel_rfl)) k1 bel lt1) trodAll_mk0)), rfl, bel.frame _, fun h => by cases h⟩
theorem laid_met (os : Os) : laidMet Tryd.prog Rows.objecttreeSoundRow.laid ((laidWorld os).forCall (fun _ _ => 0) ⟨#[], #[.slice none 0 0, .agg #[.string ByteArray.empty, .bool false, .slice none 0 0, .slice none 0 0]], []⟩).memory :=
  laidMet_of_run' 8 (by kernel_rfl) (by kernel_rfl)
theorem reads (os : Os) {H : Type} (enc : TypeId × Value → H) : ∃ places, DataW.whole enc Tryd.prog ((laidWorld os).forCall (fun _ _ => 0) ⟨#[], #[.slice none 0 0, .agg #[.string ByteArray.empty, .bool false, .slice none 0 0, .slice none 0 0]], []⟩).memory Tryd.f3.params.toList Rows.objecttreeSoundSpec.vars false #[Value.slice none 0 0, .agg #[.string ByteArray.empty, .bool false, .slice none 0 0, .slice none 0 0]].toList 8 = some ([.nil, .agg [.lit (.string []), .lit (.bool false), .nil, .nil]], [], places) :=
  ⟨[], by kernel_rfl⟩
set_option maxRecDepth 100000 in
theorem lifted (os : Os) (started : os.Started) (H : Type) (enc : TypeId × Value → H) (F : Stop.Interp) :
    ReturnsInHanded {} Tryd.checked os 3 .any ((OpenSpec.ofChange Rows.objecttreeSoundSpec).preRow enc Tryd.prog Tryd.f3 Rows.objecttreeSoundRow.domain false Rows.objecttreeSoundRow.laid) (((OpenSpec.ofChange Rows.objecttreeSoundSpec).at F).post enc Tryd.prog Tryd.f3 false true false false) := by
  obtain ⟨places, hx⟩ := reads os enc
  refine returnsInHanded_of_row (C := Tryd.checked) (s := OpenSpec.ofChange Rows.objecttreeSoundSpec) own started (by kernel_rfl) Tryd.func3
    (witness_row_at (enc := enc) (C := Tryd.checked) false (laidWorld os) #[.slice none 0 0, .agg #[.string ByteArray.empty, .bool false, .slice none 0 0, .slice none 0 0]] rfl (by kernel_rfl) (by kernel_rfl) (by kernel_rfl)
      (OpenSpec.preRow_of_cond 8 hx (by kernel_rfl) (fun k hk => by cases hk) (by kernel_rfl) (laid_met os))) ?_
  intro W base args ds gs before hval hW _ _ _ hL _ _
  exact contract H enc W base args ds gs before hval hW hL
theorem said : Rows.ObjecttreeSoundSaid :=
  OpenClaim.holds_of_cond 3 Tryd.f3 rfl rfl rfl rfl rfl rfl rfl ⟨rfl, rfl, rfl, rfl, rfl⟩ rfl rfl rfl rfl rfl (by kernel_rfl) Tryd.func3 (by kernel_rfl)
    (of_decide_eq_true (by kernel_rfl)) (by unfold Func.isWrapper; first | (rw [if_pos (by decide +kernel)]; kernel_rfl) | (rw [if_neg (by decide +kernel)]; exact ⟨rfl, rfl⟩))
    (fun os started H enc _ F => by rw [OpenClaim.pre_eq_preRow]; exact lifted os started H enc F)
theorem plain (f : FuncId) (fn : Func) (hf : Tryd.pinned.checked.prog.funcNamed "plexus/plexuslaw40.ObjecttreeSound" = some f) (hfn : Tryd.pinned.checked.prog.funcs[f]? = some fn) :
    false = Tryd.pinned.checked.prog.looks [] ∧ ∀ (j : Nat) t, fn.params[j]? = some t → Tryd.pinned.checked.prog.wantsStandIn t = false := by
  obtain rfl : f = 3 := Option.some.inj ((show Tryd.prog.funcNamed "plexus/plexuslaw40.ObjecttreeSound" = some 3 by kernel_rfl).symm.trans hf) |>.symm
  obtain rfl : fn = Tryd.f3 := (Option.some.inj (Tryd.func3.symm.trans hfn)).symm
  refine ⟨by kernel_rfl, fun j t ht => ?_⟩
  rw [Tryd.params3] at ht
  have hm : t = 22 ∨ t = 26 := by simpa using Array.mem_of_getElem? ht
  rcases hm with rfl | rfl
  · exact (show Tryd.prog.wantsStandIn 22 = false by kernel_rfl)
  · exact (show Tryd.prog.wantsStandIn 26 = false by kernel_rfl)
/-- The card. -/
theorem card : Rows.ObjecttreeSoundCardSaid :=
  Claim7.holds_tied_plain_at .later [] _ _ _ _ said (fun _ h => by cases h) (by kernel_rfl) (fun _ h => by cases h) objecttreeSound_row_tie rfl ⟨rfl, rfl⟩ (by kernel_rfl) rfl plain (by kernel_rfl)
#print axioms card
end Go.Proofs.YthoaenpbmmjokaaDoor.objecttreeSound
