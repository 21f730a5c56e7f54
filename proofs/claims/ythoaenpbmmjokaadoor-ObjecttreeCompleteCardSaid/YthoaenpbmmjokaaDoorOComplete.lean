/-
  Each proof of a map is accepted against its root, and states correctly whether the map contains the key, and its content.
-/
import Derived.Test.YthoaenpbmmjokaaDoorObArg
import Derived.Test.YthoaenpbmmjokaaDoorObAwk
import Derived.Test.YthoaenpbmmjokaaDoorObSm
import Derived.Test.YthoaenpbmmjokaaDoorObPr
import Derived.Test.YthoaenpbmmjokaaDoorObCk
import Derived.Test.YthoaenpbmmjokaaDoorObC
import Derived.Test.YthoaenpbmmjokaaDoorObBy
namespace Go.Proofs.YthoaenpbmmjokaaDoor
open Go.RowKit Go.Pl
set_option maxRecDepth 100000 in
set_option maxHeartbeats 1000000 in
theorem truth_any (w : World) {X : Option Addr} {xn xc : Nat} {xs : List Ob.It} (hX : RdI w (fun _ => True) X xn xc xs) {x : Ob.It} {A B : Option Addr} {n c m d : Nat} (hA : Rd w (fun _ => True) A n c x.content) (hn : xn ≤ 100000) :
    Calls Tryd.prog 16 #[.slice X xn xc, .agg #[.string ⟨x.key.toArray⟩, .bool x.present, .slice A n c, .slice B m d]] w fun e w' => e = .returned (.bool (Ob.truthP xs x)) ∧ Below w.heap.size w w' := by
  obtain ⟨w1, hw1⟩ : ∃ v, w.alloc (.cells #[.string ⟨x.key.toArray⟩, .bool x.present, .slice A n c, .slice B m d] 26) = v := ⟨_, rfl⟩
  have hG1 : Blk w1 w.heap.size 26 #[.string ⟨x.key.toArray⟩, .bool x.present, .slice A n c, .slice B m d] := by rw [← hw1]; exact Blk.new' rfl
  have hb1 : Below w.heap.size w w1 := by rw [← hw1]; exact (Below.refl _ _).alloc (Nat.le_refl _) _
  have hf1 : Fr (fun _ => False) w w1 := Fr.of_below hb1
  have hX1 := Lib.hid (hX.fr hf1 (fun _ _ h => h))
  have hA1 := Lib.hid (hA.fr hf1 (fun _ _ h => h))
  have hxl : Hid (xn = xs.length) := hX.len
  have hb1d := Lib.hid hb1
  have hw1d := Lib.hid hw1
  have hGd := Lib.hid hG1
  clear hX hA hw1 hG1 hb1 hf1
  go_enter Tryd.func16, Tryd.ntmps16
  go_wp2_with fail
  rw [hw1d.out]
  obtain ⟨G, hG⟩ : ∃ G, w.heap.size = G := ⟨_, rfl⟩
  rw [hG] at hGd ⊢
  have hGG := Lib.hid hG
  clear hG
  go_loopw [5] (fun t5 wr => ∃ i : Nat, i ≤ xn ∧ t5 = .int .i64 i ∧ (∀ (j : Nat) (z : Ob.It), j < i → xs[j]? = some z → (z.key == x.key) = false) ∧ Ab w1 wr) (fun t5 _ => xn - (intOf t5).toNat)
  case atStart => exact ⟨0, by omega, rfl, fun j z h => by omega, Ab.refl _⟩
  case round =>
    obtain ⟨i, hi, rfl, hok, hb⟩ := hrel
    have hokd := Lib.hid hok
    have hab := Lib.hid hb
    have hbr : Hid (Below w.heap.size w wr) := hb1d.out.trans (hb.mono hb1d.out.size)
    have kGr := hGd.out.below hb hGd.out.lt
    have kGd := Lib.hid kGr
    clear hok hb
    by_cases hlt : i < xn
    · have hltI : (i : Int) < (xn : Int) := by omega
      obtain ⟨y, hy⟩ : ∃ y, xs[i]? = some y := ⟨_, List.getElem?_eq_getElem (by have := hxl.out; omega)⟩
      obtain ⟨b, o, s, p, rfl, -, hbl, ⟨A2, n2, c2, rfl, r2⟩, -, y0, -, y2, -⟩ := hX1.out.get hy
      have e0 := (hab.out.cell (p := ⟨b, o + i * 4, none⟩) hbl).trans y0
      have e2 := (hab.out.cell (p := ⟨b, o + i * 4 + 2, none⟩) hbl).trans y2
      have g0 := (kGr.cell 0).trans rfl
      have hyd := Lib.hid hy
      have r2d := Lib.hid r2
      have hbld := Lib.hid hbl
      clear kGr hy r2 y0 y2
      by_cases hk : y.key = x.key
      · have q1 := str_eq (a := y.key) (b := x.key) true ⟨fun _ => hk, fun _ => rfl⟩
        have q2 : (y.key == x.key) = true := by simpa using hk
        have hfi : Hid (xs.find? (fun y => y.key == x.key) = some y) := Ob.find_at hyd.out q2 hokd.out
        have hkd := Lib.hid hk
        clear hk
        go_upto_region 4 with fail
        go_quiet (fail)
        go_upto_region 5 with fail
        obtain ⟨w4, hw4⟩ : ∃ v, wr.drewN nq = v := ⟨_, rfl⟩
        have f4 : Hid (Fr (fun _ => False) wr w4) := by show Fr _ _ _; rw [← hw4]; exact (Fr.refl (fun _ => False) wr).drewN _
        rw [hw4]
        clear hw4 e0 g0 q1
        have b4 : Hid (Below w.heap.size w w4) := hbr.out.trans (f4.out.below (fun _ h => h.elim) hbr.out.size)
        have k4 := kGd.out.fr f4.out (fun h => h)
        by_cases hpr : x.present = true
        · have u1 : ∀ w', Ab w4.drew w' → w'.cell? ⟨G, 1, none⟩ = some (.bool true) := fun w' h => (Below.cell h (p := ⟨G, 1, none⟩) k4.lt).trans ((k4.cell 1).trans (by rw [hpr]; rfl))
          have u2 : ∀ w', Ab w4.drew w' → w'.cell? ⟨G, 2, none⟩ = some (.slice A n c) := fun w' h => (Below.cell h (p := ⟨G, 2, none⟩) k4.lt).trans ((k4.cell 2).trans rfl)
          have hb4l : b < w4.heap.size := Nat.lt_of_lt_of_le (Nat.lt_of_lt_of_le hbld.out hab.out.size) f4.out.size
          have e24 := (f4.out.cell (p := ⟨b, o + i * 4 + 2, none⟩) (Nat.lt_of_lt_of_le hbld.out hab.out.size) (fun h => h)).trans e2
          have u3 : ∀ w', Ab w4.drew w' → w'.cell? ⟨b, o + i * 4 + 2, none⟩ = some (.slice A2 n2 c2) := fun w' h => (Below.cell h (p := ⟨b, o + i * 4 + 2, none⟩) hb4l).trans e24
          have f14 : Fr (fun _ => False) w1 w4 := (Fr.of_below (F := fun _ => False) hab.out).trans f4.out (fun _ h => h.elim)
          have u5 : ∀ w', Ab w4.drew w' → Bytes w' w'.heap.size (.slice A2 n2 c2) y.content := fun w' h => (((r2d.out.fr f14 (fun _ _ h => h)).ab (ab_drew w4)).ab h).bytes (fun i hi _ => hi)
          have u6 : ∀ w', Ab w4.drew w' → Bytes w' w'.heap.size (.slice A n c) x.content := fun w' h => (((hA1.out.fr f14 (fun _ _ h => h)).ab (ab_drew w4)).ab h).bytes (fun i hi _ => hi)
          have q5 : ((⟨y.content.toArray⟩ : ByteArray).toList == (⟨x.content.toArray⟩ : ByteArray).toList) = (y.content == x.content) := by rw [Ob.toList_bytes, Ob.toList_bytes]
          have hF : Hid (Ob.truthP xs x = (y.content == x.content)) := by show _ = _; unfold Ob.truthP; rw [hfi.out, hpr]; simp
          clear e2 e24 k4 hbl f14 hb4l hpr q2
          refine wp_region_plan Ab Ab.refl Ab.trans [] [0, 1, 2, 3, 4, 5, 6, 7, 8, 9, 10, 11, 12, 13, 14] (by kernel_rfl) (by kernel_rfl) (fun _ _ _ _ _ h => h) ?_
          simp only [wpPlan, ordPick, Option.toList_some, List.cons_append, List.nil_append, List.getElem?_cons_succ, List.getElem?_cons_zero]
          iterate 1 (go_big_quiet_step (exact fun _ => rfl))
          refine wpq_load_one rfl 4 (.tmp 20) rfl ⟨G, 1, none⟩ rfl _ u1 _ Tryd.underlying4 rfl ?_
          simp only [Act.put, List.setIfInBounds_toArray, List.set_cons_succ, List.set_cons_zero]
          iterate 5 (go_big_quiet_step (exact fun _ => rfl))
          refine wpq_load_w rfl 23 (.tmp 26) rfl ⟨b, o + i * 4 + 2, none⟩ rfl _ u3 _ Tryd.underlying23 rfl ?_
          simp only [Act.put, List.setIfInBounds_toArray, List.set_cons_succ, List.set_cons_zero]
          refine wpq_string rfl 23 9 5 (.tmp 27) rfl Tryd.underlying23 Tryd.underlying5 Tryd.underlying9 A2 n2 c2 rfl y.content u5 ?_
          simp only [Act.put, List.setIfInBounds_toArray, List.set_cons_succ, List.set_cons_zero]
          iterate 1 (go_big_quiet_step (exact fun _ => rfl))
          refine wpq_load_w rfl 23 (.tmp 29) rfl ⟨G, 2, none⟩ rfl _ u2 _ Tryd.underlying23 rfl ?_
          simp only [Act.put, List.setIfInBounds_toArray, List.set_cons_succ, List.set_cons_zero]
          refine wpq_string rfl 23 9 5 (.tmp 30) rfl Tryd.underlying23 Tryd.underlying5 Tryd.underlying9 A n c rfl x.content u6 ?_
          simp only [Act.put, List.setIfInBounds_toArray, List.set_cons_succ, List.set_cons_zero]
          iterate 3 (go_big_quiet_step (exact fun _ => rfl))
          refine wpQuiet_nil ?_
          go_wp2_with fail
          go_ret
          exact ⟨by rw [hF.out]; rfl, b4.out.trans ((ab_drew w4).mono b4.out.size)⟩
        · have hpr' : x.present = false := by simpa using hpr
          have g1 : w4.cell? ⟨G, 1, none⟩ = some (.bool false) := (k4.cell 1).trans (by rw [hpr']; rfl)
          have hF : Hid (Ob.truthP xs x = false) := by show _ = _; unfold Ob.truthP; rw [hfi.out, hpr']; rfl
          clear k4 hpr e2 hbl q2
          go_quiet (fail)
          go_wp2_with fail
          go_ret
          exact ⟨by rw [hF.out]; rfl, b4.out.trans ((Fr.refl (fun _ => False) w4).drewN _ |>.below (fun _ h => h.elim) b4.out.size)⟩
      · have q1 := str_eq (a := y.key) (b := x.key) false ⟨fun h => (by cases h), fun h => (hk h).elim⟩
        have q2 : (y.key == x.key) = false := by simpa using hk
        have q2d := Lib.hid q2
        clear hk
        go_upto_region 4 with fail
        go_quiet (fail)
        go_wp2_with fail
        go_roundw
        case rel =>
          refine ⟨i + 1, hlt, by go_num, fun j z hj hz => ?_, Ab.trans _ _ _ hab.out ((Fr.refl (fun _ => False) wr).drewN _ |>.below (fun _ h => h.elim) (Nat.le_refl _))⟩
          rcases Nat.lt_or_ge j i with h | h
          · exact hokd.out j z h hz
          · obtain rfl : j = i := by omega
            rw [hyd.out] at hz
            cases hz
            exact q2d.out
        case measure => simp [intOf]; omega
    · have hltI : ¬ (i : Int) < (xn : Int) := by omega
      have hF : Hid (Ob.truthP xs x = !x.present) := by
        show _ = _
        have hnone : xs.find? (fun y => y.key == x.key) = none := by
          refine List.find?_eq_none.2 fun z hz => ?_
          obtain ⟨j, hj⟩ := List.getElem?_of_mem hz
          have := (List.getElem?_eq_some_iff.1 hj).1
          have h2 := hokd.out j z (by have := hxl.out; omega) hj
          rw [h2]
          exact Bool.false_ne_true
        unfold Ob.truthP
        rw [hnone]
      have g1 := (kGr.cell 1).trans rfl
      clear kGr
      go_wp2_with fail
      go_ret
      exact ⟨by rw [hF.out]; rfl, hbr.out⟩
end Go.Proofs.YthoaenpbmmjokaaDoor
namespace Go.Proofs.YthoaenpbmmjokaaDoor.objecttreeComplete
open Go.ChangeShapes Go.WideShapes Go.ChangeAt Go.RowKit Go.Pl
theorem proveI_le {key : Ob.Key} : ∀ (m : Nat) (xs : List Ob.It), xs.length ≤ m → Ob.Asc xs → (Ob.follow key xs).1.length ≤ xs.length ∧ ∀ p ∈ (Ob.follow key xs).1, p.length ≤ 36 := by
  intro m
  induction m with
  | zero => intro xs h _; rw [Ob.follow_small (by omega)]; exact ⟨Nat.zero_le _, fun p h => by cases h⟩
  | succ m ih =>
    intro xs h ha
    by_cases h2 : 2 ≤ xs.length
    · obtain ⟨x, y, t, _, _, _, _, ht, h0, h1⟩ := ha.parts h2
      by_cases hb : Ob.bitN key t = 1
      · rw [Ob.follow_one h2 ht h0 h1 hb]
        obtain ⟨i1, i2⟩ := ih (xs.drop (Ob.zeros t xs)) (by rw [List.length_drop]; omega) (ha.drop _)
        rw [List.length_drop] at i1
        refine ⟨by simp only [List.length_cons]; omega, fun p hp => ?_⟩
        rcases List.mem_cons.1 hp with rfl | hp
        · rw [List.length_append, Ob.rootH_len (ha.take _)]; exact Nat.le_refl _
        · exact i2 p hp
      · rw [Ob.follow_zero h2 ht h0 h1 hb]
        obtain ⟨i1, i2⟩ := ih (xs.take (Ob.zeros t xs)) (by rw [List.length_take]; omega) (ha.take _)
        rw [List.length_take] at i1
        refine ⟨by simp only [List.length_cons]; omega, fun p hp => ?_⟩
        rcases List.mem_cons.1 hp with rfl | hp
        · rw [List.length_append, Ob.rootH_len (ha.drop _)]; exact Nat.le_refl _
        · exact i2 p hp
    · rw [Ob.follow_small (by omega)]
      exact ⟨Nat.zero_le _, fun p h => by cases h⟩
theorem proveI_small {key : Ob.Key} {xs : List Ob.It} (ha : Ob.Asc xs) (hk : key.length ≤ 300) (hn : xs.length ≤ 20) (hxs : ∀ x ∈ xs, x.key.length ≤ 100000 ∧ x.content.length ≤ 1000000) :
    (Ob.proveI key xs).key.length ≤ 100000 ∧ (Ob.proveI key xs).content.length ≤ 1000000 ∧ (Ob.proveI key xs).path.length ≤ 1000 ∧ ∀ p ∈ (Ob.proveI key xs).path, p.length ≤ 1000000 := by
  obtain ⟨l1, l2⟩ := proveI_le (key := key) xs.length xs (Nat.le_refl _) ha
  obtain ⟨_, hm⟩ := Ob.follow_le key xs.length xs (Nat.le_refl _) ha
  unfold Ob.proveI
  cases hf : (Ob.follow key xs).2 with
  | nil => exact ⟨by show key.length ≤ _; omega, Nat.zero_le _, by show (Ob.follow key xs).1.length ≤ _; omega, fun p hp => by have := l2 p hp; omega⟩
  | cons x r =>
    have hx := hxs x (hm x (by rw [hf]; simp))
    simp only
    split
    · exact ⟨by show key.length ≤ _; omega, hx.2, by show (Ob.follow key xs).1.length ≤ _; omega, fun p hp => by have := l2 p hp; omega⟩
    · refine ⟨by show key.length ≤ _; omega, Nat.zero_le _, by simp only [List.length_append, List.length_singleton]; omega, fun p hp => ?_⟩
      rcases List.mem_append.1 hp with hp | hp
      · have := l2 p hp; omega
      · rw [List.mem_singleton.1 hp, List.length_append, Sha.length_sha]; have := hx.1; omega
set_option maxRecDepth 100000 in
set_option maxHeartbeats 2000000 in
theorem walkl {A : Option Addr} {n c : Nat} {xs : List Ob.It} (w : World) (hK : Kst w) (hx : RdI w (fun _ => True) A n c xs) (key : List UInt8) :
    Calls Tryd.prog 4 #[.slice A n c, .string ⟨key.toArray⟩] w fun e w' => e = .returned (.bool true) ∧ Below w.heap.size w w' := by
  have hsz : (⟨key.toArray⟩ : ByteArray).size = key.length := by simp [ByteArray.size]
  have hnl := Lib.hid hx.len
  have hxd := Lib.hid hx
  clear hx
  go_enter Tryd.func4, Tryd.ntmps4
  go_wp2_with fail
  refine (awake_any _ hK).mono ?_
  rintro e w1 ⟨rfl, hb1⟩
  have hb1d := Lib.hid hb1
  clear hb1
  have up : ∀ w', Below w.heap.size w w' → RdI w' (fun _ => True) A n c xs := fun _ h => hxd.out.fr (Fr.of_below (F := fun _ => False) h) (fun _ _ h => h)
  have upd := Lib.hid up
  clear up
  go_wp2_with fail
  by_cases hs : Ob.Small xs
  · refine (small_any w1 (upd.out _ hb1d.out) true ⟨fun _ => hs, fun _ => rfl⟩).mono ?_
    rintro e w2 ⟨rfl, rfl⟩
    have hsm := Lib.hid hs
    have hks : Hid (∀ x ∈ xs, x.key.length ≤ 100000 ∧ x.content.length ≤ 1000000) := fun x h => by have := hsm.out.2 x h; exact ⟨by have := this.1; omega, by have := this.2.1; omega⟩
    have hn : n ≤ 20 := by have := hs.1; have := hnl.out; omega
    have hnd := Lib.hid hn
    clear hs hn
    by_cases hkl : key.length ≤ 300
    · have hkI : decide (300 < key.length) = false := by simp; omega
      have hkJ : decide (300 < (key.length : Int)) = false := by simp; omega
      go_wp2_with fail
      by_cases hm : Ob.IsMap xs
      · refine (root_map w1 (hK.below hb1d.out hK.pos) (upd.out _ hb1d.out) (by have := hnd.out; omega) hks.out hm).mono ?_
        rintro e w3 ⟨A3, n3, c3, rfl, hr3, hb3⟩
        have hr3d := Lib.hid (hr3.mono (T := fun _ => True) (fun _ _ _ => trivial))
        have hb3d : Hid (Below w.heap.size w w3) := hb1d.out.trans (hb3.mono hb1d.out.size)
        clear hr3 hb3
        go_wp2_with fail
        refine (prove_any w3 (hK.below hb3d.out hK.pos) key (by omega) (upd.out _ hb3d.out) hm (by have := hnd.out; omega) hks.out).mono ?_
        rintro e w4 ⟨s, p, rfl, hs4, hp4, hb4⟩
        obtain ⟨A4, n4, c4, rfl, hr4⟩ := hs4
        obtain ⟨B4, m4, d4, rfl, hq4⟩ := hp4
        have f34 : Hid (Fr (fun _ => False) w3 w4) := Fr.of_below hb4
        have hb4d : Hid (Below w.heap.size w w4) := hb3d.out.trans (hb4.mono hb3d.out.size)
        obtain ⟨hc1, hc2, hc3⟩ := Ob.complete (key := key) (ismap_asc hm) (fun x hx => by have := hsm.out.2 x hx; have := this.1; omega) (by omega)
        have hbn := Lib.hid (proveI_small (ismap_asc hm) hkl (by have := hnl.out; have := hnd.out; omega) hks.out)
        obtain ⟨X, hX⟩ : ∃ X, Ob.proveI key xs = X := ⟨_, rfl⟩
        rw [hX] at hr4 hq4 hc1 hc2 hc3 hbn
        have hr4d := Lib.hid hr4
        have hq4d := Lib.hid hq4
        have hc1d := Lib.hid hc1
        have hc2d := Lib.hid hc2
        have hc3d := Lib.hid hc3
        rw [hX, show (itv X (.slice A4 n4 c4) (.slice B4 m4 d4)).toArray = #[.string ⟨X.key.toArray⟩, .bool X.present, .slice A4 n4 c4, .slice B4 m4 d4] from rfl]
        clear hr4 hq4 hb4 hm hX hc1 hc2 hc3
        go_upto_region 7 with fail
        obtain ⟨w5, hw5⟩ : ∃ v, w4.alloc (.cells #[.string ⟨X.key.toArray⟩, .bool X.present, .slice A4 n4 c4, .slice B4 m4 d4] 26) = v := ⟨_, rfl⟩
        have k5 : Blk w5 w4.heap.size 26 #[.string ⟨X.key.toArray⟩, .bool X.present, .slice A4 n4 c4, .slice B4 m4 d4] := by rw [← hw5]; exact Blk.new' rfl
        have f45 : Hid (Fr (fun _ => False) w4 w5) := by show Fr _ _ _; rw [← hw5]; exact (Fr.refl (fun _ => False) w4).alloc _
        have hb5 : Hid (Below w.heap.size w w5) := hb4d.out.trans (f45.out.below (fun _ h => h.elim) hb4d.out.size)
        rw [hw5]
        obtain ⟨G, hG⟩ : ∃ G, w4.heap.size = G := ⟨_, rfl⟩
        rw [hG] at k5 ⊢
        have k5d := Lib.hid k5
        have g0 := (k5.cell 0).trans rfl
        have g1 := (k5.cell 1).trans rfl
        have g2 := (k5.cell 2).trans rfl
        have g3 := (k5.cell 3).trans rfl
        clear hw5 k5 hG
        have q1 := str_eq (a := X.key) (b := key) true ⟨fun _ => hc1d.out, fun _ => rfl⟩
        have q2 : (X.key == key) = true := by simpa using hc1d.out
        go_wp2_with fail
        refine (chk_any w5 (hK.below hb5.out hK.pos) ((hr3d.out.fr f34.out (fun _ _ h => h)).fr f45.out (fun _ _ h => h)) (hr4d.out.fr f45.out (fun _ _ h => h)) (hq4d.out.fr f45.out (fun _ _ h => h)) hbn.out.1 hbn.out.2.1 hbn.out.2.2.1 hbn.out.2.2.2).mono ?_
        rintro e w6 ⟨rfl, hb6⟩
        rw [hc2d.out]
        have f56 : Hid (Fr (fun _ => False) w5 w6) := Fr.of_below hb6
        have hb6d : Hid (Below w.heap.size w w6) := hb5.out.trans (hb6.mono hb5.out.size)
        have k6 := k5d.out.below hb6 k5d.out.lt
        have e0 := (k6.cell 0).trans rfl
        have e1 := (k6.cell 1).trans rfl
        have e2 := (k6.cell 2).trans rfl
        have e3 := (k6.cell 3).trans rfl
        clear hb6 g0 g1 g2 g3 k6 q1 q2
        go_wp2_with fail
        refine (truth_any w6 (upd.out _ hb6d.out) (x := X) ((hr4d.out.fr f45.out (fun _ _ h => h)).fr f56.out (fun _ _ h => h)) (by have := hnd.out; omega)).mono ?_
        rintro e w7 ⟨rfl, hb7⟩
        rw [hc3d.out]
        have hb7d : Hid (Below w.heap.size w w7) := hb6d.out.trans (hb7.mono hb6d.out.size)
        clear hb7
        go_wp2_with fail
        go_ret
        exact ⟨rfl, hb7d.out⟩
      · refine (root_bad w1 (upd.out _ hb1d.out) (by have := hnd.out; omega) (fun x h => (hks.out x h).1) hm).mono ?_
        rintro e w3 ⟨rfl, hb3⟩
        have hb3d : Hid (Below w.heap.size w w3) := hb1d.out.trans (hb3.mono hb1d.out.size)
        clear hb3
        go_wp2_with fail
        refine (prove_bad w3 key (upd.out _ hb3d.out) (by have := hnd.out; omega) (fun x h => (hks.out x h).1) hm).mono ?_
        rintro e w4 ⟨rfl, hb4⟩
        have hb4d : Hid (Below w.heap.size w w4) := hb3d.out.trans (hb4.mono hb3d.out.size)
        clear hb4 hm
        go_wp2_with fail
        go_ret
        exact ⟨rfl, hb4d.out.alloc hb4d.out.size _⟩
    · have hkI : decide (300 < key.length) = true := by simp; omega
      have hkJ : decide (300 < (key.length : Int)) = true := by simp; omega
      go_wp2_with fail
      go_ret
      exact ⟨rfl, hb1d.out⟩
  · refine (small_any w1 (upd.out _ hb1d.out) false ⟨fun h => (by cases h), fun h => (hs h).elim⟩).mono ?_
    rintro e w2 ⟨rfl, rfl⟩
    go_wp2_with fail
    go_ret
    exact ⟨rfl, hb1d.out⟩
theorem walk {A : Option Addr} {n c : Nat} {xs : List Ob.It} {t : ByteArray} (w : World) (hK : Kst w) (hx : RdI w (fun _ => True) A n c xs) (_ht : t.size ≤ maxLen) :
    Calls Tryd.prog 4 #[.slice A n c, .string t] w fun e w' => e = .returned (.bool true) ∧ Below w.heap.size w w' := walkl w hK hx t.data.toList
theorem table {W : World} (h : laidMetH Tryd.prog Rows.objecttreeCompleteRow.laid W) : Lib.TabIs Tryd.prog W "plexus/sha256.constants" .u32 (Sha.K.map fun (n : Nat) => (n : Int)) :=
  Lib.tabIs_of_head (rest := []) gTab gTabType Tryd.underlying69 Tryd.underlying64 cellsWord cellsTab h
theorem contract (H : Type) (enc : TypeId × Value → H) (W : World) (base : Nat) (args : Array Value) (ds gs : List (DataW H)) (before : List MemPlace)
    (hval : ∀ (j : Nat) t v, Tryd.f4.params[j]? = some t → args[j]? = some v → Value.okWide Tryd.prog W .any base t v)
    (hW : DataW.Whole enc Tryd.prog Tryd.f4.params.toList Rows.objecttreeCompleteSpec.vars false W args.toList ds gs before) (hL : laidMetH Tryd.prog Rows.objecttreeCompleteRow.laid W) :
    Calls Tryd.prog 4 args W fun e W' => ∃ v, e = .returned v ∧ Rows.objecttreeCompleteSpec.post enc Tryd.prog Tryd.f4 false true false false W args v W' := by
  have hW' := hW
  obtain ⟨p, q, hA0, hV, rfl, hfz, hnd⟩ := hW
  have hA : DataW.TrodAll enc Tryd.prog W 0 (fun _ => true) true Tryd.f4.params.toList args.toList ds p := hA0
  rw [Tryd.params4] at hA hval
  obtain ⟨v0, vs0, d0, ds0, p0, q0, hargs, rfl, rfl, h0, r0⟩ := trodAll_cons hA
  obtain ⟨v1, vs1, d1, ds1, p1, q1, rfl, rfl, rfl, h1, r1⟩ := trodAll_cons r0
  obtain ⟨rfl, rfl, rfl⟩ := trodAll_nil r1
  obtain rfl : args = #[v0, v1] := by cases args; simp_all
  obtain ⟨rfl, rfl⟩ := trodVars_none hV
  obtain ⟨a0, len0, cap0, rfl⟩ := okWide_slice Tryd.underlying22 (hval 0 22 v0 rfl rfl)
  have k0 := h0
  have lt0 : ∀ x ∈ p0, x.block < W.heap.size := by obtain ⟨m, hm⟩ := k0; exact DataW.trod_lt m _ _ _ hm
  obtain ⟨xs0, hri0⟩ := items_of_trod Tryd.underlying22 Tryd.underlying26 (by kernel_rfl) rfl rfl rfl rfl rfl rfl rfl rfl rfl rfl rfl rfl rfl Tryd.underlying9 Tryd.underlying4 (by kernel_rfl) (by kernel_rfl) (by kernel_rfl) (by kernel_rfl) Tryd.underlying23 Tryd.underlying5 (by kernel_rfl) Tryd.underlying24 Tryd.underlying23 (by kernel_rfl) h0
  have k1 := h1
  have lt1 : ∀ x ∈ p1, x.block < W.heap.size := by obtain ⟨m, hm⟩ := k1; exact DataW.trod_lt m _ _ _ hm
  obtain ⟨s1, rfl, -, -, z1⟩ := Go.ChangeMaps.open_string Tryd.underlying9 (hval 1 9 v1 rfl rfl) h1
  clear hA0
  refine (walk W (kst_of_tab (table hL)) hri0 z1).mono fun e W' ⟨he, bel⟩ => ?_
  subst he
  exact ⟨_, rfl, _, _, _, [], _, [], hW', trodAll_mk1 (shut_bool Tryd.underlying4 _), (trodAll_cons_mk (Below.trod laidOut (by kernel_rfl) (of_decide_eq_true (by kernel_rfl)) k0 bel lt0) (trodAll_cons_mk (Below.trod laidOut (by kernel_rfl) (of_decide_eq_true (by kernel_rfl)) k1 bel lt1) trodAll_mk0)), rfl, bel.frame _, fun h => by cases h⟩
theorem laid_met (os : Os) : laidMet Tryd.prog Rows.objecttreeCompleteRow.laid ((laidWorld os).forCall (fun _ _ => 0) ⟨#[], #[.slice none 0 0, .string ByteArray.empty], []⟩).memory :=
  laidMet_of_run' 8 (by kernel_rfl) (by kernel_rfl)
theorem reads (os : Os) {H : Type} (enc : TypeId × Value → H) : ∃ places, DataW.whole enc Tryd.prog ((laidWorld os).forCall (fun _ _ => 0) ⟨#[], #[.slice none 0 0, .string ByteArray.empty], []⟩).memory Tryd.f4.params.toList Rows.objecttreeCompleteSpec.vars false #[Value.slice none 0 0, .string ByteArray.empty].toList 8 = some ([.nil, .lit (.string [])], [], places) :=
  ⟨[], by kernel_rfl⟩
set_option maxRecDepth 100000 in
theorem lifted (os : Os) (started : os.Started) (H : Type) (enc : TypeId × Value → H) (F : Stop.Interp) :
    ReturnsInHanded {} Tryd.checked os 4 .any ((OpenSpec.ofChange Rows.objecttreeCompleteSpec).preRow enc Tryd.prog Tryd.f4 Rows.objecttreeCompleteRow.domain false Rows.objecttreeCompleteRow.laid) (((OpenSpec.ofChange Rows.objecttreeCompleteSpec).at F).post enc Tryd.prog Tryd.f4 false true false false) := by
  obtain ⟨places, hx⟩ := reads os enc
  refine returnsInHanded_of_row (C := Tryd.checked) (s := OpenSpec.ofChange Rows.objecttreeCompleteSpec) own started (by kernel_rfl) Tryd.func4
    (witness_row_at (enc := enc) (C := Tryd.checked) false (laidWorld os) #[.slice none 0 0, .string ByteArray.empty] rfl (by kernel_rfl) (by kernel_rfl) (by kernel_rfl)
      (OpenSpec.preRow_of_cond 8 hx (by kernel_rfl) (fun k hk => by cases hk) (by kernel_rfl) (laid_met os))) ?_
  intro W base args ds gs before hval hW _ _ _ hL _ _
  exact contract H enc W base args ds gs before hval hW hL
theorem said : Rows.ObjecttreeCompleteSaid :=
  OpenClaim.holds_of_cond 4 Tryd.f4 rfl rfl rfl rfl rfl rfl rfl ⟨rfl, rfl, rfl, rfl, rfl⟩ rfl rfl rfl rfl rfl (by kernel_rfl) Tryd.func4 (by kernel_rfl)
    (of_decide_eq_true (by kernel_rfl)) (by unfold Func.isWrapper; first | (rw [if_pos (by decide +kernel)]; kernel_rfl) | (rw [if_neg (by decide +kernel)]; exact ⟨rfl, rfl⟩))
    (fun os started H enc _ F => by rw [OpenClaim.pre_eq_preRow]; exact lifted os started H enc F)
theorem plain (f : FuncId) (fn : Func) (hf : Tryd.pinned.checked.prog.funcNamed "plexus/plexuslaw40.ObjecttreeComplete" = some f) (hfn : Tryd.pinned.checked.prog.funcs[f]? = some fn) :
    false = Tryd.pinned.checked.prog.looks [] ∧ ∀ (j : Nat) t, fn.params[j]? = some t → Tryd.pinned.checked.prog.wantsStandIn t = false := by
  obtain rfl : f = 4 := Option.some.inj ((show Tryd.prog.funcNamed "plexus/plexuslaw40.ObjecttreeComplete" = some 4 by kernel_rfl).symm.trans hf) |>.symm
  obtain rfl : fn = Tryd.f4 := (Option.some.inj (Tryd.func4.symm.trans hfn)).symm
  refine ⟨by kernel_rfl, fun j t ht => ?_⟩
  rw [Tryd.params4] at ht
  have hm : t = 22 ∨ t = 9 := by simpa using Array.mem_of_getElem? ht
  rcases hm with rfl | rfl
  · exact (show Tryd.prog.wantsStandIn 22 = false by kernel_rfl)
  · exact (show Tryd.prog.wantsStandIn 9 = false by kernel_rfl)
/-- The card. -/
theorem card : Rows.ObjecttreeCompleteCardSaid :=
  Claim7.holds_tied_plain_at .later [] _ _ _ _ said (fun _ h => by cases h) (by kernel_rfl) (fun _ h => by cases h) objecttreeComplete_row_tie rfl ⟨rfl, rfl⟩ (by kernel_rfl) rfl plain (by kernel_rfl)
#print axioms card
end Go.Proofs.YthoaenpbmmjokaaDoor.objecttreeComplete
