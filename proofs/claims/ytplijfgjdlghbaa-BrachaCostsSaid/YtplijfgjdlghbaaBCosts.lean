/-
  Without liars a broadcast takes n Initial messages, n * n echoes and n * n readies, whatever the order of arrival.
-/
import Derived.Test.YtplijfgjdlghbaaBAgr
import Derived.Test.YtplijfgjdlghbaaBLaw7
import Derived.Test.YtplijfgjdlghbaaBHd
import Derived.Deep.CutRange
namespace Go.Proofs.Ytplijfgjdlghbaa.brachaCosts
open Go.ChangeShapes Go.WideShapes Go.ChangeAt Go.RowKit Go.Pl
/-- The counts. -/
def cnts (c1 c2 c3 : Nat) : Array Value := #[.int .i64 0, .int .i64 c1, .int .i64 c2, .int .i64 c3]
def nth3 (kd c1 c2 c3 : Nat) : Nat := if kd = 1 then c1 else if kd = 2 then c2 else c3
theorem cnts_get {kd c1 c2 c3 : Nat} (h1 : 1 ≤ kd) (h3 : kd ≤ 3) : (cnts c1 c2 c3)[kd]? = some (.int .i64 (nth3 kd c1 c2 c3 : Nat)) := by
  have : kd = 1 ∨ kd = 2 ∨ kd = 3 := by omega
  rcases this with rfl | rfl | rfl <;> rfl
theorem cnts_set {kd c1 c2 c3 : Nat} (h1 : 1 ≤ kd) (h3 : kd ≤ 3) {k : Int} (hk : k = (kd : Int)) : (cnts c1 c2 c3).setIfInBounds kd (.int .i64 ((nth3 kd c1 c2 c3 : Nat) + 1 : Int)) = cnts (c1 + if k = 1 then 1 else 0) (c2 + if k = 2 then 1 else 0) (c3 + if k = 3 then 1 else 0) := by
  subst hk
  have : kd = 1 ∨ kd = 2 ∨ kd = 3 := by omega
  rcases this with rfl | rfl | rfl <;> rfl
/-- What holds beside the group: the counts, in a block of the law's own. -/
def Kept (w : World) (zb : Nat) (c : Array Value) (wr : World) (K' : Nat → GL) : Prop := K' zb = .own ∧ (∀ y, K' y ≠ .no → w.heap.size ≤ y) ∧ Below w.heap.size w wr ∧ Blk wr zb 60 c
theorem Kept.went {w wa wb : World} {zb : Nat} {c : Array Value} {Ka Kb : Nat → GL} (h : Kept w zb c wa Ka) (hw : Went wa Ka wb Kb) : Kept w zb c wb Kb := by
  obtain ⟨h1, h2, h3, h4⟩ := h
  refine ⟨(hw.1 zb h4.lt).trans h1, fun y hy => ?_, h3.trans (hw.2.below (fun y hy => h2 y hy.1) h3.size), h4.fr hw.2 (fun h => h.2 h1)⟩
  rcases Nat.lt_or_ge y wa.heap.size with h | h
  · exact h2 y (by rw [← hw.1 y h]; exact hy)
  · exact Nat.le_trans h3.size h
theorem Kept.up {w wa wb : World} {zb : Nat} {c : Array Value} {K : Nat → GL} (h : Kept w zb c wa K) (hb : Below wa.heap.size wa wb) : Kept w zb c wb K := h.went ⟨fun _ _ => rfl, Fr.of_below hb⟩
theorem Kept.put {w wa : World} {zb : Nat} {c : Array Value} {K : Nat → GL} (h : Kept w zb c wa K) (kd : Nat) (v : Value) : Kept w zb (c.setIfInBounds kd v) (wa.setCell ⟨zb, kd, none⟩ v) K := by
  obtain ⟨h1, h2, h3, h4⟩ := h
  exact ⟨h1, h2, h3.setCell (h2 zb (by rw [h1]; simp)) _, h4.set_ kd v⟩
set_option maxRecDepth 100000 in
set_option maxHeartbeats 4000000 in
theorem walk_no (w : World) (n o : Int) (A : Option Addr) (pl pc : Nat) (P : Option Addr) (len c : Nat) (h : 2000 < pl ∨ n < 1 ∨ 7 < n ∨ o < 0 ∨ n ≤ o) :
    Calls Try.prog 8 #[.int .i64 n, .int .i64 o, .slice A pl pc, .slice P len c] w fun e w' => e = .returned (.bool true) ∧ Below w.heap.size w w' := by
  by_cases c0 : 2000 < pl
  · have c0I : (2000 : Int) < (pl : Int) := by omega
    clear h c0
    go_enter Try.func8, Try.ntmps8
    go_wp2_with fail
    refine (awake_any _).mono ?_
    rintro e w1 ⟨rfl, hb1⟩
    go_wp2_with fail
    go_ret
    exact ⟨rfl, hb1⟩
  · have c0I : ¬ (2000 : Int) < (pl : Int) := by omega
    by_cases c1 : n < 1
    · clear h
      go_enter Try.func8, Try.ntmps8
      go_wp2_with fail
      refine (awake_any _).mono ?_
      rintro e w1 ⟨rfl, hb1⟩
      go_wp2_with fail
      go_ret
      exact ⟨rfl, hb1⟩
    · by_cases c2 : 7 < n
      · clear h
        go_enter Try.func8, Try.ntmps8
        go_wp2_with fail
        refine (awake_any _).mono ?_
        rintro e w1 ⟨rfl, hb1⟩
        go_wp2_with fail
        go_ret
        exact ⟨rfl, hb1⟩
      · by_cases c3 : o < 0
        · clear h
          go_enter Try.func8, Try.ntmps8
          go_wp2_with fail
          refine (awake_any _).mono ?_
          rintro e w1 ⟨rfl, hb1⟩
          go_wp2_with fail
          go_ret
          exact ⟨rfl, hb1⟩
        · have c4 : n ≤ o := by omega
          clear h
          go_enter Try.func8, Try.ntmps8
          go_wp2_with fail
          refine (awake_any _).mono ?_
          rintro e w1 ⟨rfl, hb1⟩
          go_wp2_with fail
          go_ret
          exact ⟨rfl, hb1⟩
set_option maxRecDepth 100000 in
set_option maxHeartbeats 16000000 in
theorem walk_yes (w : World) (n o : Nat) (h1 : 1 ≤ n) (h7 : n ≤ 7) (ho : o < n) {A : Option Addr} {pl pc : Nat} {t : List UInt8} (hp : Rd w (fun _ => True) A pl pc t) (hpl : pl ≤ 2000) {P : Option Addr} {len c : Nat} {zs : List Int} (hz : Row w (fun _ => True) 1 P len c (zs.map iv)) (hI : I64s zs) (hlen : len ≤ 9223372036854775807) :
    Calls Try.prog 8 #[.int .i64 n, .int .i64 o, .slice A pl pc, .slice P len c] w fun e w' => e = .returned (.bool true) ∧ Below w.heap.size w w' := by
  have e1 : ¬ (2000 : Int) < (pl : Int) := by omega
  have e2 : ¬ (n : Int) < 1 := by omega
  have e3 : ¬ (7 : Int) < (n : Int) := by omega
  have e4 : ¬ (o : Int) < 0 := by omega
  have e5 : ¬ (n : Int) ≤ (o : Int) := by omega
  have hpd := Lib.hid (hp.mono (T := fun i => i < w.heap.size) (fun i hi _ => hi))
  have hzd := Lib.hid (hz.mono (T := fun i => i < w.heap.size) (fun i hi _ => hi))
  have hId := Lib.hid hI
  have hzl : Hid (len = zs.length) := by show _ = _; have := hz.len; simp at this; omega
  have htl : Hid (t.length ≤ 2000) := by show _ ≤ _; have := hp.len; omega
  clear hp hz hI
  go_enter Try.func8, Try.ntmps8
  go_wp2_with fail
  refine (awake_any _).mono ?_
  rintro e w1 ⟨rfl, hb1⟩
  have hb1d := Lib.hid hb1
  clear hb1
  go_wp2_with fail
  refine (run_any (bs := []) (xs := []) w1 n h1 h7 (Row.nil w1 (fun _ => True) 1) (RdA.nil w1 (fun _ => True)) (fun x hx => by cases hx) (by omega) (fun _ => false) (fun i => by simp)).mono ?_
  intro e w2 hran
  obtain ⟨g, K, rfl, hG0, hb2, hlow⟩ := hran.1 (Bra.no_liar n)
  have hG0 : GrpAt w2 K g (Bra.Grp.start n fun _ => false) := hG0
  have hb2d : Hid (Below w.heap.size w w2) := hb1d.out.trans (hb2.mono hb1d.out.size)
  have hlowd : Hid (∀ y, K y ≠ .no → w.heap.size ≤ y) := fun y hy => Nat.le_trans hb1d.out.size (hlow y hy)
  obtain ⟨s, hs⟩ : ∃ s, (Bra.Grp.start n fun _ => false) = s := ⟨_, rfl⟩
  rw [hs] at hG0
  have hsd := Lib.hid hs
  have hfine : Hid (Bra.Fine n 0 s) := by show Bra.Fine n 0 s; rw [← hs]; exact Bra.Fine.start _
  have hsc : s.casts = (List.range n).map fun _ => [] := by rw [← hs]; rfl
  obtain ⟨l, hl⟩ : ∃ l, s.casts[o]? = some l := ⟨_, List.getElem?_eq_getElem (by rw [hfine.out.casts]; exact ho)⟩
  have hl0 : Hid (l = []) := by
    show l = []
    rw [hsc, List.getElem?_map] at hl
    cases hx : (List.range n)[o]? with
    | none => rw [hx] at hl; cases hl
    | some y => rw [hx] at hl; simp at hl; first | exact hl | exact hl.symm
  obtain ⟨p, hp0⟩ : ∃ p, s.all[o]? = some (some p) := ⟨Bra.start n o, by rw [← hs]; simp [Bra.Grp.start, ho]⟩
  have hact : Hid (s.say o t = (({ s with casts := s.casts.set o (l ++ [t]) } : Bra.Grp).put o (Bra.bcast p t).1).send (Bra.bcast p t).2) := by
    show _ = _
    unfold Bra.Grp.say
    rw [hp0]
    show (if _ then _ else _) = _
    rw [List.getD_eq_getElem?_getD, hl]
    show (if l.length < 3 then _ else _) = _
    rw [hl0.out, if_pos (by simp)]
    rfl
  have hp0d := Lib.hid hp0
  clear hran hb2 hlow hs hsc hp0 hb1d e1 e2 e3 e4 e5
  obtain ⟨Lb, Gs, AA, an, ac, av, PA, pn, pcc, pv, CA, cn, cc, cv, hG⟩ := hG0
  obtain rfl : n = an := by rw [hG.anLen]; exact hfine.out.all.symm
  obtain rfl : n = cn := by rw [hG.cnLen]; exact hfine.out.casts.symm
  obtain ⟨A0, n0, c0, hcv, hrow0, hlab0⟩ := hG.cast o l hl
  have hn0 : n0 = 0 := by have h3 := hrow0.1; rw [hl0.out] at h3; simp at h3; omega
  subst hn0
  obtain ⟨cb, cq, hCA, -, hcb, hcat⟩ := (own_row hG.crow).at_ (by omega)
  have hcq : cq = 0 := by
    rcases hG.crow.2 with ⟨he, _⟩ | ⟨g', cap, cur, he, _⟩
    · cases he; cases hCA
    · cases he; cases hCA; rfl
  subst hcq
  subst hCA
  have hck := hcat o (by omega)
  rw [Nat.zero_add, hcv] at hck
  have hckd := Lib.hid hck
  have hGd := Lib.hid hG
  have hcvd := Lib.hid hcv
  have hrow0d := Lib.hid hrow0
  have hlab0d := Lib.hid hlab0
  have hcbd := Lib.hid hcb
  have hld := Lib.hid hl
  have hoI : (o : Int) < (n : Int) := by omega
  clear hG hcat hcv hrow0 hlab0 hcb hl hck
  go_upto_region 10 with fail
  obtain ⟨F, hF⟩ : ∃ F : Nat → Prop, F = fun i => (Value.slice A0 0 c0).ownBlock = some i := ⟨_, rfl⟩
  have hFK : ∀ i, F i → K i = .cast o := by rw [hF]; exact hlab0d.out
  have hFlow : ∀ i, F i → w.heap.size ≤ i := fun i hi => hlowd.out i (by rw [hFK i hi]; simp)
  have ng : ¬ F g := fun h => by have h1 := hFK g h; rw [hGd.out.lab] at h1; cases h1
  have nc : ¬ F cb := fun h => by have h1 := hFK cb h; rw [hGd.out.clab cb rfl] at h1; cases h1
  have gp : ∀ w', Fr F w2.drew w' → w'.cell? ⟨g, 2, none⟩ = some (.slice (some ⟨cb, 0, none⟩) n cc) := fun w' h => (h.cell (p := ⟨g, 2, none⟩) hGd.out.blk.lt ng).trans ((hGd.out.blk.cell 2).trans rfl)
  have gk : ∀ w', Fr F w2.drew w' → w'.cell? ⟨cb, o, none⟩ = some (.slice A0 0 c0) := fun w' h => (h.cell (p := ⟨cb, o, none⟩) hcbd.out nc).trans hckd.out
  have hbq : Below w.heap.size w w2.drew := hb2d.out.trans ((ab_drew w2).mono hb2d.out.size)
  have sx : ∀ w', Fr F w2.drew w' → Bytes w' w'.heap.size (.slice A pl pc) t := fun w' h => ((hpd.out.fr (Fr.of_below (F := fun _ => False) hbq) (fun _ _ h => h)).fr h (fun i hi hx => by have := hFlow i hx; omega)).all
  have hGe : Hid (GrpIn w2.drew K g s Lb Gs AA n ac av PA pn pcc pv (some ⟨cb, 0, none⟩) n cc cv) := hGd.out.upTo (ab_drew w2)
  have hbe : Hid (Below w.heap.size w w2.drew) := hbq
  have hrow0e : Hid (w2.drew.ownsRow 0 9 1 (.slice A0 0 c0) 0 (l.map strv)) := own_fr hrow0d.out (Fr.of_below (F := fun _ => False) (ab_drew w2)) (fun _ _ h => h)
  have hFd := Lib.hid hF
  clear hGd hb2d hrow0d hFK ng nc hF hbq hckd hFlow
  refine wp_region_late (Fr F) (fun w => Fr.refl F w) (fun a b c h k => h.trans k (fun _ h => .inl h)) [17] (.one [0, 1, 2, 4, 5, 6, 7, 9, 12] [3, 8, 10, 11, 13] 14 (.one [] [] 15 (.one [] [16] 17 (.last [] [])))) (by kernel_rfl) (by kernel_rfl) (fun _ _ _ _ _ h => h) ?_
  simp only [wpSchV, ordPick, Option.toList_some, List.cons_append, List.nil_append, List.getElem?_cons_succ, List.getElem?_cons_zero]
  generalize w2.drew = wd at gp gk sx hGe hbe hrow0e ⊢
  iterate 9 (go_big_quiet_step (exact fun _ => rfl))
  refine wpQuiet_nil ?_
  refine wpq_load_one rfl 50 (.tmp 44) rfl ⟨g, 2, none⟩ rfl _ gp _ Try.underlying50 rfl ?_
  simp only [Act.put, List.setIfInBounds_toArray, List.set_cons_succ, List.set_cons_zero]
  refine wpq_load_one rfl 50 (.tmp 49) rfl ⟨g, 2, none⟩ rfl _ gp _ Try.underlying50 rfl ?_
  simp only [Act.put, List.setIfInBounds_toArray, List.set_cons_succ, List.set_cons_zero]
  iterate 1 (go_big_quiet_step (exact fun _ => rfl))
  refine wpq_load_one rfl 53 (.tmp 52) rfl ⟨cb, o, none⟩ rfl _ gk _ Try.underlying53 rfl ?_
  simp only [Act.put, List.setIfInBounds_toArray, List.set_cons_succ, List.set_cons_zero]
  refine wpq_string rfl 33 9 5 (.tmp 54) rfl Try.underlying33 Try.underlying5 Try.underlying9 _ _ _ rfl _ sx ?_
  simp only [Act.put, List.setIfInBounds_toArray, List.set_cons_succ, List.set_cons_zero]
  refine wpQuiet_nil ?_
  clear gp gk sx
  go_wp2_with fail
  have ro := own_alc hrow0e.out (.cells #[.string ⟨t.toArray⟩] 9)
  have r1 := Row.new (n := 1) (sz := 1) wd 9 #[.string ⟨t.toArray⟩] [.string ⟨t.toArray⟩] rfl rfl (by decide)
  have a1 : Ab wd (wd.alloc (.cells #[.string ⟨t.toArray⟩] 9)) := (Below.refl _ _).alloc (Nat.le_refl _) _
  refine And.intro (.inr (Fr.of_below a1)) (wpQuiet_nil (wpQuiet_nil ?_))
  obtain ⟨w3, hw3⟩ : ∃ x, wd.alloc (.cells #[.string ⟨t.toArray⟩] 9) = x := ⟨_, rfl⟩
  rw [hw3] at ro r1 a1 ⊢
  clear hw3
  go_wp2_with (at_builtin; refine wpl_app rfl (.tmp 53) (.tmp 56) 53 rfl 0 9 _ 1 16 Try.underlying53 infoStr rfl (by decide) (by decide) _ rfl 0 (l.map strv) ro _ _ 1 1 rfl _ r1 ?h1 (by omega) (Nat.zero_le _) 1 rfl ?h2)
  case h1 => first | rfl | (intro u hu; simp at hu; subst hu; rfl)
  case h2 =>
    intro A2 c2 w4 ho2 hg2 hz2
    have f2 : Hid (Fr (fun i => (Value.slice A0 0 c0).ownBlock = some i) wd w4) := ((Fr.of_below (F := fun _ => False) a1).mono (F := fun i => (Value.slice A0 0 c0).ownBlock = some i) (fun _ h => h.elim)).grown hg2 (fun k e => .inl e)
    have f12 : Fr F w3 w4 := by rw [hFd.out]; exact (Fr.refl _ w3).grown hg2 (fun k e => .inl e)
    have hcr2 := own_fr hGe.out.crow f2.out (fun b e hb => by have h1 := hlab0d.out b hb; rw [hGe.out.clab b e] at h1; cases h1)
    obtain ⟨-, -, hgc2, hgf2, -⟩ := own_g hcr2
    have c1 : w4.cell? ⟨cb, o, none⟩ = some (.slice A0 0 c0) := by rw [hgc2 o ho]; exact hcvd.out
    have fz := hgf2 o
    have a1d := Lib.hid a1
    have ho2d := Lib.hid ho2
    have hg2d := Lib.hid hg2
    have hz2d := Lib.hid hz2
    clear ro r1 ho2 hg2 hz2 hcr2 hgc2 hgf2 a1
    go_wp2_with fail
    refine And.intro (.inr f12) (wpQuiet_nil ?_)
    clear f12
    iterate 1 (go_big_quiet_step (exact fun _ => rfl))
    refine wpQuiet_nil ?_
    go_wp2_with fail
    refine And.intro (.inl rfl) (wpQuiet_nil (wpQuiet_nil ?_))
    obtain ⟨w5, hw5⟩ : ∃ x, w4.setCell ⟨cb, o, none⟩ (.slice A2 1 c2) = x := ⟨_, rfl⟩
    rw [hw5]
    obtain ⟨K3, hG3, hwt3⟩ := hGe.out.word (n := 0) hld.out hcvd.out hlab0d.out a1d.out hg2d.out ho2d.out hz2d.out hw5
    have hb5d : Hid (Below w.heap.size w w5) := hbe.out.trans (hwt3.2.below (fun y hy => hlowd.out y hy.1) hbe.out.size)
    have hlow3 : Hid (∀ y, K3 y ≠ .no → w.heap.size ≤ y) := fun y hy => by
      rcases Nat.lt_or_ge y wd.heap.size with h | h
      · exact hlowd.out y (by rw [← hwt3.1 y h]; exact hy)
      · exact Nat.le_trans hbe.out.size h
    obtain ⟨Lc, Gc, AB, an2, ac2, av2, PB, pn2, pc2, pv2, CB, cn2, cc2, cv2, hG⟩ := hG3
    obtain rfl : n = an2 := by rw [hG.anLen]; exact hfine.out.all.symm
    have hGd := Lib.hid hG
    clear hGe hbe hrow0e hlab0d hcvd hld hcbd a1d ho2d hg2d hz2d hw5 hwt3 c1 fz f2 hlowd hG
    rcases hGd.out.ask (o : Int) with ⟨h3, -⟩ | ⟨h3, -, -⟩ | ⟨k2, ab2, hkk, -, rfl, hab, hcase⟩
    · omega
    · omega
    · obtain rfl : k2 = o := by omega
      rcases hcase with ⟨-, h5, -⟩ | ⟨p2, -, h5, hc⟩
      · have h5 : s.all[k2]? = some none := h5
        rw [hp0d.out] at h5; cases h5
      · obtain rfl : p2 = p := by
          have h5 : s.all[k2]? = some (some p2) := h5
          rw [hp0d.out] at h5; cases h5; rfl
        have hp5 : Hid (({ s with casts := s.casts.set k2 (l ++ [t]) } : Bra.Grp).all[k2]? = some (some p2)) := hp0d.out
        have g0 : w5.cell? ⟨g, 0, none⟩ = some (.slice (some ⟨ab2, 0, none⟩) n ac2) := (hGd.out.blk.cell 0).trans rfl
        clear hkk hab h5
        go_wp2_with fail
        have hp := hGd.out.proc k2 p2 hp5.out
        have hpo := hfine.out.proc k2 p2 hp5.out
        have hre : Rd w5 (fun i => Lc k2 i = .no) A pl pc t := (hpd.out.fr (Fr.of_below (F := fun i => w.heap.size ≤ i) hb5d.out) (fun i h => by omega)).mono (fun i _ hi => Classical.byContradiction fun hx => by have h8 := hlow3.out i (by rw [hp.2 i hx]; simp); omega)
        refine (bcast_any hp.1 hre (by show t.length ≤ _; have := htl.out; omega) (by omega)).mono ?_
        rintro e w6 ⟨A6, c6, rfl, hr6, hp6, hf6⟩
        have hpn : Hid (p2.n = n) := hpo.1
        obtain ⟨K6, hG6, hwt6, hr6'⟩ := hGd.out.said hp5.out hr6 hp6 hf6
        have hG6d := Lib.hid hG6
        have hr6d := Lib.hid hr6'
        have hb6d : Hid (Below w.heap.size w w6) := hb5d.out.trans (hwt6.2.below (fun y hy => hlow3.out y hy.1) hb5d.out.size)
        have hlow6 : Hid (∀ y, K6 y ≠ .no → w.heap.size ≤ y) := fun y hy => by
          rcases Nat.lt_or_ge y w5.heap.size with h | h
          · exact hlow3.out y (by rw [← hwt6.1 y h]; exact hy)
          · exact Nat.le_trans hb5d.out.size h
        clear hp hpo hr6 hp6 hf6 hG6 hwt6 hr6' hre g0 hc hGd hb5d hlow3
        go_wp2_with fail
        refine (send_any hG6d.out hr6d.out (by
          have h3 := hfine.out.pend
          have h5 : (Bra.bcast p2 t).2.length = p2.n := Bra.all_length _ _ _ _ _ _
          rw [hpn.out] at h5
          show s.pending.length + _ ≤ _
          omega) (by rw [put_len]; show s.all.length ≤ _; rw [hfine.out.all]; omega)).mono ?_
        rintro e w7 ⟨rfl, K7, hG7, hwt7⟩
        rw [← hact.out, ← hsd.out] at hG7
        have hG7d := Lib.hid hG7
        have hb7d : Hid (Below w.heap.size w w7) := hb6d.out.trans (hwt7.2.below (fun y hy => hlow6.out y hy.1) hb6d.out.size)
        have hlow7 : Hid (∀ y, K7 y ≠ .no → w.heap.size ≤ y) := fun y hy => by
          rcases Nat.lt_or_ge y w6.heap.size with h | h
          · exact hlow6.out y (by rw [← hwt7.1 y h]; exact hy)
          · exact Nat.le_trans hb6d.out.size h
        clear hG7 hwt7 hG6d hr6d hb6d hlow6 hpn hp5 hact hl0 hfine hsd hp0d
        obtain ⟨T, hT⟩ : ∃ T : Nat, 2 * n * n = T := ⟨_, rfl⟩
        obtain ⟨Q, hQ⟩ : ∃ Q : Nat, n * n = Q := ⟨_, rfl⟩
        have hQl : Q ≤ 49 := by rw [← hQ]; exact Nat.mul_le_mul h7 h7
        have hTQ : T = 2 * Q := by rw [← hT, ← hQ, Nat.mul_assoc]
        have hTl : T ≤ 98 := by omega
        have hTI : (2 : Int) * (n : Int) * (n : Int) = (T : Int) := by rw [← hT]; simp
        have hQI : (n : Int) * (n : Int) = (Q : Int) := by rw [← hQ]; simp
        have hTd := Lib.hid hT
        have hQd := Lib.hid hQ
        clear hT hQ
        go_upto_region 13 with fail
        obtain ⟨w8, hw8⟩ : ∃ x, w7.alloc (.cells #[.int .i64 0, .int .i64 0, .int .i64 0, .int .i64 0] 60) = x := ⟨_, rfl⟩
        have hZ : Hid (Blk w8 w7.heap.size 60 (cnts 0 0 0)) := by show Blk _ _ _ _; rw [← hw8]; exact Blk.new' rfl
        have hb78 : Below w7.heap.size w7 w8 := by rw [← hw8]; exact (Below.refl _ _).alloc (Nat.le_refl _) _
        rw [hw8]
        obtain ⟨Ld, Gd, AD, an7, ac7, av7, PD, pn7, pc7, pv7, CD, cn7, cc7, cv7, hG7⟩ := hG7d.out
        have hsc7 := hG7.scratch (ob := some w7.heap.size) (w' := w8) (Fr.of_below hb78) (fun b e => by cases e; exact ⟨.inr (Nat.le_refl _), hZ.out.lt⟩)
        obtain ⟨K8, hK8⟩ : ∃ K8 : Nat → GL, (fun i => if some w7.heap.size = some i then GL.own else K7 i) = K8 := ⟨_, rfl⟩
        have hG8 : Hid (GrpAt w8 K8 g ((Bra.Grp.start n fun _ => false).say k2 t)) := by show GrpAt _ _ _ _; rw [← hK8]; exact hsc7.1.at_
        have hkp8 : Hid (Kept w w7.heap.size (cnts 0 0 0) w8 K8) := by
          refine ⟨by rw [← hK8]; simp, fun y hy => ?_, hb7d.out.trans (hb78.mono hb7d.out.size), hZ.out⟩
          rw [← hK8] at hy
          by_cases e : w7.heap.size = y
          · rw [← e]; exact hb7d.out.size
          · have e' : ¬ some w7.heap.size = some y := by simpa using e
            dsimp only at hy
            rw [if_neg e'] at hy
            exact hlow7.out y hy
        obtain ⟨zb, hzb⟩ : ∃ x, w7.heap.size = x := ⟨_, rfl⟩
        rw [hzb] at hkp8 ⊢
        have htame : Hid (Bra.Tame n (fun _ => false) [((k2 : Int), 1)] 1000 0 ((Bra.Grp.start n fun _ => false).say k2 t)) := Bra.Tame.start h7 ho (by have := htl.out; omega)
        have hcost : Hid (Bra.Cost n k2 t 0 0 0 ((Bra.Grp.start n fun _ => false).say k2 t)) := Bra.Cost.start ho t
        clear hw8 hb78 hG7d hb7d hzb hZ hG7 hsc7 hK8 hlow7
        go_wp2_with fail
        go_loopw [12] (fun t12 wr => ∃ (i nA nB nC : Nat) (K' : Nat → GL) (s' : Bra.Grp), t12 = .int .i64 i ∧ i = nA + nB + nC ∧ i ≤ T + n ∧ GrpAt wr K' g s' ∧ Kept w zb (cnts nA nB nC) wr K' ∧ Bra.Cost n k2 t nA nB nC s' ∧ Bra.Tame n (fun _ => false) [((k2 : Int), 1)] 1000 i s') (fun t12 _ => T + n - (intOf t12).toNat)
        case atStart => exact ⟨0, 0, 0, 0, K8, _, rfl, rfl, by omega, hG8.out, hkp8.out, hcost.out, htame.out⟩
        case round =>
          obtain ⟨i, nA, nB, nC, K1, s1, rfl, hic, hiT, hG0, hkp, hco, htm⟩ := hrel
          clear hG8 hcost htame hkp8
          obtain ⟨Lb, Gs, AA, an, ac, av, PA, pn, pc', pv, CA, cn, cc', cv', hG⟩ := hG0
          have hpnl : Hid (s1.pending.length = pn) := hG.pnLen.symm
          have hsum := hco.sum
          rw [hTd.out, hpnl.out] at hsum
          have hple : pn ≤ 1000 := by omega
          have g1 : wr.cell? ⟨g, 1, none⟩ = some (.slice PA pn pc') := (hG.blk.cell 1).trans rfl
          have hGd := Lib.hid hG
          have hcod := Lib.hid hco
          have htmd := Lib.hid htm
          have hkpd := Lib.hid hkp
          have hbrd := Lib.hid hkp.2.2.1
          have hZd := Lib.hid hkp.2.2.2
          have hicd := Lib.hid hic
          have hsumd : Hid (i + pn ≤ T + n) := by show _ ≤ _; omega
          clear hG hco htm hkp hic hsum
          by_cases hp0 : pn = 0
          · have hpI : ¬ (0 : Int) < (pn : Int) := by omega
            have hpe : Hid (s1.pending = []) := List.eq_nil_of_length_eq_zero (by rw [hpnl.out]; exact hp0)
            obtain ⟨f1, f2, f3, hag, pp, dd, hpp, hdd⟩ := hcod.out.fin h1 ho hpe.out
            rw [hQd.out] at f2 f3
            have z1 : wr.cell? ⟨zb, 1, none⟩ = some (.int .i64 (nA : Nat)) := (hZd.out.cell 1).trans rfl
            have z2 : wr.cell? ⟨zb, 2, none⟩ = some (.int .i64 (nB : Nat)) := (hZd.out.cell 2).trans rfl
            have z3 : wr.cell? ⟨zb, 3, none⟩ = some (.int .i64 (nC : Nat)) := (hZd.out.cell 3).trans rfl
            rw [f1] at z1
            rw [f2] at z2
            rw [f3] at z3
            clear f1 f2 f3
            have hag := Lib.hid hag
            have hppd := Lib.hid hpp
            have hddd := Lib.hid hdd
            have q1 : ((n : Int) == (n : Int)) = true := by simp
            have q2 : ((Q : Int) == (Q : Int)) = true := by simp
            clear hpp hdd
            go_wp2_with fail
            refine (agree_yes hGd.out.at_ hag.out (by rw [hcod.out.hold.all]; exact h7) (by rw [hcod.out.hold.all, hcod.out.hold.casts]) (fun j p hp => by have h3 := htmd.out.done j p hp; omega)).mono ?_
            rintro e w9 ⟨rfl, hb9⟩
            have hG9 := Lib.hid (hGd.out.upTo hb9)
            have hb9d : Hid (Below w.heap.size w w9) := hbrd.out.trans (hb9.mono hbrd.out.size)
            have g09 : w9.cell? ⟨g, 0, none⟩ = some (.slice AA an ac) := (hG9.out.blk.cell 0).trans rfl
            have hanI : (0 : Int) < (an : Int) := by rw [hG9.out.anLen, hcod.out.hold.all]; omega
            have han0 : 0 < an := by omega
            have han7 : an ≤ 7 := by rw [hG9.out.anLen, hcod.out.hold.all]; exact h7
            clear hb9 z1 z2 z3 g1
            rcases hG9.out.ask ((0 : Nat) : Int) with ⟨h3, -⟩ | ⟨h3, -, -⟩ | ⟨k0, ab0, hkk0, -, rfl, hab0, hcase0⟩
            · omega
            · omega
            · obtain rfl : k0 = 0 := by omega
              rcases hcase0 with ⟨-, h5, -⟩ | ⟨pp2, -, h5, hc0⟩
              · rw [hppd.out] at h5; cases h5
              · obtain rfl : pp2 = pp := by rw [hppd.out] at h5; cases h5; rfl
                clear hkk0 h5
                go_wp2_with fail
                refine (delivered_any (hG9.out.proc 0 pp2 hppd.out).1).mono ?_
                rintro e w10 ⟨A10, n10, c10, rfl, hr10, hb10⟩
                obtain rfl : n10 = 1 := by rw [hr10.len, hddd.out]; rfl
                clear hr10
                go_wp2_with fail
                go_ret
                exact ⟨rfl, hb9d.out.trans (hb10.mono hb9d.out.size)⟩
          · have hpI : (0 : Int) < (pn : Int) := by omega
            have hpB : decide ((0 : Int) < (pn : Int)) = true := decide_eq_true hpI
            have hpN : decide (0 < pn) = true := decide_eq_true (by omega)
            have hp1 : 1 ≤ pn := by omega
            have hnot : ¬ (T : Int) + (n : Int) < (i : Int) := by omega
            clear hp0
            go_upto_if 90 with fail
            go_cut [13] from 90 to 100 (fun s13 wx => ∃ k : Nat, s13 = .int .i64 k ∧ k < pn ∧ Below wr.heap.size wr wx)
            case first =>
              by_cases hil : i < len
              · have hilI : (i : Int) < (len : Int) := by omega
                obtain ⟨b, off, rfl, hbs, -, hcell⟩ := hzd.out.at_ (by omega)
                have hiz : i < zs.length := by rw [← hzl.out]; exact hil
                have hc0 := (hbrd.out.cell (p := ⟨b, off + i, none⟩) hbs).trans ((hcell i (by omega)).trans (iv_get zs i hiz))
                have hx64 := hId.out.get hiz
                obtain ⟨x, hx⟩ : ∃ x, zs.getD i 0 = x := ⟨_, rfl⟩
                rw [hx] at hc0 hx64
                have hbw : b < wr.heap.size := Nat.lt_of_lt_of_le hbs hbrd.out.size
                have hkn := Bra.modn_lt x hp1
                obtain ⟨k, hk⟩ : ∃ k, Bra.modn x pn = k := ⟨_, rfl⟩
                have hkd := Lib.hid hk
                rw [hk] at hkn
                clear hk hcell hx hbs
                go_upto_region 20 with fail
                have gp : ∀ w', Ab wr.drew w' → w'.cell? ⟨g, 1, none⟩ = some (.slice PA pn pc') := fun w' h => ((Below.cell h (p := ⟨g, 1, none⟩) hGd.out.blk.lt).trans g1)
                have gx : ∀ w', Ab wr.drew w' → w'.cell? ⟨b, off + i, none⟩ = some (.int .i64 x) := fun w' h => ((Below.cell h (p := ⟨b, off + i, none⟩) hbw).trans hc0)
                have hbe : Hid (Below wr.heap.size wr wr.drew) := ab_drew wr
                clear hc0 hbw
                refine wp_region_late Ab Ab.refl Ab.trans [] (.one [0, 1, 4, 5, 6] [2, 3, 7, 8] 9 (.last [10] [])) (by kernel_rfl) (by kernel_rfl) (fun _ _ _ _ _ h => h) ?_
                simp only [wpSchV, ordPick, Option.toList_some, List.cons_append, List.nil_append, List.getElem?_cons_succ, List.getElem?_cons_zero]
                generalize wr.drew = wd at gp gx hbe ⊢
                iterate 5 (go_big_quiet_step (exact fun _ => rfl))
                refine wpQuiet_nil ?_
                iterate 1 (go_big_quiet_step (exact fun _ => rfl))
                refine wpq_load_one rfl 3 (.tmp 93) rfl ⟨b, off + i, none⟩ rfl _ gx _ Try.underlying3 rfl ?_
                simp only [Act.put, List.setIfInBounds_toArray, List.set_cons_succ, List.set_cons_zero]
                refine wpq_load_one rfl 22 (.tmp 97) rfl ⟨g, 1, none⟩ rfl _ gp _ Try.underlying22 rfl ?_
                simp only [Act.put, List.setIfInBounds_toArray, List.set_cons_succ, List.set_cons_zero]
                iterate 1 (go_big_quiet_step (exact fun _ => rfl))
                refine wpQuiet_nil ?_
                clear gp gx
                go_wp2_with fail
                refine (mod_any wd x hx64 pn hp1 (by omega)).mono ?_
                rw [hkd.out]
                rintro e w' ⟨rfl, rfl⟩
                go_wp2_with fail
                refine And.intro (.inr (Ab.refl _)) ?_
                dsimp only
                iterate 1 (go_big_quiet_step (exact fun _ => rfl))
                refine wpQuiet_nil (wpQuiet_nil ?_)
                clear hx64 hkd
                go_wp2_with fail
                go_meet
                exact ⟨k, rfl, hkn, hbe.out⟩
              · have hilI : ¬ (i : Int) < (len : Int) := by omega
                go_wp2_with fail
                go_meet
                exact ⟨0, rfl, by omega, Below.refl _ _⟩
            case rest =>
              obtain ⟨k, rfl, hkn, hbc⟩ := hcut
              obtain ⟨wd, rfl⟩ : ∃ x, x = wc := ⟨_, rfl⟩
              have hGe : Hid (GrpIn wd K1 g s1 Lb Gs AA an ac av PA pn pc' pv CA cn cc' cv') := hGd.out.upTo hbc
              have hwe : Hid (Kept w zb (cnts nA nB nC) wd K1) := hkpd.out.up hbc
              clear g1 hGd hkpd hZd hbrd hbc
              have hknI : (k : Int) < (pn : Int) := by omega
              obtain ⟨m0, hm0⟩ : ∃ m0, s1.pending[k]? = some m0 := ⟨_, List.getElem?_eq_getElem (by rw [hpnl.out]; exact hkn)⟩
              have hm0d := Lib.hid hm0
              obtain ⟨sv, hs, hgt⟩ := hGe.out.pks.get hm0
              obtain ⟨pb, po, hPA, -, hpb, hpat⟩ := hGe.out.prow.row.at_ (by omega)
              have hrg : wd.rangeAt pb (po + k * 6) [.int .i64 m0.kind, .int .i64 m0.src, .int .i64 m0.to, .int .i64 m0.origin, .int .i64 m0.number, sv] := fun i v hi => by
                have hi6 : i < 6 := (List.getElem?_eq_some_iff.1 hi).1
                rw [Nat.add_assoc, hpat (k * 6 + i) (by omega)]
                exact hgt i v hi
              obtain ⟨A0, n0, c0, rfl, hr0⟩ := hs
              subst hPA
              have hr0d := Lib.hid hr0
              have g1 : wd.cell? ⟨g, 1, none⟩ = some (.slice (some ⟨pb, po, none⟩) pn pc') := (hGe.out.blk.cell 1).trans rfl
              have hpf := Lib.hid (htmd.out.pkt m0 (List.mem_of_getElem? hm0))
              have hkk := hcod.out.kinds m0 (List.mem_of_getElem? hm0)
              obtain ⟨kd, hkd⟩ : ∃ kd : Nat, m0.kind = (kd : Int) := ⟨m0.kind.toNat, by omega⟩
              have hkd1 : 1 ≤ kd := by omega
              have hkd3 : kd ≤ 3 := by omega
              have hkdd := Lib.hid hkd
              clear hm0 hgt hpat hpb hr0 hkk hkd
              go_upto_region 22 with ((with_reducible refine wpList_load_mid rfl 35 (.tmp 106) rfl pb (po + k * 6) ?_ _ _ hrg Try.underlying35 rfl ?_ ?_); rfl; kernel_rfl)
              obtain ⟨wy, hwy⟩ : ∃ x, wd.alloc (.cells #[.int .i64 m0.kind, .int .i64 m0.src, .int .i64 m0.to, .int .i64 m0.origin, .int .i64 m0.number, .slice A0 n0 c0] 35) = x := ⟨_, rfl⟩
              have hY : Hid (Blk wy wd.heap.size 35 #[.int .i64 m0.kind, .int .i64 m0.src, .int .i64 m0.to, .int .i64 m0.origin, .int .i64 m0.number, .slice A0 n0 c0]) := by show Blk _ _ _ _; rw [← hwy]; exact Blk.new' rfl
              have hby : Below wd.heap.size wd wy := by rw [← hwy]; exact (Below.refl _ _).alloc (Nat.le_refl _) _
              rw [hwy]
              have hGy : Hid (GrpIn wy K1 g s1 Lb Gs AA an ac av (some ⟨pb, po, none⟩) pn pc' pv CA cn cc' cv') := hGe.out.upTo hby
              have hwy2 : Hid (Kept w zb (cnts nA nB nC) wy K1) := hwe.out.up hby
              have hry : Hid (Rd wy (fun y => K1 y = .no) A0 n0 c0 m0.payload) := hr0d.out.fr (Fr.of_below (F := fun _ => False) hby) (fun _ _ h => h)
              have hKy : Hid (K1 wd.heap.size = .no) := Classical.byContradiction fun hz => by have := hGe.out.labs _ hz; omega
              have hyz : Hid (wd.heap.size ≠ zb) := fun e => by have := hwe.out.2.2.2.lt; omega
              obtain ⟨yb, hyb⟩ : ∃ x, wd.heap.size = x := ⟨_, rfl⟩
              rw [hyb] at hY hKy hyz ⊢
              clear hwy hby hGe hwe hr0d g1 hrg hyb
              obtain ⟨B, hB⟩ : ∃ B, wy.heap.size = B := ⟨_, rfl⟩
              have hBd : Hid (wy.drew.heap.size = B) := hB
              have hgB : Hid (g < B) := by show _ < _; rw [← hB]; exact hGy.out.blk.lt
              have gp : ∀ w', Fr (fun i => B ≤ i) wy.drew w' → w'.cell? ⟨g, 1, none⟩ = some (.slice (some ⟨pb, po, none⟩) pn pc') := fun w' h => (h.cell (p := ⟨g, 1, none⟩) hGy.out.blk.lt (by have := hgB.out; show ¬ B ≤ g; omega)).trans ((hGy.out.blk.cell 1).trans rfl)
              have hbq : Below wy.heap.size wy wy.drew := ab_drew wy
              have hGe : Hid (GrpIn wy.drew K1 g s1 Lb Gs AA an ac av (some ⟨pb, po, none⟩) pn pc' pv CA cn cc' cv') := hGy.out.upTo hbq
              have hYe : Hid (Blk wy.drew yb 35 #[.int .i64 m0.kind, .int .i64 m0.src, .int .i64 m0.to, .int .i64 m0.origin, .int .i64 m0.number, .slice A0 n0 c0]) := hY.out
              have hre : Hid (Rd wy.drew (fun y => K1 y = .no) A0 n0 c0 m0.payload) := hry.out.fr (Fr.of_below (F := fun _ => False) hbq) (fun _ _ h => h)
              have hwe : Hid (Kept w zb (cnts nA nB nC) wy.drew K1) := hwy2.out.up hbq
              have hpc : pn ≤ pc' := hGy.out.prow.le.1
              clear hGy hY hry hwy2 hbq hB
              refine wp_region_late (Fr fun i => B ≤ i) (fun w => Fr.refl _ w) (fun a b c h k => h.trans k (fun _ h => .inl h)) [19] (.one [0, 2, 3, 4, 6, 9, 10, 11, 13, 14] [5, 7, 12, 15] 1 (.one [] [] 8 (.one [] [] 16 (.one [17, 18] [] 19 (.last [] []))))) (by kernel_rfl) (by kernel_rfl) (fun _ _ _ _ _ h => h) ?_
              simp only [wpSchV, ordPick, Option.toList_some, List.cons_append, List.nil_append, List.getElem?_cons_succ, List.getElem?_cons_zero]
              generalize wy.drew = wd2 at gp hGe hYe hre hwe hBd ⊢
              iterate 10 (go_big_quiet_step (exact fun _ => rfl))
              refine wpQuiet_nil ?_
              refine wpq_load_one rfl 22 (.tmp 112) rfl ⟨g, 1, none⟩ rfl _ gp _ Try.underlying22 rfl ?_
              simp only [Act.put, List.setIfInBounds_toArray, List.set_cons_succ, List.set_cons_zero]
              refine wpq_slice_toz rfl 22 (.tmp 113) (.tmp 114) rfl 35 6 Try.underlying22 (by kernel_rfl) _ pn pc' rfl .i64 k rfl (by omega) ?_
              simp only [Act.put, List.setIfInBounds_toArray, List.set_cons_succ, List.set_cons_zero]
              refine wpq_load_one rfl 22 (.tmp 119) rfl ⟨g, 1, none⟩ rfl _ gp _ Try.underlying22 rfl ?_
              simp only [Act.put, List.setIfInBounds_toArray, List.set_cons_succ, List.set_cons_zero]
              refine wpq_slice_fromz rfl 22 (.tmp 120) (.tmp 122) rfl 35 6 Try.underlying22 (by kernel_rfl) _ pn pc' rfl .i64 (k + 1) rfl (by omega) ?_
              simp only [Act.put, List.setIfInBounds_toArray, List.set_cons_succ, List.set_cons_zero]
              refine wpQuiet_nil ?_
              clear gp
              obtain ⟨PF, hPF⟩ : ∃ x, (if pc' = k + 1 then some (⟨pb, po, none⟩ : Addr) else (some (⟨pb, po, none⟩ : Addr)).map (·.add ((k + 1) * 6))) = x := ⟨_, rfl⟩
              have rt : Row wd2 (fun _ => True) 6 (some ⟨pb, po, none⟩) k pc' (pv.take (k * 6)) := (hGe.out.prow.row.to (by omega)).mono (fun _ _ _ => trivial)
              have rf : Row wd2 (fun i => i < wd2.heap.size) 6 PF (pn - (k + 1)) (pc' - (k + 1)) (pv.drop ((k + 1) * 6)) := by rw [← hPF]; exact (hGe.out.prow.row.from_ (by omega)).mono (fun i hi _ => hi)
              rw [hPF]
              have hone := hGe.out.pks.one (fun u hu => by cases hu)
              have hone1 : Hid (∀ u ∈ pv.take (k * 6), u.oneCell' = true) := fun u hu => hone u (List.mem_of_mem_take hu)
              have hone2 : Hid (∀ u ∈ pv.drop ((k + 1) * 6), u.oneCell' = true) := fun u hu => hone u (List.mem_of_mem_drop hu)
              clear hone hPF
              go_wp2_with fail
              obtain ⟨w1, hw1⟩ : ∃ x, wd2.alloc (.cells #[] 35) = x := ⟨_, rfl⟩
              have a1 : Ab wd2 w1 := by rw [← hw1]; exact (Below.refl _ _).alloc (Nat.le_refl _) _
              have ro : w1.ownsRow B 35 6 (.slice (some ⟨wd2.heap.size, 0, none⟩) 0 0) 0 [] := by rw [← hw1, ← hBd.out]; exact World.ownsRow_made wd2 #[] 0 (Nat.le_refl _) (Nat.zero_le _) rfl
              have r1 := rt.up a1
              have r2d := Lib.hid (rf.up a1)
              have hBw1 : B ≤ w1.heap.size := by rw [← hBd.out]; exact a1.size
              rw [hw1]
              refine And.intro (.inr (Fr.of_below a1)) (wpQuiet_nil (wpQuiet_nil ?_))
              have f1d : Hid (Fr (fun i => B ≤ i) wd2 w1) := Fr.of_below a1
              rw [hBd.out] at ro ⊢
              clear hw1 a1 rt rf
              go_wp2_with (at_builtin; refine wpl_app rfl (.tmp 109) (.tmp 115) 22 rfl B 35 _ 6 64 Try.underlying22 infoPkt rfl (by decide) (by decide) _ rfl 0 [] ro _ _ k pc' rfl _ r1 hone1.out (by omega) hBw1 k (Nat.zero_add k) ?h2)
              case h2 =>
                intro A2 c2 w2 ho2 hg2 hz2
                have f12 : Fr (fun i => B ≤ i) w1 w2 := (Fr.refl _ w1).grown hg2 (fun x e => .inl (by have h9 : B = x := (by simpa [Value.ownBlock] using e); omega))
                have hBw2 : B ≤ w2.heap.size := Nat.le_trans hBw1 f12.size
                have r2 := r2d.out.fr f12 (fun i hi hx => by rw [hBd.out] at hi; omega)
                have f2d : Hid (Fr (fun i => B ≤ i) wd2 w2) := f1d.out.trans f12 (fun _ h => .inl h)
                clear ro r1 hg2 hz2 r2d f1d hBw1
                go_wp2_with fail
                refine And.intro (.inr f12) (wpQuiet_nil (wpQuiet_nil ?_))
                clear f12
                go_wp2_with (at_builtin; refine wpl_app rfl (.tmp 116) (.tmp 123) 22 rfl B 35 _ 6 64 Try.underlying22 infoPkt rfl (by decide) (by decide) _ rfl k _ ho2 _ _ (pn - (k + 1)) (pc' - (k + 1)) rfl _ r2 hone2.out (by omega) hBw2 (pn - 1) (by omega) ?h2)
                case h2 =>
                  intro A3 c3 w3 ho3 hg3 hz3
                  have hlo2 := own_lt ho2
                  have f23 : Fr (fun i => B ≤ i) w2 w3 := (Fr.refl _ w2).grown hg3 (fun x e => .inl (hlo2 x e).1)
                  have f3d : Hid (Fr (fun i => B ≤ i) wd2 w3) := f2d.out.trans f23 (fun _ h => .inl h)
                  have ho3d := Lib.hid ho3
                  have hgb := hGe.out.blk.fr f3d.out (by have := hgB.out; omega)
                  have c1' : w3.cell? ⟨g, 1, none⟩ = some (.slice (some ⟨pb, po, none⟩) pn pc') := (hgb.cell 1).trans rfl
                  have fz := hgb.frozen 1
                  clear ho2 ho3 hg3 hz3 hlo2 hBw2 r2 f2d hone1 hone2
                  go_wp2_with fail
                  refine And.intro (.inr f23) ?_
                  clear f23
                  dsimp only
                  iterate 2 (go_big_quiet_step (exact fun _ => rfl))
                  refine wpQuiet_nil (wpQuiet_nil ?_)
                  go_wp2_with fail
                  refine And.intro (.inl rfl) (wpQuiet_nil (wpQuiet_nil ?_))
                  obtain ⟨w4, hw4⟩ : ∃ x, w3.setCell ⟨g, 1, none⟩ (.slice A3 (pn - 1) c3) = x := ⟨_, rfl⟩
                  rw [hw4]
                  have f34 : Fr (fun i => i = g) w3 w4 := by rw [← hw4]; exact (Fr.refl (fun i => i = g) w3).setCell (p := ⟨g, 1, none⟩) (.inl rfl) _
                  have hblk4 := hgb.set_ 1 (.slice A3 (pn - 1) c3)
                  rw [hw4] at hblk4
                  have hlo3 := own_lt ho3d.out
                  obtain ⟨K4, hG4, -, hwt4⟩ := hGe.out.pend (w' := w4) (ms := s1.pending.eraseIdx k) ((f3d.out.mono (F := fun i => (Value.slice (some ⟨pb, po, none⟩) pn pc').ownBlock = some i ∨ i = g) (fun i h => .inr (by rw [hBd.out]; exact h))).trans f34 (fun _ h => .inl (.inr h))) hblk4
                    (OwnO.of (own_fr ho3d.out f34 (fun b e h => by have h5 := (hlo3 b e).1; have h6 := hgB.out; omega))) (fun b e => .inr (by rw [hBd.out]; exact (hlo3 b e).1)) (hGe.out.pks.erase k)
                  have hY4 := Lib.hid (hYe.out.fr hwt4.2 (fun h => h.1 hKy.out))
                  have hre4 : Hid (Rd w4 (fun y => K4 y = .no) A0 n0 c0 m0.payload) := ((hre.out.mono (T := fun i => K1 i = .no ∧ i < wd2.heap.size) (fun i hi h => ⟨h, hi⟩)).fr hwt4.2 (fun i hi h => h.1 hi.1)).mono (fun i hi h => by show K4 i = .no; rw [hwt4.1 i h.2]; exact h.1)
                  have hw04 : Hid (Kept w zb (cnts nA nB nC) w4 K4) := hwe.out.went hwt4
                  have hG4d := Lib.hid hG4
                  have hpl4 : Hid ((s1.pending.eraseIdx k).length ≤ 1000) := by
                    have h5 := List.length_eraseIdx_le s1.pending k
                    have h6 := hpnl.out
                    show _ ≤ _
                    omega
                  clear hw4 f34 hblk4 hlo3 hG4 hwt4 hGe hYe hre hwe hgb c1' fz f3d ho3d
                  have y0 : w4.cell? ⟨yb, 0, none⟩ = some (.int .i64 kd) := (hY4.out.cell 0).trans (by rw [← hkdd.out]; rfl)
                  have k1f : decide ((kd : Int) < 1) = false := decide_eq_false (by omega)
                  have k3f : decide ((3 : Int) < (kd : Int)) = false := decide_eq_false (by omega)
                  have z0 : w4.cell? ⟨zb, kd, none⟩ = some (.int .i64 (nth3 kd nA nB nC : Nat)) := (hw04.out.2.2.2.cell kd).trans (cnts_get hkd1 hkd3)
                  have zf := hw04.out.2.2.2.frozen kd
                  have hn3 : nth3 kd nA nB nC ≤ 1000 := by
                    have h9 := hicd.out
                    have hx : nth3 kd nA nB nC ≤ nA + nB + nC := by unfold nth3; split; omega; split <;> omega
                    omega
                  obtain ⟨nv, hnv⟩ : ∃ nv, nth3 kd nA nB nC = nv := ⟨_, rfl⟩
                  have hnvd := Lib.hid hnv
                  rw [hnv] at z0 hn3
                  have hkd4 : (kd : Int) < 4 := by omega
                  clear hnv
                  go_upto_region 26 with fail
                  obtain ⟨w5, hw5⟩ : ∃ x, w4.setCell ⟨zb, kd, none⟩ (.int .i64 ((nv : Int) + 1)) = x := ⟨_, rfl⟩
                  rw [hw5]
                  have f45 : Fr (fun i => i = zb) w4 w5 := by rw [← hw5]; exact (Fr.refl (fun i => i = zb) w4).setCell (p := ⟨zb, kd, none⟩) (.inl rfl) _
                  have hw05 : Hid (Kept w zb (cnts (nA + if m0.kind = 1 then 1 else 0) (nB + if m0.kind = 2 then 1 else 0) (nC + if m0.kind = 3 then 1 else 0)) w5 K4) := by
                    have h9 := hw04.out.put kd (.int .i64 ((nv : Int) + 1))
                    rw [hw5, ← hnvd.out, cnts_set hkd1 hkd3 hkdd.out] at h9
                    exact h9
                  have hG5 : Hid (GrpAt w5 K4 g { s1 with pending := s1.pending.eraseIdx k }) := by
                    have h9 := (hG4d.out.scratch (ob := Option.none) (f45.mono (fun i hi => .inl (by rw [hi]; exact hw04.out.1))) (fun b e => by cases e)).1
                    have e9 : (fun i => if (Option.none : Option Nat) = some i then GL.own else K4 i) = K4 := by funext i; simp
                    rw [e9] at h9
                    exact h9.at_
                  have hY5 := Lib.hid (hY4.out.fr f45 hyz.out)
                  have hr5 : Hid (Rd w5 (fun y => K4 y = .no) A0 n0 c0 m0.payload) := hre4.out.fr f45 (fun i hi e => by rw [e, hw04.out.1] at hi; cases hi)
                  clear y0 k1f k3f z0 zf hw5 f45 hw04 hG4d hY4 hre4 hnvd
                  have hYd := hY5.out
                  go_wp2_with ((with_reducible refine wpl_load_part rfl 35 (.tmp 14) rfl yb 0 ?_ 35 _ hYd #[.int .i64 m0.kind, .int .i64 m0.src, .int .i64 m0.to, .int .i64 m0.origin, .int .i64 m0.number, .slice A0 n0 c0] rfl _ Try.underlying35 rfl (by kernel_rfl) ?_); rfl)
                  clear hYd
                  refine (receive_any hG5.out m0 hr5.out hpf.out.1 hpf.out.2 (fun i p hp => by have h3 := htmd.out.done i p hp; omega) (by have h5 := hpl4.out; show (s1.pending.eraseIdx k).length + 64 ≤ _; omega) (by show s1.all.length ≤ _; rw [htmd.out.hold.all]; omega)).mono ?_
                  rintro e w6 ⟨rfl, K6, hG6, hwt6⟩
                  have hG6d := Lib.hid hG6
                  have hw06 := Lib.hid (hw05.out.went hwt6)
                  clear hG6 hwt6 hw05 hG5 hr5 hY5
                  go_wp2_with fail
                  go_roundw
                  case rel =>
                    refine ⟨i + 1, _, _, _, K6, _, by go_num, ?_, by have := hsumd.out; omega, hG6d.out, hw06.out, hcod.out.take hm0d.out, htmd.out.takeAt (Bra.no_liar n) h7 hm0d.out⟩
                    have h9 := hicd.out
                    have h10 := hkdd.out
                    have h11 : kd = 1 ∨ kd = 2 ∨ kd = 3 := by omega
                    rcases h11 with h11 | h11 | h11 <;> (rw [h11] at h10; rw [h10]; simp; omega)
                  case measure => simp [intOf]; have := hsumd.out; omega
theorem walk (w : World) (n : Int) (_hn : -9223372036854775808 ≤ n ∧ n ≤ 9223372036854775807) (o : Int) (_ho : -9223372036854775808 ≤ o ∧ o ≤ 9223372036854775807) {A : Option Addr} {pl pc : Nat} {t : List UInt8} (hp : Rd w (fun _ => True) A pl pc t) {P : Option Addr} {len c : Nat} {zs : List Int} (hz : Row w (fun _ => True) 1 P len c (zs.map iv)) (hI : I64s zs) (hlen : len ≤ 9223372036854775807) :
    Calls Try.prog 8 #[.int .i64 n, .int .i64 o, .slice A pl pc, .slice P len c] w fun e w' => e = .returned (.bool true) ∧ Below w.heap.size w w' := by
  by_cases h : 2000 < pl ∨ n < 1 ∨ 7 < n ∨ o < 0 ∨ n ≤ o
  · exact walk_no w n o A pl pc P len c h
  · obtain ⟨N, rfl⟩ : ∃ N : Nat, n = (N : Int) := ⟨n.toNat, by omega⟩
    obtain ⟨S, rfl⟩ : ∃ S : Nat, o = (S : Int) := ⟨o.toNat, by omega⟩
    exact walk_yes w N S (by omega) (by omega) (by omega) hp (by omega) hz hI hlen
theorem contract (H : Type) (enc : TypeId × Value → H) (W : World) (base : Nat) (args : Array Value) (ds gs : List (DataW H)) (before : List MemPlace)
    (hval : ∀ (j : Nat) t v, Try.f8.params[j]? = some t → args[j]? = some v → Value.okWide Try.prog W .any base t v)
    (hW : DataW.Whole enc Try.prog Try.f8.params.toList Rows.brachaCostsSpec.vars false W args.toList ds gs before) :
    Calls Try.prog 8 args W fun e W' => ∃ v, e = .returned v ∧ Rows.brachaCostsSpec.post enc Try.prog Try.f8 false true false false W args v W' := by
  have hW' := hW
  obtain ⟨p, q, hA0, hV, rfl, hfz, hnd⟩ := hW
  have hA : DataW.TrodAll enc Try.prog W 0 (fun _ => true) true Try.f8.params.toList args.toList ds p := hA0
  rw [Try.params8] at hA hval
  obtain ⟨v0, vs0, d0, ds0, p0, q0, hargs, rfl, rfl, h0, r0⟩ := trodAll_cons hA
  obtain ⟨v1, vs1, d1, ds1, p1, q1, rfl, rfl, rfl, h1, r1⟩ := trodAll_cons r0
  obtain ⟨v2, vs2, d2, ds2, p2, q2, rfl, rfl, rfl, h2, r2⟩ := trodAll_cons r1
  obtain ⟨v3, vs3, d3, ds3, p3, q3, rfl, rfl, rfl, h3, r3⟩ := trodAll_cons r2
  obtain ⟨rfl, rfl, rfl⟩ := trodAll_nil r3
  obtain rfl : args = #[v0, v1, v2, v3] := by cases args; simp_all
  obtain ⟨rfl, rfl⟩ := trodVars_none hV
  obtain ⟨a2, len2, cap2, rfl⟩ := okWide_slice Try.underlying33 (hval 2 33 v2 rfl rfl)
  obtain ⟨a3, len3, cap3, rfl⟩ := okWide_slice Try.underlying57 (hval 3 57 v3 rfl rfl)
  have k0 := h0
  have lt0 : ∀ x ∈ p0, x.block < W.heap.size := by obtain ⟨m, hm⟩ := k0; exact DataW.trod_lt m _ _ _ hm
  obtain ⟨n0, rfl, -, -, z0⟩ := open_int Try.underlying3 (hval 0 3 v0 rfl rfl) h0
  have k1 := h1
  have lt1 : ∀ x ∈ p1, x.block < W.heap.size := by obtain ⟨m, hm⟩ := k1; exact DataW.trod_lt m _ _ _ hm
  obtain ⟨n1, rfl, -, -, z1⟩ := open_int Try.underlying3 (hval 1 3 v1 rfl rfl) h1
  have k2 := h2
  have lt2 : ∀ x ∈ p2, x.block < W.heap.size := by obtain ⟨m, hm⟩ := k2; exact DataW.trod_lt m _ _ _ hm
  obtain ⟨z2, w2⟩ := isRow_of_trod Try.underlying33 Try.underlying5 (by kernel_rfl) h2
  obtain ⟨bs2, hrd2⟩ := rd_of_row w2
  have k3 := h3
  have lt3 : ∀ x ∈ p3, x.block < W.heap.size := by obtain ⟨m, hm⟩ := k3; exact DataW.trod_lt m _ _ _ hm
  obtain ⟨zs3, w3, y3, x3⟩ := ints_of_trod Try.underlying57 Try.underlying3 (by kernel_rfl) h3
  clear hA0
  refine (walk W n0 (bounds_i64 z0) n1 (bounds_i64 z1) hrd2 w3 y3 x3).mono fun e W' ⟨he, bel⟩ => ?_
  subst he
  exact ⟨_, rfl, _, _, _, [], _, [], hW', trodAll_mk1 (shut_bool Try.underlying4 _), (trodAll_cons_mk (Below.trod laidOut (by kernel_rfl) (of_decide_eq_true (by kernel_rfl)) k0 bel lt0) (trodAll_cons_mk (Below.trod laidOut (by kernel_rfl) (of_decide_eq_true (by kernel_rfl)) k1 bel lt1) (trodAll_cons_mk (Below.trod laidOut (by kernel_rfl) (of_decide_eq_true (by kernel_rfl)) k2 bel lt2) (trodAll_cons_mk (Below.trod laidOut (by kernel_rfl) (of_decide_eq_true (by kernel_rfl)) k3 bel lt3) trodAll_mk0)))), rfl, bel.frame _, fun h => by cases h⟩
set_option maxRecDepth 100000 in
theorem lifted (os : Os) (started : os.Started) (H : Type) (enc : TypeId × Value → H) :
    ReturnsInHanded {} Try.checked os 8 .any (Rows.brachaCostsSpec.pre6 enc Try.prog Try.f8 Rows.brachaCostsRow.domain false) (Rows.brachaCostsSpec.post enc Try.prog Try.f8 false true false false) := by
  refine returnsInHanded_of_change (C := Try.checked) own started (by kernel_rfl) Try.func8
    (ChangeSpec.witness6 (enc := enc) (C := Try.checked) false ⟨#[], #[.int .i64 0, .int .i64 0, .slice none 0 0, .slice none 0 0], []⟩ 8 (by kernel_rfl) (by kernel_rfl) (by kernel_rfl) (by kernel_rfl)) ?_
  intro W base args ds gs before hval hW _ _
  exact contract H enc W base args ds gs before hval hW
theorem said : Rows.BrachaCostsSaid :=
  OpenClaim.holds_of_wide 8 Try.f8 rfl rfl rfl rfl rfl rfl rfl ⟨rfl, rfl, rfl, rfl, rfl⟩ rfl rfl rfl rfl rfl (by kernel_rfl) Try.func8 (by kernel_rfl)
    (of_decide_eq_true (by kernel_rfl)) (by unfold Func.isWrapper; first | (rw [if_pos (by decide +kernel)]; kernel_rfl) | (rw [if_neg (by decide +kernel)]; exact ⟨rfl, rfl⟩))
    (fun os started H enc _ => lifted os started H enc)
#print axioms said
end Go.Proofs.Ytplijfgjdlghbaa.brachaCosts
