/-
  For all pairs of states, Differ returns the specified prefixes in the specified order.
-/
import Derived.Test.YtajohibeoicepaaDoorSyTwo
import Derived.Test.YtajohibeoicepaaDoorSyRDif
namespace Go.Proofs.YtajohibeoicepaaDoor.synctreeDiffers
open Go.ChangeShapes Go.WideShapes Go.ChangeAt Go.RowKit Go.Pl
set_option maxRecDepth 100000 in
set_option maxHeartbeats 2000000 in
theorem walk (w : World) (hK : Kst w) {A B : Option Addr} {n c m d : Nat} {l r : List Sy.Cm} (hs : RdE lCm w (fun _ => True) A n c l) (hz : ∀ x ∈ l, Sy.csz x ≤ 30000000) (hr : RdE lCm w (fun _ => True) B m d r) (hzr : ∀ x ∈ r, Sy.csz x ≤ 30000000) :
    Calls Tryd.prog 7 #[.slice A n c, .slice B m d] w fun e w' => e = .returned (.bool true) ∧ Below w.heap.size w w' := by
  have upS : Hid (∀ w', Below w.heap.size w w' → RdE lCm w' (fun i => i < w'.heap.size) A n c l) := fun w' h => (hs.fr (Fr.of_below (F := fun _ => False) h) (fun _ _ h => h)).mono (fun i hi _ => hi)
  have upR : Hid (∀ w', Below w.heap.size w w' → RdE lCm w' (fun i => i < w'.heap.size) B m d r) := fun w' h => (hr.fr (Fr.of_below (F := fun _ => False) h) (fun _ _ h => h)).mono (fun i hi _ => hi)
  have upK : Hid (∀ w', Below w.heap.size w w' → Kst w') := fun w' h => hK.below h hK.pos
  have hzd := Lib.hid hz
  have hzrd := Lib.hid hzr
  have hnl := Lib.hid hs.len
  have hml := Lib.hid hr.len
  clear hs hr hK hz hzr
  go_enter Tryd.func7, Tryd.ntmps7
  go_wp2_with fail
  refine (awake_any w (upK.out w (Below.refl _ _))).mono ?_
  rintro e w1 ⟨rfl, hb1⟩
  have hb1d := Lib.hid hb1
  clear hb1
  go_wp2_with fail
  by_cases hS : Sy.State l
  · refine (state_any l w1 ((upS.out _ hb1d.out).mono (fun _ _ _ => trivial)) hzd.out true ⟨fun _ => hS, fun _ => rfl⟩).mono ?_
    rintro e w2 ⟨rfl, hb2⟩
    have hb2d : Hid (Below w.heap.size w w2) := hb1d.out.trans (hb2.mono hb1d.out.size)
    have hn : Hid (n ≤ 16) := by have := hS.1; have := hnl.out; show _ ≤ _; omega
    have hzl : Hid (∀ x ∈ l, Sy.csz x ≤ 1000) := hS.csz
    clear hb2 hS
    go_wp2_with fail
    by_cases hT : Sy.State r
    · refine (state_any r w2 ((upR.out _ hb2d.out).mono (fun _ _ _ => trivial)) hzrd.out true ⟨fun _ => hT, fun _ => rfl⟩).mono ?_
      rintro e w3 ⟨rfl, hb3⟩
      have hb3d : Hid (Below w.heap.size w w3) := hb2d.out.trans (hb3.mono hb2d.out.size)
      have hm : Hid (m ≤ 16) := by have := hT.1; have := hml.out; show _ ≤ _; omega
      have hzr : Hid (∀ x ∈ r, Sy.csz x ≤ 1000) := hT.csz
      clear hb3 hT
      go_wp2_with fail
      refine (diffs_any w3 (upK.out _ hb3d.out) (upS.out _ hb3d.out) (upR.out _ hb3d.out) hn.out hm.out hzl.out hzr.out).mono ?_
      rintro e w4 ⟨A4, n4, c4, rfl, hr4, hb4⟩
      have hb4d : Hid (Below w.heap.size w w4) := hb3d.out.trans (hb4.mono hb3d.out.size)
      have hr4d := Lib.hid hr4
      clear hr4 hb4
      go_wp2_with fail
      refine (rdiffs_any w4 (upS.out _ hb4d.out) (upR.out _ hb4d.out) hn.out hm.out hzl.out hzr.out).mono ?_
      rintro e w5 ⟨A5, n5, c5, rfl, hr5, hb5⟩
      have hb45 : Hid (Ab w4 w5) := hb5
      have hb5d : Hid (Below w.heap.size w w5) := hb4d.out.trans (hb5.mono hb4d.out.size)
      have hr4u : Hid (RdE lBytes w5 (fun i => w3.heap.size ≤ i) A4 n4 c4 (Sy.diff 2002 l r [])) := hr4d.out.fr (Fr.of_below (F := fun _ => False) hb45.out) (fun _ _ h => h)
      have hr5d := Lib.hid hr5
      have hle : Hid (n4 ≤ 32) := by
        have := hr4d.out.len
        have := Sy.diff_le 2002 l r []
        have := Sy.part_len [] l
        have := Sy.part_len [] r
        have := hnl.out
        have := hml.out
        have := hn.out
        have := hm.out
        show _ ≤ _
        omega
      have he : n5 = n4 := by have := hr4d.out.len; have := hr5.len; omega
      subst he
      obtain ⟨ps, hps⟩ : ∃ ps, Sy.diff 2002 l r [] = ps := ⟨_, rfl⟩
      rw [hps] at hr4u hr5d
      have hpl : Hid (n5 = ps.length) := hr5d.out.len
      clear hr5 hb5 hr4d hps
      go_wp2_with fail
      go_loopw [7] (fun t wr => ∃ k : Nat, k ≤ n5 ∧ t = .int .i64 k ∧ Below w5.heap.size w5 wr) (fun t _ => n5 - (intOf t).toNat)
      case atStart => exact ⟨0, Nat.zero_le _, rfl, Below.refl _ _⟩
      case round =>
        obtain ⟨k, hk, rfl, hb⟩ := hrel
        have hbr := Lib.hid hb
        clear hb
        by_cases hlt : k < n5
        · have hka : k < ps.length := by have := hpl.out; omega
          obtain ⟨x, hx⟩ : ∃ x, ps[k]? = some x := ⟨_, List.getElem?_eq_getElem hka⟩
          have hfr := Fr.of_below (F := fun _ => False) hbr.out
          obtain ⟨b1, o1, P1, p1, q1, rfl, hbl1, hw1, hg1⟩ := bs_at (hr4u.out.fr hfr (fun _ _ h => h)) hx
          obtain ⟨b2, o2, P2, p2, q2, rfl, hbl2, hw2, hg2⟩ := bs_at (hr5d.out.fr hfr (fun _ _ h => h)) hx
          have hw1d := Lib.hid hw1
          have hw2d := Lib.hid hw2
          have hg1d := Lib.hid (And.intro hg1 hbl1)
          have hg2d := Lib.hid (And.intro hg2 hbl2)
          have hle' : k < 32 := by have := hle.out; omega
          clear hx hw1 hw2 hg1 hg2 hbl1 hbl2 hfr hka
          go_wp2_with fail
          refine wp_region_late Ab Ab.refl Ab.trans [] (.last [0, 1, 5, 6] [2, 3, 4, 7, 8, 9, 10]) (by kernel_rfl) (by kernel_rfl) (fun _ _ _ _ _ h => h) ?_
          simp only [wpSchV, ordPick, Option.toList_some, List.cons_append, List.nil_append, List.getElem?_cons_succ, List.getElem?_cons_zero]
          have hbd2 : Hid (Ab wr wr.drew) := ab_drew wr
          have hb08 : Hid (Below w5.heap.size w5 wr.drew) := hbr.out.trans (hbd2.out.mono hbr.out.size)
          obtain ⟨w7, hw7⟩ : ∃ w7, wr.drew = w7 := ⟨_, rfl⟩
          rw [hw7] at hbd2 hb08 ⊢
          clear hw7
          have g1 : ∀ w', Ab w7 w' → w'.cell? ⟨b1, o1 + k, none⟩ = some (.slice P1 p1 q1) := fun w' h => (Below.cell (Ab.trans _ _ _ hbd2.out h) (p := ⟨b1, o1 + k, none⟩) hg1d.out.2).trans hg1d.out.1
          have g2 : ∀ w', Ab w7 w' → w'.cell? ⟨b2, o2 + k, none⟩ = some (.slice P2 p2 q2) := fun w' h => (Below.cell (Ab.trans _ _ _ hbd2.out h) (p := ⟨b2, o2 + k, none⟩) hg2d.out.2).trans hg2d.out.1
          iterate 4 (go_big_quiet_step (exact fun _ => rfl))
          refine wpQuiet_nil ?_
          iterate 1 (go_big_quiet_step (exact fun _ => rfl))
          refine wpq_load_one rfl 23 (.tmp 37) rfl ⟨b1, o1 + k, none⟩ rfl _ g1 _ Tryd.underlying23 rfl ?_
          simp only [Act.put, List.setIfInBounds_toArray, List.set_cons_succ, List.set_cons_zero]
          refine wpq_string rfl 23 9 5 (.tmp 38) rfl Tryd.underlying23 Tryd.underlying5 Tryd.underlying9 P1 p1 q1 rfl x (fun w' h => (hw1d.out.ab (Ab.trans _ _ _ hbd2.out h)).bytes (fun i hi _ => hi)) ?_
          simp only [Act.put, List.setIfInBounds_toArray, List.set_cons_succ, List.set_cons_zero]
          iterate 1 (go_big_quiet_step (exact fun _ => rfl))
          refine wpq_load_one rfl 23 (.tmp 42) rfl ⟨b2, o2 + k, none⟩ rfl _ g2 _ Tryd.underlying23 rfl ?_
          simp only [Act.put, List.setIfInBounds_toArray, List.set_cons_succ, List.set_cons_zero]
          refine wpq_string rfl 23 9 5 (.tmp 43) rfl Tryd.underlying23 Tryd.underlying5 Tryd.underlying9 P2 p2 q2 rfl x (fun w' h => (hw2d.out.ab (Ab.trans _ _ _ hbd2.out h)).bytes (fun i hi _ => hi)) ?_
          simp only [Act.put, List.setIfInBounds_toArray, List.set_cons_succ, List.set_cons_zero]
          iterate 1 (go_big_quiet_step (exact fun _ => rfl))
          refine wpQuiet_nil ?_
          clear g1 g2
          go_wp2_with fail
          go_roundw
          case rel => exact ⟨k + 1, by omega, by go_num, hb08.out⟩
          case measure => simp [intOf]; omega
        · have hbw : Hid (Below w.heap.size w wr) := hb5d.out.trans (hbr.out.mono hb5d.out.size)
          have hkn := Lib.hid (show k = n5 by omega)
          go_wp2_with fail
          go_returns
          exact ⟨rfl, hbw.out⟩
    · refine (state_any r w2 ((upR.out _ hb2d.out).mono (fun _ _ _ => trivial)) hzrd.out false ⟨fun h => (by cases h), fun h => (hT h).elim⟩).mono ?_
      rintro e w3 ⟨rfl, hb3⟩
      have hb3d : Hid (Below w.heap.size w w3) := hb2d.out.trans (hb3.mono hb2d.out.size)
      clear hb3
      go_wp2_with fail
      go_returns
      exact ⟨rfl, hb3d.out⟩
  · refine (state_any l w1 ((upS.out _ hb1d.out).mono (fun _ _ _ => trivial)) hzd.out false ⟨fun h => (by cases h), fun h => (hS h).elim⟩).mono ?_
    rintro e w2 ⟨rfl, hb2⟩
    have hb2d : Hid (Below w.heap.size w w2) := hb1d.out.trans (hb2.mono hb1d.out.size)
    clear hb2
    go_wp2_with fail
    go_returns
    exact ⟨rfl, hb2d.out⟩
theorem table {W : World} (h : laidMetH Tryd.prog Rows.synctreeDiffersUptoRow.laid W) : Lib.TabIs Tryd.prog W "plexus/sha256.constants" .u32 (Sha.K.map fun (n : Nat) => (n : Int)) :=
  Lib.tabIs_of_head (rest := []) gTab gTabType Tryd.underlying90 Tryd.underlying75 cellsWord cellsTab h
theorem contract (H : Type) (enc : TypeId × Value → H) (W : World) (base : Nat) (args : Array Value) (ds gs : List (DataW H)) (before : List MemPlace)
    (hval : ∀ (j : Nat) t v, Tryd.f7.params[j]? = some t → args[j]? = some v → Value.okWide Tryd.prog W .any base t v)
    (hW : DataW.Whole enc Tryd.prog Tryd.f7.params.toList Rows.synctreeDiffersSpec.vars false W args.toList ds gs before) (hbk : Rows.uptoSmall H (ds ++ gs) = true) (hL : laidMetH Tryd.prog Rows.synctreeDiffersUptoRow.laid W) :
    Calls Tryd.prog 7 args W fun e W' => ∃ v, e = .returned v ∧ Rows.synctreeDiffersSpec.post enc Tryd.prog Tryd.f7 false true false false W args v W' := by
  have hW' := hW
  obtain ⟨p, q, hA0, hV, rfl, hfz, hnd⟩ := hW
  have hA : DataW.TrodAll enc Tryd.prog W 0 (fun _ => true) true Tryd.f7.params.toList args.toList ds p := hA0
  rw [Tryd.params7] at hA hval
  obtain ⟨v0, vs0, d0, ds0, p0, q0, hargs, rfl, rfl, h0, r0⟩ := trodAll_cons hA
  obtain ⟨v1, vs1, d1, ds1, p1, q1, rfl, rfl, rfl, h1, r1⟩ := trodAll_cons r0
  obtain ⟨rfl, rfl, rfl⟩ := trodAll_nil r1
  obtain rfl : args = #[v0, v1] := by cases args; simp_all
  obtain ⟨rfl, rfl⟩ := trodVars_none hV
  have hbk1 := of_decide_eq_true hbk
  simp only [List.append_nil, Rows.uptoBulkAll] at hbk1
  obtain ⟨a0, len0, cap0, rfl⟩ := okWide_slice Tryd.underlying22 (hval 0 22 v0 rfl rfl)
  obtain ⟨a1, len1, cap1, rfl⟩ := okWide_slice Tryd.underlying22 (hval 1 22 v1 rfl rfl)
  have k0 := h0
  have lt0 : ∀ x ∈ p0, x.block < W.heap.size := by obtain ⟨m, hm⟩ := k0; exact DataW.trod_lt m _ _ _ hm
  obtain ⟨l0, hr0, hz0⟩ := cmds_in h0 (by omega)
  have k1 := h1
  have lt1 : ∀ x ∈ p1, x.block < W.heap.size := by obtain ⟨m, hm⟩ := k1; exact DataW.trod_lt m _ _ _ hm
  obtain ⟨l1, hr1, hz1⟩ := cmds_in h1 (by omega)
  clear hA0
  refine (walk W (kst_of_tab (table hL)) hr0 hz0 hr1 hz1).mono fun e W' ⟨he, bel⟩ => ?_
  subst he
  exact ⟨_, rfl, _, _, _, [], _, [], hW', trodAll_mk1 (shut_bool Tryd.underlying4 _), (trodAll_cons_mk (Below.trod laidOut (by kernel_rfl) (of_decide_eq_true (by kernel_rfl)) k0 bel lt0) (trodAll_cons_mk (Below.trod laidOut (by kernel_rfl) (of_decide_eq_true (by kernel_rfl)) k1 bel lt1) trodAll_mk0)), rfl, bel.frame _, fun h => by cases h⟩
theorem laid_met (os : Os) : laidMet Tryd.prog Rows.synctreeDiffersUptoRow.laid ((laidWorld os).forCall (fun _ _ => 0) ⟨#[], #[.slice none 0 0, .slice none 0 0], []⟩).memory :=
  laidMet_of_run' 8 (by kernel_rfl) (by kernel_rfl)
theorem reads (os : Os) {H : Type} (enc : TypeId × Value → H) : ∃ places, DataW.whole enc Tryd.prog ((laidWorld os).forCall (fun _ _ => 0) ⟨#[], #[.slice none 0 0, .slice none 0 0], []⟩).memory Tryd.f7.params.toList Rows.synctreeDiffersSpec.vars false #[Value.slice none 0 0, .slice none 0 0].toList 8 = some ([.nil, .nil], [], places) :=
  ⟨[], by kernel_rfl⟩
set_option maxRecDepth 100000 in
theorem lifted (os : Os) (started : os.Started) (H : Type) (enc : TypeId × Value → H) (F : Stop.Interp) :
    ReturnsInHanded {} Tryd.checked os 7 .any ((Rows.OpenSpec.upto Rows.synctreeDiffersSpec).preRow enc Tryd.prog Tryd.f7 Rows.synctreeDiffersUptoRow.domain false Rows.synctreeDiffersUptoRow.laid) (((Rows.OpenSpec.upto Rows.synctreeDiffersSpec).at F).post enc Tryd.prog Tryd.f7 false true false false) := by
  obtain ⟨places, hx⟩ := reads os enc
  refine returnsInHanded_of_row (C := Tryd.checked) (s := (Rows.OpenSpec.upto Rows.synctreeDiffersSpec)) own started (by kernel_rfl) Tryd.func7
    (witness_row_at (enc := enc) (C := Tryd.checked) false (laidWorld os) #[.slice none 0 0, .slice none 0 0] rfl (by kernel_rfl) (by kernel_rfl) (by kernel_rfl)
      (OpenSpec.preRow_of_cond 8 hx (by kernel_rfl) (fun k hk => by cases hk; kernel_rfl) (by kernel_rfl) (laid_met os))) ?_
  intro W base args ds gs before hval hW _ hcond _ hL _ _
  exact contract H enc W base args ds gs before hval hW (hcond _ rfl) hL
theorem said : Rows.SynctreeDiffersUptoSaid :=
  OpenClaim.holds_of_cond 7 Tryd.f7 rfl rfl rfl rfl rfl rfl rfl ⟨rfl, rfl, rfl, rfl, rfl⟩ rfl rfl rfl rfl rfl (by kernel_rfl) Tryd.func7 (by kernel_rfl)
    (of_decide_eq_true (by kernel_rfl)) (by unfold Func.isWrapper; first | (rw [if_pos (by decide +kernel)]; kernel_rfl) | (rw [if_neg (by decide +kernel)]; exact ⟨rfl, rfl⟩))
    (fun os started H enc _ F => by rw [OpenClaim.pre_eq_preRow]; exact lifted os started H enc F)
theorem plain (f : FuncId) (fn : Func) (hf : Tryd.pinned.checked.prog.funcNamed "plexus/plexuslaw45.SynctreeDiffers" = some f) (hfn : Tryd.pinned.checked.prog.funcs[f]? = some fn) :
    false = Tryd.pinned.checked.prog.looks [] ∧ ∀ (j : Nat) t, fn.params[j]? = some t → Tryd.pinned.checked.prog.wantsStandIn t = false := by
  obtain rfl : f = 7 := Option.some.inj ((show Tryd.prog.funcNamed "plexus/plexuslaw45.SynctreeDiffers" = some 7 by kernel_rfl).symm.trans hf) |>.symm
  obtain rfl : fn = Tryd.f7 := (Option.some.inj (Tryd.func7.symm.trans hfn)).symm
  refine ⟨by kernel_rfl, fun j t ht => ?_⟩
  rw [Tryd.params7] at ht
  have hm : t = 22 ∨ t = 22 := by simpa using Array.mem_of_getElem? ht
  rcases hm with rfl | rfl
  · exact (show Tryd.prog.wantsStandIn 22 = false by kernel_rfl)
  · exact (show Tryd.prog.wantsStandIn 22 = false by kernel_rfl)
/-- The card. -/
theorem card : Rows.SynctreeDiffersUptoCardSaid :=
  Claim7.holds_tied_plain_at .later [] _ _ _ _ said (fun _ h => by cases h) (by kernel_rfl) (fun _ h => by cases h) synctreeDiffersUpto_row_tie rfl ⟨rfl, rfl⟩ (by kernel_rfl) rfl plain (by kernel_rfl)
#print axioms card
end Go.Proofs.YtajohibeoicepaaDoor.synctreeDiffers
