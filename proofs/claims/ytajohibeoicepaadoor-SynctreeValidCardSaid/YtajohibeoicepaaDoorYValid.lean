/-
  Valid accepts exactly the digests with digits up to 15, a sum of 32 bytes and a count that is not negative: it answers as the reference, for every digest.
-/
import Derived.Test.YtajohibeoicepaaDoorSyArg
import Derived.Test.YtajohibeoicepaaDoorSyAwk
import Derived.Test.YtajohibeoicepaaDoorSyRVal
namespace Go.Proofs.YtajohibeoicepaaDoor.synctreeValid
open Go.ChangeShapes Go.WideShapes Go.ChangeAt Go.RowKit Go.Pl
set_option maxRecDepth 100000 in
theorem walk (w : World) (hK : Kst w) {P A : Option Addr} {pn pc n c : Nat} (d : Sy.Dg) (hp : Rd w (fun _ => True) P pn pc d.pre) (hs : Rd w (fun _ => True) A n c d.sum) :
    Calls Tryd.prog 5 #[.agg #[.slice P pn pc, .slice A n c, .int .i64 d.count]] w fun e w' => e = .returned (.bool true) ∧ Below w.heap.size w w' := by
  have hpd := Lib.hid hp
  have hsd := Lib.hid hs
  have hKd := Lib.hid hK
  clear hp hs hK
  go_enter Tryd.func5, Tryd.ntmps5
  go_wp2_with fail
  obtain ⟨w1, hw1⟩ : ∃ w1, w.alloc (.cells #[.slice P pn pc, .slice A n c, .int .i64 d.count] 30) = w1 := ⟨_, rfl⟩
  have hX : Hid (Blk w1 w.heap.size 30 #[.slice P pn pc, .slice A n c, .int .i64 d.count]) := by show Blk _ _ _ _; rw [← hw1]; exact Blk.new' rfl
  have hb1 : Hid (Below w.heap.size w w1) := by show Below _ _ _; rw [← hw1]; exact (Below.refl _ w).alloc (Nat.le_refl _) _
  rw [hw1]
  clear hw1
  refine wp_region_late Ab Ab.refl Ab.trans [] (.one [] [] 0 (.one [1] [2, 4] 3 (.one [] [] 5 (.last [6, 7, 8] [])))) (by kernel_rfl) (by kernel_rfl) (fun _ _ _ _ _ h => h) ?_
  simp only [wpSchV, ordPick, Option.toList_some, List.cons_append, List.nil_append, List.getElem?_cons_succ, List.getElem?_cons_zero]
  have hbd : Hid (Ab w1 w1.drew) := ab_drew w1
  obtain ⟨w2, hw2⟩ : ∃ w2, w1.drew = w2 := ⟨_, rfl⟩
  rw [hw2] at hbd ⊢
  clear hw2
  have hb2 : Hid (Below w.heap.size w w2) := hb1.out.trans (hbd.out.mono hb1.out.size)
  refine wpQuiet_nil (wpQuiet_nil ?_)
  go_wp2_with fail
  refine (awake_any w2 (hKd.out.below hb2.out hKd.out.pos)).mono ?_
  rintro e w3 ⟨rfl, hb3⟩
  have hb3d : Hid (Ab w2 w3) := hb3
  have hb03 : Hid (Below w.heap.size w w3) := hb2.out.trans (hb3.mono hb2.out.size)
  clear hb3
  go_wp2_with fail
  refine And.intro (.inr hb3d.out) ?_
  simp only
  iterate 1 (go_big_quiet_step (exact fun _ => rfl))
  refine wpQuiet_nil ?_
  have hX3 : ∀ w', Ab w3 w' → Blk w' w.heap.size 30 #[.slice P pn pc, .slice A n c, .int .i64 d.count] := fun w' h => ((hX.out.fr (Fr.of_below (F := fun _ => False) hbd.out) (fun h => h)).fr (Fr.of_below (F := fun _ => False) hb3d.out) (fun h => h)).fr (Fr.of_below (F := fun _ => False) h) (fun h => h)
  refine wpq_load_partw rfl 30 (.tmp 1) rfl w.heap.size 0 rfl 30 _ hX3 #[.slice P pn pc, .slice A n c, .int .i64 d.count] rfl _ Tryd.underlying30 rfl (by kernel_rfl) ?_
  simp only [Act.put, List.setIfInBounds_toArray, List.set_cons_succ, List.set_cons_zero]
  refine wpq_load_partw rfl 30 (.tmp 1) rfl w.heap.size 0 rfl 30 _ hX3 #[.slice P pn pc, .slice A n c, .int .i64 d.count] rfl _ Tryd.underlying30 rfl (by kernel_rfl) ?_
  simp only [Act.put, List.setIfInBounds_toArray, List.set_cons_succ, List.set_cons_zero]
  refine wpQuiet_nil ?_
  clear hX3
  have hf3 := Fr.of_below (F := fun _ => False) hb03.out
  go_wp2_with fail
  refine (valid_any d w3 (hpd.out.fr hf3 (fun _ _ h => h)) (hsd.out.fr hf3 (fun _ _ h => h))).mono ?_
  rintro e w4 ⟨rfl, hb4⟩
  have hb4d : Hid (Ab w3 w4) := hb4
  have hb04 : Hid (Below w.heap.size w w4) := hb03.out.trans (hb4.mono hb03.out.size)
  clear hb4 hf3
  obtain ⟨v, hv⟩ : ∃ v, Sy.valid d = v := ⟨_, rfl⟩
  have hvd := Lib.hid hv
  rw [hv]
  clear hv
  go_wp2_with fail
  refine And.intro (.inr hb4d.out) ?_
  simp only
  refine wpQuiet_nil (wpQuiet_nil ?_)
  have hf4 := Fr.of_below (F := fun _ => False) hb04.out
  go_wp2_with fail
  refine (rvalid_any d w4 (hpd.out.fr hf4 (fun _ _ h => h)) (hsd.out.fr hf4 (fun _ _ h => h))).mono ?_
  rintro e w5 ⟨rfl, hb5⟩
  have hb5d : Hid (Ab w4 w5) := hb5
  have hb05 : Hid (Below w.heap.size w w5) := hb04.out.trans (hb5.mono hb04.out.size)
  rw [hvd.out]
  clear hb5 hf4
  have hvv : (v == v) = true := by simp
  go_wp2_with fail
  refine And.intro (.inr hb5d.out) ?_
  simp only
  iterate 3 (go_big_quiet_step (exact fun _ => rfl))
  refine wpQuiet_nil (wpQuiet_nil ?_)
  go_wp2_with fail
  go_returns
  exact ⟨rfl, hb05.out⟩
theorem table {W : World} (h : laidMetH Tryd.prog Rows.synctreeValidRow.laid W) : Lib.TabIs Tryd.prog W "plexus/sha256.constants" .u32 (Sha.K.map fun (n : Nat) => (n : Int)) :=
  Lib.tabIs_of_head (rest := []) gTab gTabType Tryd.underlying90 Tryd.underlying75 cellsWord cellsTab h
theorem contract (H : Type) (enc : TypeId × Value → H) (W : World) (base : Nat) (args : Array Value) (ds gs : List (DataW H)) (before : List MemPlace)
    (hval : ∀ (j : Nat) t v, Tryd.f5.params[j]? = some t → args[j]? = some v → Value.okWide Tryd.prog W .any base t v)
    (hW : DataW.Whole enc Tryd.prog Tryd.f5.params.toList Rows.synctreeValidSpec.vars false W args.toList ds gs before) (hL : laidMetH Tryd.prog Rows.synctreeValidRow.laid W) :
    Calls Tryd.prog 5 args W fun e W' => ∃ v, e = .returned v ∧ Rows.synctreeValidSpec.post enc Tryd.prog Tryd.f5 false true false false W args v W' := by
  have hW' := hW
  obtain ⟨p, q, hA0, hV, rfl, hfz, hnd⟩ := hW
  have hA : DataW.TrodAll enc Tryd.prog W 0 (fun _ => true) true Tryd.f5.params.toList args.toList ds p := hA0
  rw [Tryd.params5] at hA hval
  obtain ⟨v0, vs0, d0, ds0, p0, q0, hargs, rfl, rfl, h0, r0⟩ := trodAll_cons hA
  obtain ⟨rfl, rfl, rfl⟩ := trodAll_nil r0
  obtain rfl : args = #[v0] := by cases args; simp_all
  obtain ⟨rfl, rfl⟩ := trodVars_none hV
  have k0 := h0
  have lt0 : ∀ x ∈ p0, x.block < W.heap.size := by obtain ⟨m, hm⟩ := k0; exact DataW.trod_lt m _ _ _ hm
  obtain ⟨cs0, rfl, hcs0⟩ := okWide_struct Tryd.underlying30 (hval 0 30 v0 rfl rfl)
  obtain ⟨x0, A0, n0, c0, B0, m0, e0, rfl, hP0, hQ0⟩ := digest_of_trod Tryd.underlying30 (by kernel_rfl) rfl rfl rfl rfl rfl rfl rfl rfl rfl rfl Tryd.underlying23 Tryd.underlying5 Tryd.underlying3 (by kernel_rfl) (by kernel_rfl) (by kernel_rfl) hcs0 h0
  clear hA0
  refine (walk W (kst_of_tab (table hL)) x0 hP0 hQ0).mono fun e W' ⟨he, bel⟩ => ?_
  subst he
  exact ⟨_, rfl, _, _, _, [], _, [], hW', trodAll_mk1 (shut_bool Tryd.underlying4 _), (trodAll_cons_mk (Below.trod laidOut (by kernel_rfl) (of_decide_eq_true (by kernel_rfl)) k0 bel lt0) trodAll_mk0), rfl, bel.frame _, fun h => by cases h⟩
theorem laid_met (os : Os) : laidMet Tryd.prog Rows.synctreeValidRow.laid ((laidWorld os).forCall (fun _ _ => 0) ⟨#[], #[.agg #[.slice none 0 0, .slice none 0 0, .int .i64 0]], []⟩).memory :=
  laidMet_of_run' 8 (by kernel_rfl) (by kernel_rfl)
theorem reads (os : Os) {H : Type} (enc : TypeId × Value → H) : ∃ places, DataW.whole enc Tryd.prog ((laidWorld os).forCall (fun _ _ => 0) ⟨#[], #[.agg #[.slice none 0 0, .slice none 0 0, .int .i64 0]], []⟩).memory Tryd.f5.params.toList Rows.synctreeValidSpec.vars false #[Value.agg #[.slice none 0 0, .slice none 0 0, .int .i64 0]].toList 8 = some ([.agg [.nil, .nil, .lit (.int .i64 0)]], [], places) :=
  ⟨[], by kernel_rfl⟩
set_option maxRecDepth 100000 in
theorem lifted (os : Os) (started : os.Started) (H : Type) (enc : TypeId × Value → H) (F : Stop.Interp) :
    ReturnsInHanded {} Tryd.checked os 5 .any ((OpenSpec.ofChange Rows.synctreeValidSpec).preRow enc Tryd.prog Tryd.f5 Rows.synctreeValidRow.domain false Rows.synctreeValidRow.laid) (((OpenSpec.ofChange Rows.synctreeValidSpec).at F).post enc Tryd.prog Tryd.f5 false true false false) := by
  obtain ⟨places, hx⟩ := reads os enc
  refine returnsInHanded_of_row (C := Tryd.checked) (s := OpenSpec.ofChange Rows.synctreeValidSpec) own started (by kernel_rfl) Tryd.func5
    (witness_row_at (enc := enc) (C := Tryd.checked) false (laidWorld os) #[.agg #[.slice none 0 0, .slice none 0 0, .int .i64 0]] rfl (by kernel_rfl) (by kernel_rfl) (by kernel_rfl)
      (OpenSpec.preRow_of_cond 8 hx (by kernel_rfl) (fun k hk => by cases hk) (by kernel_rfl) (laid_met os))) ?_
  intro W base args ds gs before hval hW _ _ _ hL _ _
  exact contract H enc W base args ds gs before hval hW hL
theorem said : Rows.SynctreeValidSaid :=
  OpenClaim.holds_of_cond 5 Tryd.f5 rfl rfl rfl rfl rfl rfl rfl ⟨rfl, rfl, rfl, rfl, rfl⟩ rfl rfl rfl rfl rfl (by kernel_rfl) Tryd.func5 (by kernel_rfl)
    (of_decide_eq_true (by kernel_rfl)) (by unfold Func.isWrapper; first | (rw [if_pos (by decide +kernel)]; kernel_rfl) | (rw [if_neg (by decide +kernel)]; exact ⟨rfl, rfl⟩))
    (fun os started H enc _ F => by rw [OpenClaim.pre_eq_preRow]; exact lifted os started H enc F)
theorem plain (f : FuncId) (fn : Func) (hf : Tryd.pinned.checked.prog.funcNamed "plexus/plexuslaw45.SynctreeValid" = some f) (hfn : Tryd.pinned.checked.prog.funcs[f]? = some fn) :
    false = Tryd.pinned.checked.prog.looks [] ∧ ∀ (j : Nat) t, fn.params[j]? = some t → Tryd.pinned.checked.prog.wantsStandIn t = false := by
  obtain rfl : f = 5 := Option.some.inj ((show Tryd.prog.funcNamed "plexus/plexuslaw45.SynctreeValid" = some 5 by kernel_rfl).symm.trans hf) |>.symm
  obtain rfl : fn = Tryd.f5 := (Option.some.inj (Tryd.func5.symm.trans hfn)).symm
  refine ⟨by kernel_rfl, fun j t ht => ?_⟩
  rw [Tryd.params5] at ht
  have hm : t = 30 := by simpa using Array.mem_of_getElem? ht
  rcases hm with rfl
  · exact (show Tryd.prog.wantsStandIn 30 = false by kernel_rfl)
/-- The card. -/
theorem card : Rows.SynctreeValidCardSaid :=
  Claim7.holds_tied_plain_at .later [] _ _ _ _ said (fun _ h => by cases h) (by kernel_rfl) (fun _ h => by cases h) synctreeValid_row_tie rfl ⟨rfl, rfl⟩ (by kernel_rfl) rfl plain (by kernel_rfl)
#print axioms card
end Go.Proofs.YtajohibeoicepaaDoor.synctreeValid
