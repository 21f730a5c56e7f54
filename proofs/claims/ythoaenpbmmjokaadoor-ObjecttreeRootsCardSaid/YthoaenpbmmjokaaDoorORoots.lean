/-
  The root of a list of items is as the reference has it, or the list is refused.
-/
import Derived.Test.YthoaenpbmmjokaaDoorObArg
import Derived.Test.YthoaenpbmmjokaaDoorObAwk
import Derived.Test.YthoaenpbmmjokaaDoorObTree
namespace Go.Proofs.YthoaenpbmmjokaaDoor.objecttreeRoots
open Go.ChangeShapes Go.WideShapes Go.ChangeAt Go.RowKit Go.Pl
set_option maxRecDepth 100000 in
set_option maxHeartbeats 2000000 in
theorem walk {A : Option Addr} {n c : Nat} {xs : List Ob.It} (w : World) (hK : Kst w) (hx : RdI w (fun _ => True) A n c xs) :
    Calls Tryd.prog 7 #[.slice A n c] w fun e w' => e = .returned (.bool true) ∧ Below w.heap.size w w' := by
  have hnl := Lib.hid hx.len
  have hxd := Lib.hid hx
  clear hx
  go_enter Tryd.func7, Tryd.ntmps7
  go_wp2_with fail
  refine (awake_any _ hK).mono ?_
  rintro e w1 ⟨rfl, hb1⟩
  have hb1d := Lib.hid hb1
  clear hb1
  have up : ∀ w', Below w.heap.size w w' → RdI w' (fun _ => True) A n c xs := fun _ h => hxd.out.fr (Fr.of_below (F := fun _ => False) h) (fun _ _ h => h)
  have upd := Lib.hid up
  clear up
  go_wp2_with fail
  by_cases hs : Ob.Small xs
  · refine (small_any w1 (upd.out _ hb1d.out) true ⟨fun _ => hs, fun _ => rfl⟩).mono ?_
    rintro e w2 ⟨rfl, rfl⟩
    have hsm := Lib.hid hs
    have hks : Hid (∀ x ∈ xs, x.key.length ≤ 100000 ∧ x.content.length ≤ 1000000) := fun x h => by have := hsm.out.2 x h; exact ⟨by have := this.1; omega, by have := this.2.1; omega⟩
    have hn : n ≤ 20 := by have := hs.1; have := hnl.out; omega
    have hnd := Lib.hid hn
    clear hs hn
    go_wp2_with fail
    by_cases hm : Ob.IsMap xs
    · refine (root_map w1 (hK.below hb1d.out hK.pos) (upd.out _ hb1d.out) (by have := hnd.out; omega) hks.out hm).mono ?_
      rintro e w3 ⟨A3, n3, c3, rfl, hr3, hb3⟩
      have hr3d := Lib.hid hr3
      have hb3d : Hid (Below w.heap.size w w3) := hb1d.out.trans (hb3.mono hb1d.out.size)
      clear hr3 hb3
      go_wp2_with fail
      refine (refmap_any w3 (upd.out _ hb3d.out) (by have := hnd.out; omega) (fun x h => (hks.out x h).1) true ⟨fun _ => hm, fun _ => rfl⟩).mono ?_
      rintro e w4 ⟨rfl, hb4⟩
      have hb34 : Hid (Ab w3 w4) := hb4
      have hb4d : Hid (Below w.heap.size w w4) := hb3d.out.trans (hb4.mono hb3d.out.size)
      have hmd := Lib.hid hm
      clear hb4 hm
      go_wp2_with fail
      refine wp_region_late Ab Ab.refl Ab.trans [] (.one [0, 1, 2, 3, 5] [4] 6 (.last [] [7, 8, 9, 10])) (by kernel_rfl) (by kernel_rfl) (fun _ _ _ _ _ h => h) ?_
      simp only [wpSchV, ordPick, Option.toList_some, List.cons_append, List.nil_append, List.getElem?_cons_succ, List.getElem?_cons_zero]
      have hb5 : Hid (Below w.heap.size w w4.drew) := hb4d.out.trans ((ab_drew w4).mono hb4d.out.size)
      have hr5 : Hid (Rd w4.drew (fun _ => True) A3 n3 c3 (Ob.rootH xs)) := ((hr3d.out.ab hb34.out).ab (ab_drew w4)).mono (fun _ _ _ => trivial)
      clear hb34 hr3d hb4d
      generalize w4.drew = w5 at hb5 hr5 ⊢
      iterate 5 (go_big_quiet_step (exact fun _ => rfl))
      refine wpQuiet_nil ?_
      refine wpq_string rfl 23 9 5 (.tmp 28) rfl Tryd.underlying23 Tryd.underlying5 Tryd.underlying9 A3 n3 c3 rfl (Ob.rootH xs) (fun w' h => (hr5.out.ab h).bytes (fun i hi _ => hi)) ?_
      simp only [Act.put, List.setIfInBounds_toArray, List.set_cons_succ, List.set_cons_zero]
      refine wpQuiet_nil ?_
      go_wp2_with fail
      refine (refroot_any w5 (upd.out _ hb5.out) (ismap_asc hmd.out) (by have := hnd.out; omega) hks.out).mono ?_
      rintro e w6 ⟨A6, n6, c6, rfl, hr6, hb6⟩
      have hr6d := Lib.hid hr6
      have hb56 : Hid (Ab w5 w6) := hb6
      have hb6d : Hid (Below w.heap.size w w6) := hb5.out.trans (hb6.mono hb5.out.size)
      clear hr6 hb6
      go_wp2_with fail
      refine And.intro (.inr hb56.out) ?_
      simp only
      refine wpQuiet_nil ?_
      refine wpq_string rfl 23 9 5 (.tmp 31) rfl Tryd.underlying23 Tryd.underlying5 Tryd.underlying9 A6 n6 c6 rfl (Ob.rootH xs) (fun w' h => (hr6d.out.ab h).bytes (fun i hi _ => hi)) ?_
      simp only [Act.put, List.setIfInBounds_toArray, List.set_cons_succ, List.set_cons_zero]
      iterate 3 (go_big_quiet_step (exact fun _ => rfl))
      refine wpQuiet_nil ?_
      go_wp2_with fail
      go_ret
      exact ⟨rfl, hb6d.out⟩
    · refine (root_bad w1 (upd.out _ hb1d.out) (by have := hnd.out; omega) (fun x h => (hks.out x h).1) hm).mono ?_
      rintro e w3 ⟨rfl, hb3⟩
      have hb3d : Hid (Below w.heap.size w w3) := hb1d.out.trans (hb3.mono hb1d.out.size)
      clear hb3
      go_wp2_with fail
      refine (refmap_any w3 (upd.out _ hb3d.out) (by have := hnd.out; omega) (fun x h => (hks.out x h).1) false ⟨fun h => (by cases h), fun h => (hm h).elim⟩).mono ?_
      rintro e w4 ⟨rfl, hb4⟩
      have hb4d : Hid (Below w.heap.size w w4) := hb3d.out.trans (hb4.mono hb3d.out.size)
      clear hb4
      go_wp2_with fail
      go_ret
      exact ⟨rfl, hb4d.out⟩
  · refine (small_any w1 (upd.out _ hb1d.out) false ⟨fun h => (by cases h), fun h => (hs h).elim⟩).mono ?_
    rintro e w2 ⟨rfl, rfl⟩
    go_wp2_with fail
    go_ret
    exact ⟨rfl, hb1d.out⟩
theorem table {W : World} (h : laidMetH Tryd.prog Rows.objecttreeRootsRow.laid W) : Lib.TabIs Tryd.prog W "plexus/sha256.constants" .u32 (Sha.K.map fun (n : Nat) => (n : Int)) :=
  Lib.tabIs_of_head (rest := []) gTab gTabType Tryd.underlying69 Tryd.underlying64 cellsWord cellsTab h
theorem contract (H : Type) (enc : TypeId × Value → H) (W : World) (base : Nat) (args : Array Value) (ds gs : List (DataW H)) (before : List MemPlace)
    (hval : ∀ (j : Nat) t v, Tryd.f7.params[j]? = some t → args[j]? = some v → Value.okWide Tryd.prog W .any base t v)
    (hW : DataW.Whole enc Tryd.prog Tryd.f7.params.toList Rows.objecttreeRootsSpec.vars false W args.toList ds gs before) (hL : laidMetH Tryd.prog Rows.objecttreeRootsRow.laid W) :
    Calls Tryd.prog 7 args W fun e W' => ∃ v, e = .returned v ∧ Rows.objecttreeRootsSpec.post enc Tryd.prog Tryd.f7 false true false false W args v W' := by
  have hW' := hW
  obtain ⟨p, q, hA0, hV, rfl, hfz, hnd⟩ := hW
  have hA : DataW.TrodAll enc Tryd.prog W 0 (fun _ => true) true Tryd.f7.params.toList args.toList ds p := hA0
  rw [Tryd.params7] at hA hval
  obtain ⟨v0, vs0, d0, ds0, p0, q0, hargs, rfl, rfl, h0, r0⟩ := trodAll_cons hA
  obtain ⟨rfl, rfl, rfl⟩ := trodAll_nil r0
  obtain rfl : args = #[v0] := by cases args; simp_all
  obtain ⟨rfl, rfl⟩ := trodVars_none hV
  obtain ⟨a0, len0, cap0, rfl⟩ := okWide_slice Tryd.underlying22 (hval 0 22 v0 rfl rfl)
  have k0 := h0
  have lt0 : ∀ x ∈ p0, x.block < W.heap.size := by obtain ⟨m, hm⟩ := k0; exact DataW.trod_lt m _ _ _ hm
  obtain ⟨xs0, hri0⟩ := items_of_trod Tryd.underlying22 Tryd.underlying26 (by kernel_rfl) rfl rfl rfl rfl rfl rfl rfl rfl rfl rfl rfl rfl rfl Tryd.underlying9 Tryd.underlying4 (by kernel_rfl) (by kernel_rfl) (by kernel_rfl) (by kernel_rfl) Tryd.underlying23 Tryd.underlying5 (by kernel_rfl) Tryd.underlying24 Tryd.underlying23 (by kernel_rfl) h0
  clear hA0
  refine (walk W (kst_of_tab (table hL)) hri0).mono fun e W' ⟨he, bel⟩ => ?_
  subst he
  exact ⟨_, rfl, _, _, _, [], _, [], hW', trodAll_mk1 (shut_bool Tryd.underlying4 _), (trodAll_cons_mk (Below.trod laidOut (by kernel_rfl) (of_decide_eq_true (by kernel_rfl)) k0 bel lt0) trodAll_mk0), rfl, bel.frame _, fun h => by cases h⟩
theorem laid_met (os : Os) : laidMet Tryd.prog Rows.objecttreeRootsRow.laid ((laidWorld os).forCall (fun _ _ => 0) ⟨#[], #[.slice none 0 0], []⟩).memory :=
  laidMet_of_run' 8 (by kernel_rfl) (by kernel_rfl)
theorem reads (os : Os) {H : Type} (enc : TypeId × Value → H) : ∃ places, DataW.whole enc Tryd.prog ((laidWorld os).forCall (fun _ _ => 0) ⟨#[], #[.slice none 0 0], []⟩).memory Tryd.f7.params.toList Rows.objecttreeRootsSpec.vars false #[Value.slice none 0 0].toList 8 = some ([.nil], [], places) :=
  ⟨[], by kernel_rfl⟩
set_option maxRecDepth 100000 in
theorem lifted (os : Os) (started : os.Started) (H : Type) (enc : TypeId × Value → H) (F : Stop.Interp) :
    ReturnsInHanded {} Tryd.checked os 7 .any ((OpenSpec.ofChange Rows.objecttreeRootsSpec).preRow enc Tryd.prog Tryd.f7 Rows.objecttreeRootsRow.domain false Rows.objecttreeRootsRow.laid) (((OpenSpec.ofChange Rows.objecttreeRootsSpec).at F).post enc Tryd.prog Tryd.f7 false true false false) := by
  obtain ⟨places, hx⟩ := reads os enc
  refine returnsInHanded_of_row (C := Tryd.checked) (s := OpenSpec.ofChange Rows.objecttreeRootsSpec) own started (by kernel_rfl) Tryd.func7
    (witness_row_at (enc := enc) (C := Tryd.checked) false (laidWorld os) #[.slice none 0 0] rfl (by kernel_rfl) (by kernel_rfl) (by kernel_rfl)
      (OpenSpec.preRow_of_cond 8 hx (by kernel_rfl) (fun k hk => by cases hk) (by kernel_rfl) (laid_met os))) ?_
  intro W base args ds gs before hval hW _ _ _ hL _ _
  exact contract H enc W base args ds gs before hval hW hL
theorem said : Rows.ObjecttreeRootsSaid :=
  OpenClaim.holds_of_cond 7 Tryd.f7 rfl rfl rfl rfl rfl rfl rfl ⟨rfl, rfl, rfl, rfl, rfl⟩ rfl rfl rfl rfl rfl (by kernel_rfl) Tryd.func7 (by kernel_rfl)
    (of_decide_eq_true (by kernel_rfl)) (by unfold Func.isWrapper; first | (rw [if_pos (by decide +kernel)]; kernel_rfl) | (rw [if_neg (by decide +kernel)]; exact ⟨rfl, rfl⟩))
    (fun os started H enc _ F => by rw [OpenClaim.pre_eq_preRow]; exact lifted os started H enc F)
theorem plain (f : FuncId) (fn : Func) (hf : Tryd.pinned.checked.prog.funcNamed "plexus/plexuslaw40.ObjecttreeRoots" = some f) (hfn : Tryd.pinned.checked.prog.funcs[f]? = some fn) :
    false = Tryd.pinned.checked.prog.looks [] ∧ ∀ (j : Nat) t, fn.params[j]? = some t → Tryd.pinned.checked.prog.wantsStandIn t = false := by
  obtain rfl : f = 7 := Option.some.inj ((show Tryd.prog.funcNamed "plexus/plexuslaw40.ObjecttreeRoots" = some 7 by kernel_rfl).symm.trans hf) |>.symm
  obtain rfl : fn = Tryd.f7 := (Option.some.inj (Tryd.func7.symm.trans hfn)).symm
  refine ⟨by kernel_rfl, fun j t ht => ?_⟩
  rw [Tryd.params7] at ht
  have hm : t = 22 := by simpa using Array.mem_of_getElem? ht
  rcases hm with rfl
  · exact (show Tryd.prog.wantsStandIn 22 = false by kernel_rfl)
/-- The card. -/
theorem card : Rows.ObjecttreeRootsCardSaid :=
  Claim7.holds_tied_plain_at .later [] _ _ _ _ said (fun _ h => by cases h) (by kernel_rfl) (fun _ h => by cases h) objecttreeRoots_row_tie rfl ⟨rfl, rfl⟩ (by kernel_rfl) rfl plain (by kernel_rfl)
#print axioms card
end Go.Proofs.YthoaenpbmmjokaaDoor.objecttreeRoots
