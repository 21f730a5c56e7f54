/-
  For all states and prefixes, Under, Digest and Children return the specified part and digests.
-/
import Derived.Test.YtajohibeoicepaaDoorSyArg
import Derived.Test.YtajohibeoicepaaDoorSyAwk
import Derived.Test.YtajohibeoicepaaDoorSySta
import Derived.Test.YtajohibeoicepaaDoorSyRKid
namespace Go.Proofs.YtajohibeoicepaaDoor.synctreeParts
open Go.ChangeShapes Go.WideShapes Go.ChangeAt Go.RowKit Go.Pl
set_option maxRecDepth 100000 in
set_option maxHeartbeats 2000000 in
theorem walk (w : World) (hK : Kst w) {A P : Option Addr} {n c pn pc : Nat} {l : List Sy.Cm} {ps : List UInt8} (hs : RdE lCm w (fun _ => True) A n c l) (hz : ∀ x ∈ l, Sy.csz x ≤ 30000000) (hp : Rd w (fun _ => True) P pn pc ps) (hpn : pn ≤ 1048576) :
    Calls Tryd.prog 3 #[.slice A n c, .slice P pn pc] w fun e w' => e = .returned (.bool true) ∧ Below w.heap.size w w' := by
  have upS : Hid (∀ w', Below w.heap.size w w' → RdE lCm w' (fun i => i < w'.heap.size) A n c l) := fun w' h => (hs.fr (Fr.of_below (F := fun _ => False) h) (fun _ _ h => h)).mono (fun i hi _ => hi)
  have upP : Hid (∀ w', Below w.heap.size w w' → Rd w' (fun i => i < w'.heap.size) P pn pc ps) := fun w' h => (hp.fr (Fr.of_below (F := fun _ => False) h) (fun _ _ h => h)).mono (fun i hi _ => hi)
  have upK : Hid (∀ w', Below w.heap.size w w' → Kst w') := fun w' h => hK.below h hK.pos
  have hzd := Lib.hid hz
  have hnl := Lib.hid hs.len
  have hpnd := Lib.hid hpn
  clear hs hp hK hz hpn
  go_enter Tryd.func3, Tryd.ntmps3
  go_wp2_with fail
  refine (awake_any w (upK.out w (Below.refl _ _))).mono ?_
  rintro e w1 ⟨rfl, hb1⟩
  have hb1d := Lib.hid hb1
  clear hb1
  go_wp2_with fail
  by_cases hS : Sy.State l
  · refine (state_any l w1 ((upS.out _ hb1d.out).mono (fun _ _ _ => trivial)) hzd.out true ⟨fun _ => hS, fun _ => rfl⟩).mono ?_
    rintro e w2 ⟨rfl, hb2⟩
    have hb2d : Hid (Below w.heap.size w w2) := hb1d.out.trans (hb2.mono hb1d.out.size)
    have hn : Hid (n ≤ 16) := by have := hS.1; have := hnl.out; show _ ≤ _; omega
    clear hb2 hS
    by_cases h40 : pn ≤ 40
    · have h40I : ¬ (40 : Int) < (pn : Int) := by omega
      have h40d : decide ((40 : Int) < (pn : Int)) = false := decide_eq_false h40I
      go_wp2_with fail
      refine (part_any w2 (S := fun i => i < w2.heap.size) (fun i h => h) (upS.out _ hb2d.out) (by have := hn.out; omega) hzd.out (upP.out _ hb2d.out)).mono ?_
      rintro e w3 ⟨A3, n3, c3, rfl, hr3, hb3⟩
      have hb3d : Hid (Below w.heap.size w w3) := hb2d.out.trans (hb3.mono hb2d.out.size)
      have hr3d := Lib.hid hr3
      clear hr3 hb3
      go_wp2_with fail
      refine (rpart_any w3 (S := fun i => i < w3.heap.size) (fun i h => h) (upS.out _ hb3d.out) (by have := hn.out; omega) hzd.out (upP.out _ hb3d.out)).mono ?_
      rintro e w4 ⟨A4, n4, c4, rfl, hr4, hb4⟩
      have hb34 : Hid (Ab w3 w4) := hb4
      have hb4d : Hid (Below w.heap.size w w4) := hb3d.out.trans (hb4.mono hb3d.out.size)
      have hr4d := Lib.hid hr4
      have hn3 : Hid (n3 ≤ 1000000) := by have := hr3d.out.len; have := Sy.part_len ps l; have := hnl.out; have := hn.out; show _ ≤ _; omega
      have hzp : Hid (∀ x ∈ Sy.part ps l, Sy.csz x ≤ 30000000) := fun x hx => hzd.out x (Sy.part_sub hx)
      clear hr4 hb4
      go_wp2_with fail
      have hsl := slist_any (Sy.part ps l) (Sy.part ps l) w4 ((hr3d.out.fr (Fr.of_below (F := fun _ => False) hb34.out) (fun _ _ h => h)).mono (fun _ _ _ => trivial)) (hr4d.out.mono (fun _ _ _ => trivial)) hn3.out hzp.out hzp.out
      rw [show ((Sy.part ps l).map Sy.enc == (Sy.part ps l).map Sy.enc) = true by simp] at hsl
      refine hsl.mono ?_
      rintro e w5 ⟨rfl, hb5⟩
      have hb5d : Hid (Below w.heap.size w w5) := hb4d.out.trans (hb5.mono hb4d.out.size)
      clear hb5 hsl hr3d hr4d
      go_wp2_with fail
      refine (digest_any w5 (upK.out _ hb5d.out) (upS.out _ hb5d.out) hn.out hzd.out (upP.out _ hb5d.out) (by have := hpnd.out; omega)).mono ?_
      rintro e w6 ⟨P6, p6, q6, A6, n6, c6, rfl, hp6, ha6, hb6⟩
      have hb6d : Hid (Below w.heap.size w w6) := hb5d.out.trans (hb6.mono hb5d.out.size)
      have hp6d := Lib.hid hp6
      have ha6d := Lib.hid ha6
      clear hp6 ha6 hb6
      go_wp2_with fail
      refine (rdigest_any w6 (upS.out _ hb6d.out) hn.out hzd.out (upP.out _ hb6d.out) (by have := hpnd.out; omega)).mono ?_
      rintro e w7 ⟨P7, p7, q7, A7, n7, c7, rfl, hp7, ha7, hb7⟩
      have hb67 : Hid (Ab w6 w7) := hb7
      have hb7d : Hid (Below w.heap.size w w7) := hb6d.out.trans (hb7.mono hb6d.out.size)
      have hp7d := Lib.hid hp7
      have ha7d := Lib.hid ha7
      obtain ⟨Z, hZ⟩ : ∃ Z : Int, ((Sy.part ps l).length : Int) = Z := ⟨_, rfl⟩
      rw [hZ]
      clear hp7 ha7 hb7 hZ
      go_wp2_with fail
      have hds := rdsame_any w7 (z1 := Z) (z2 := Z) (hp6d.out.ab hb67.out) hp7d.out (ha6d.out.ab hb67.out) ha7d.out
      rw [show (ps == ps && (decide (Z = Z) && Sha.sha (Sy.body (Sy.part ps l)) == Sha.sha (Sy.body (Sy.part ps l)))) = true by simp] at hds
      refine hds.mono ?_
      rintro e w8 ⟨rfl, hb8⟩
      have hb8d : Hid (Below w.heap.size w w8) := hb7d.out.trans (hb8.mono hb7d.out.size)
      clear hb8 hds hp6d ha6d hp7d ha7d
      go_wp2_with fail
      refine (kids_any w8 (upK.out _ hb8d.out) (upS.out _ hb8d.out) hn.out hzd.out (upP.out _ hb8d.out) (by have := hpnd.out; omega)).mono ?_
      rintro e v1 ⟨B1, d1, rfl, hk1, hc1⟩
      have hv1 : Hid (Below w.heap.size w v1) := hb8d.out.trans (hc1.mono hb8d.out.size)
      have hk1d := Lib.hid hk1
      clear hk1 hc1
      go_wp2_with fail
      refine (rkids_any v1 (upS.out _ hv1.out) hn.out hzd.out (upP.out _ hv1.out) (by have := hpnd.out; omega)).mono ?_
      rintro e v2 ⟨B2, d2, rfl, hk2, hc2⟩
      have hv12 : Hid (Ab v1 v2) := hc2
      have hv2 : Hid (Below w.heap.size w v2) := hv1.out.trans (hc2.mono hv1.out.size)
      have hk2d := Lib.hid hk2
      clear hk2 hc2
      go_wp2_with fail
      refine (digests_any (Sy.kids l ps) v2 ((hk1d.out.fr (Fr.of_below (F := fun _ => False) hv12.out) (fun _ _ h => h)).mono (fun _ _ _ => trivial)) (hk2d.out.mono (fun _ _ _ => trivial)) (by decide)).mono ?_
      rintro e v3 ⟨rfl, hc3⟩
      have hv3 : Hid (Below w.heap.size w v3) := hv2.out.trans (hc3.mono hv2.out.size)
      clear hc3
      go_wp2_with fail
      go_returns
      exact ⟨rfl, hv3.out⟩
    · have h40I : (40 : Int) < (pn : Int) := by omega
      have h40d : decide ((40 : Int) < (pn : Int)) = true := decide_eq_true h40I
      go_wp2_with fail
      go_returns
      exact ⟨rfl, hb2d.out⟩
  · refine (state_any l w1 ((upS.out _ hb1d.out).mono (fun _ _ _ => trivial)) hzd.out false ⟨fun h => (by cases h), fun h => (hS h).elim⟩).mono ?_
    rintro e w2 ⟨rfl, hb2⟩
    have hb2d : Hid (Below w.heap.size w w2) := hb1d.out.trans (hb2.mono hb1d.out.size)
    clear hb2
    go_wp2_with fail
    go_returns
    exact ⟨rfl, hb2d.out⟩
theorem table {W : World} (h : laidMetH Tryd.prog Rows.synctreePartsUptoRow.laid W) : Lib.TabIs Tryd.prog W "plexus/sha256.constants" .u32 (Sha.K.map fun (n : Nat) => (n : Int)) :=
  Lib.tabIs_of_head (rest := []) gTab gTabType Tryd.underlying90 Tryd.underlying75 cellsWord cellsTab h
theorem contract (H : Type) (enc : TypeId × Value → H) (W : World) (base : Nat) (args : Array Value) (ds gs : List (DataW H)) (before : List MemPlace)
    (hval : ∀ (j : Nat) t v, Tryd.f3.params[j]? = some t → args[j]? = some v → Value.okWide Tryd.prog W .any base t v)
    (hW : DataW.Whole enc Tryd.prog Tryd.f3.params.toList Rows.synctreePartsSpec.vars false W args.toList ds gs before) (hbk : Rows.uptoSmall H (ds ++ gs) = true) (hL : laidMetH Tryd.prog Rows.synctreePartsUptoRow.laid W) :
    Calls Tryd.prog 3 args W fun e W' => ∃ v, e = .returned v ∧ Rows.synctreePartsSpec.post enc Tryd.prog Tryd.f3 false true false false W args v W' := by
  have hW' := hW
  obtain ⟨p, q, hA0, hV, rfl, hfz, hnd⟩ := hW
  have hA : DataW.TrodAll enc Tryd.prog W 0 (fun _ => true) true Tryd.f3.params.toList args.toList ds p := hA0
  rw [Tryd.params3] at hA hval
  obtain ⟨v0, vs0, d0, ds0, p0, q0, hargs, rfl, rfl, h0, r0⟩ := trodAll_cons hA
  obtain ⟨v1, vs1, d1, ds1, p1, q1, rfl, rfl, rfl, h1, r1⟩ := trodAll_cons r0
  obtain ⟨rfl, rfl, rfl⟩ := trodAll_nil r1
  obtain rfl : args = #[v0, v1] := by cases args; simp_all
  obtain ⟨rfl, rfl⟩ := trodVars_none hV
  have hbk1 := of_decide_eq_true hbk
  simp only [List.append_nil, Rows.uptoBulkAll] at hbk1
  obtain ⟨a0, len0, cap0, rfl⟩ := okWide_slice Tryd.underlying22 (hval 0 22 v0 rfl rfl)
  obtain ⟨a1, len1, cap1, rfl⟩ := okWide_slice Tryd.underlying23 (hval 1 23 v1 rfl rfl)
  have k0 := h0
  have lt0 : ∀ x ∈ p0, x.block < W.heap.size := by obtain ⟨m, hm⟩ := k0; exact DataW.trod_lt m _ _ _ hm
  obtain ⟨l0, hr0, hz0⟩ := cmds_in h0 (by omega)
  have k1 := h1
  have lt1 : ∀ x ∈ p1, x.block < W.heap.size := by obtain ⟨m, hm⟩ := k1; exact DataW.trod_lt m _ _ _ hm
  obtain ⟨l1, hr1, hn1⟩ := bts_in h1 (by omega)
  clear hA0
  refine (walk W (kst_of_tab (table hL)) hr0 hz0 hr1 hn1).mono fun e W' ⟨he, bel⟩ => ?_
  subst he
  exact ⟨_, rfl, _, _, _, [], _, [], hW', trodAll_mk1 (shut_bool Tryd.underlying4 _), (trodAll_cons_mk (Below.trod laidOut (by kernel_rfl) (of_decide_eq_true (by kernel_rfl)) k0 bel lt0) (trodAll_cons_mk (Below.trod laidOut (by kernel_rfl) (of_decide_eq_true (by kernel_rfl)) k1 bel lt1) trodAll_mk0)), rfl, bel.frame _, fun h => by cases h⟩
theorem laid_met (os : Os) : laidMet Tryd.prog Rows.synctreePartsUptoRow.laid ((laidWorld os).forCall (fun _ _ => 0) ⟨#[], #[.slice none 0 0, .slice none 0 0], []⟩).memory :=
  laidMet_of_run' 8 (by kernel_rfl) (by kernel_rfl)
theorem reads (os : Os) {H : Type} (enc : TypeId × Value → H) : ∃ places, DataW.whole enc Tryd.prog ((laidWorld os).forCall (fun _ _ => 0) ⟨#[], #[.slice none 0 0, .slice none 0 0], []⟩).memory Tryd.f3.params.toList Rows.synctreePartsSpec.vars false #[Value.slice none 0 0, .slice none 0 0].toList 8 = some ([.nil, .nil], [], places) :=
  ⟨[], by kernel_rfl⟩
set_option maxRecDepth 100000 in
theorem lifted (os : Os) (started : os.Started) (H : Type) (enc : TypeId × Value → H) (F : Stop.Interp) :
    ReturnsInHanded {} Tryd.checked os 3 .any ((Rows.OpenSpec.upto Rows.synctreePartsSpec).preRow enc Tryd.prog Tryd.f3 Rows.synctreePartsUptoRow.domain false Rows.synctreePartsUptoRow.laid) (((Rows.OpenSpec.upto Rows.synctreePartsSpec).at F).post enc Tryd.prog Tryd.f3 false true false false) := by
  obtain ⟨places, hx⟩ := reads os enc
  refine returnsInHanded_of_row (C := Tryd.checked) (s := (Rows.OpenSpec.upto Rows.synctreePartsSpec)) own started (by kernel_rfl) Tryd.func3
    (witness_row_at (enc := enc) (C := Tryd.checked) false (laidWorld os) #[.slice none 0 0, .slice none 0 0] rfl (by kernel_rfl) (by kernel_rfl) (by kernel_rfl)
      (OpenSpec.preRow_of_cond 8 hx (by kernel_rfl) (fun k hk => by cases hk; kernel_rfl) (by kernel_rfl) (laid_met os))) ?_
  intro W base args ds gs before hval hW _ hcond _ hL _ _
  exact contract H enc W base args ds gs before hval hW (hcond _ rfl) hL
theorem said : Rows.SynctreePartsUptoSaid :=
  OpenClaim.holds_of_cond 3 Tryd.f3 rfl rfl rfl rfl rfl rfl rfl ⟨rfl, rfl, rfl, rfl, rfl⟩ rfl rfl rfl rfl rfl (by kernel_rfl) Tryd.func3 (by kernel_rfl)
    (of_decide_eq_true (by kernel_rfl)) (by unfold Func.isWrapper; first | (rw [if_pos (by decide +kernel)]; kernel_rfl) | (rw [if_neg (by decide +kernel)]; exact ⟨rfl, rfl⟩))
    (fun os started H enc _ F => by rw [OpenClaim.pre_eq_preRow]; exact lifted os started H enc F)
theorem plain (f : FuncId) (fn : Func) (hf : Tryd.pinned.checked.prog.funcNamed "plexus/plexuslaw45.SynctreeParts" = some f) (hfn : Tryd.pinned.checked.prog.funcs[f]? = some fn) :
    false = Tryd.pinned.checked.prog.looks [] ∧ ∀ (j : Nat) t, fn.params[j]? = some t → Tryd.pinned.checked.prog.wantsStandIn t = false := by
  obtain rfl : f = 3 := Option.some.inj ((show Tryd.prog.funcNamed "plexus/plexuslaw45.SynctreeParts" = some 3 by kernel_rfl).symm.trans hf) |>.symm
  obtain rfl : fn = Tryd.f3 := (Option.some.inj (Tryd.func3.symm.trans hfn)).symm
  refine ⟨by kernel_rfl, fun j t ht => ?_⟩
  rw [Tryd.params3] at ht
  have hm : t = 22 ∨ t = 23 := by simpa using Array.mem_of_getElem? ht
  rcases hm with rfl | rfl
  · exact (show Tryd.prog.wantsStandIn 22 = false by kernel_rfl)
  · exact (show Tryd.prog.wantsStandIn 23 = false by kernel_rfl)
/-- The card. -/
theorem card : Rows.SynctreePartsUptoCardSaid :=
  Claim7.holds_tied_plain_at .later [] _ _ _ _ said (fun _ h => by cases h) (by kernel_rfl) (fun _ h => by cases h) synctreePartsUpto_row_tie rfl ⟨rfl, rfl⟩ (by kernel_rfl) rfl plain (by kernel_rfl)
#print axioms card
end Go.Proofs.YtajohibeoicepaaDoor.synctreeParts
