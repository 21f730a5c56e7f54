/-
  Tag is HMAC-SHA-256, for every key and every message.
-/
import Derived.Test.YtlofgcglnpjceaaDoorHead
import Derived.Test.YtlofgcglnpjceaaDoorShort
import Derived.Test.YtlofgcglnpjceaaDoorArg
namespace Go.Proofs.YtlofgcglnpjceaaDoor.keyedTag
open Go.ChangeShapes Go.WideShapes Go.ChangeAt Go.RowKit Go.Pl
set_option maxRecDepth 100000 in
set_option maxHeartbeats 2000000 in
theorem walk {A1 A2 : Option Addr} {n1 c1 n2 c2 : Nat} {k m : List UInt8} (w : World) (hK : Kst w) (h1 : Rd w (fun _ => True) A1 n1 c1 k) (h2 : Rd w (fun _ => True) A2 n2 c2 m) :
    Calls Tryd.prog 3 #[.slice A1 n1 c1, .slice A2 n2 c2] w fun e w' => e = .returned (.bool true) ∧ Below w.heap.size w w' := by
  have hl1 := Lib.hid h1.len
  have hl2 := Lib.hid h2.len
  have hKp := hK.pos
  have hR : Hid (Rd w (fun i => i < w.heap.size) A1 n1 c1 k ∧ Rd w (fun i => i < w.heap.size) A2 n2 c2 m) := ⟨h1.mono (fun i hi _ => hi), h2.mono (fun i hi _ => hi)⟩
  clear h1 h2
  go_enter Tryd.func3, Tryd.ntmps3
  go_wp2_with fail
  refine (awake_any _ hK).mono ?_
  rintro e w1 ⟨rfl, hb1⟩
  have hb2 : Below w.heap.size w w1.drew := hb1.trans ((ab_drew w1).mono hb1.size)
  clear hb1
  go_wp2_with fail
  refine wp_region_plan Ab Ab.refl Ab.trans [([0, 1], 2), ([3, 4, 5, 6, 9, 10], 7), ([8], 11)] [12, 13, 14, 15] (by kernel_rfl) (by kernel_rfl) (fun _ _ _ _ _ h => h) ?_
  simp only [wpPlan, ordPick, Option.toList_some, List.cons_append, List.nil_append, List.getElem?_cons_succ, List.getElem?_cons_zero]
  generalize w1.drew = w2 at hb2 ⊢
  iterate 2 (go_big_quiet_step (exact fun _ => rfl))
  refine wpQuiet_nil ?_
  go_wp2_with fail
  refine (short_any _ _ _ _ _ _ _).mono ?_
  rintro e wq ⟨rfl, rfl⟩
  by_cases hs : n1 ≤ 2000 ∧ n2 ≤ 2000
  · rw [decide_eq_true hs]
    have hk : Hid (k.length ≤ 1000000) := by show _ ≤ _; have := hl1.out; omega
    have hm : Hid (m.length ≤ 1000000) := by show _ ≤ _; have := hl2.out; omega
    clear hs hl1 hl2
    go_wp2_with fail
    refine And.intro (Ab.refl _) ?_
    dsimp only
    iterate 6 (go_big_quiet_step (exact fun _ => rfl))
    refine wpQuiet_nil ?_
    go_wp2_with fail
    refine (tag_any _ (hK.below hb2 hKp) ((hR.out.1.ab hb2).mono (fun _ _ _ => trivial)) ((hR.out.2.ab hb2).mono (fun _ _ _ => trivial)) hk.out hm.out).mono ?_
    intro e w3 hd
    obtain ⟨A3, n3, c3, rfl, hr3, hb3'⟩ := hd.rd
    have hb3 := hb2.trans (hb3'.mono hb2.size)
    have hs3 : ∀ w', Ab w3 w' → Bytes w' w'.heap.size (.slice A3 n3 c3) (Keyed.tag k m) := fun w' h => (hr3.ab h).all
    clear hd hr3
    go_wp2_with fail
    refine And.intro hb3' ?_
    dsimp only
    refine wpq_string rfl 22 9 5 (.tmp 14) rfl rfl rfl rfl _ _ _ rfl _ hs3 ?_
    simp only [Act.put, List.setIfInBounds_toArray, List.set_cons_succ, List.set_cons_zero]
    refine wpQuiet_nil ?_
    clear hs3 hb3' hb2
    go_wp2_with fail
    refine (reftag_any _ ((hR.out.1.ab hb3).mono (fun _ _ _ => trivial)) ((hR.out.2.ab hb3).mono (fun _ _ _ => trivial)) hk.out hm.out).mono ?_
    intro e w4 hd
    obtain ⟨A4, n4, c4, rfl, hr4, hb4'⟩ := hd.rd
    have hb4 := hb3.trans (hb4'.mono hb3.size)
    have hs4 : ∀ w', Ab w4 w' → Bytes w' w'.heap.size (.slice A4 n4 c4) (Keyed.tag k m) := fun w' h => (hr4.ab h).all
    clear hd hr4 hb3
    go_wp2_with fail
    refine And.intro hb4' ?_
    dsimp only
    refine wpq_string rfl 22 9 5 (.tmp 18) rfl rfl rfl rfl _ _ _ rfl _ hs4 ?_
    simp only [Act.put, List.setIfInBounds_toArray, List.set_cons_succ, List.set_cons_zero]
    iterate 3 (go_big_quiet_step (exact fun _ => rfl))
    refine wpQuiet_nil ?_
    go_wp2_with fail
    go_ret
    exact ⟨rfl, hb4⟩
  · rw [decide_eq_false hs]
    go_wp2_with fail
    refine And.intro (Ab.refl _) ?_
    dsimp only
    iterate 6 (go_big_quiet_step (exact fun _ => rfl))
    refine wpQuiet_nil ?_
    go_wp2_with fail
    refine And.intro (Ab.refl _) ?_
    dsimp only
    iterate 1 (go_big_quiet_step (exact fun _ => rfl))
    refine wpQuiet_nil ?_
    go_wp2_with fail
    refine And.intro (Ab.refl _) ?_
    dsimp only
    iterate 4 (go_big_quiet_step (exact fun _ => rfl))
    refine wpQuiet_nil ?_
    go_wp2_with fail
    go_ret
    exact ⟨rfl, hb2⟩
theorem table {W : World} (h : laidMetH Tryd.prog Rows.keyedTagRow.laid W) : Lib.TabIs Tryd.prog W "plexus/sha256.constants" .u32 (Sha.K.map fun (n : Nat) => (n : Int)) :=
  Lib.tabIs_of_head (rest := []) gTab gTabType Tryd.underlying76 Tryd.underlying63 cellsWord cellsTab h
theorem contract (H : Type) (enc : TypeId × Value → H) (W : World) (base : Nat) (args : Array Value) (ds gs : List (DataW H)) (before : List MemPlace)
    (hval : ∀ (j : Nat) t v, Tryd.f3.params[j]? = some t → args[j]? = some v → Value.okWide Tryd.prog W .any base t v)
    (hW : DataW.Whole enc Tryd.prog Tryd.f3.params.toList Rows.keyedTagSpec.vars false W args.toList ds gs before) (hL : laidMetH Tryd.prog Rows.keyedTagRow.laid W) :
    Calls Tryd.prog 3 args W fun e W' => ∃ v, e = .returned v ∧ Rows.keyedTagSpec.post enc Tryd.prog Tryd.f3 false true false false W args v W' := by
  have hW' := hW
  obtain ⟨p, q, hA0, hV, rfl, hfz, hnd⟩ := hW
  have hA : DataW.TrodAll enc Tryd.prog W 0 (fun _ => true) true Tryd.f3.params.toList args.toList ds p := hA0
  rw [Tryd.params3] at hA hval
  obtain ⟨v0, vs0, d0, ds0, p0, q0, hargs, rfl, rfl, h0, r0⟩ := trodAll_cons hA
  obtain ⟨v1, vs1, d1, ds1, p1, q1, rfl, rfl, rfl, h1, r1⟩ := trodAll_cons r0
  obtain ⟨rfl, rfl, rfl⟩ := trodAll_nil r1
  obtain rfl : args = #[v0, v1] := by cases args; simp_all
  obtain ⟨rfl, rfl⟩ := trodVars_none hV
  obtain ⟨a0, len0, cap0, rfl⟩ := okWide_slice Tryd.underlying22 (hval 0 22 v0 rfl rfl)
  obtain ⟨a1, len1, cap1, rfl⟩ := okWide_slice Tryd.underlying22 (hval 1 22 v1 rfl rfl)
  have k0 := h0
  have lt0 : ∀ x ∈ p0, x.block < W.heap.size := by obtain ⟨m, hm⟩ := k0; exact DataW.trod_lt m _ _ _ hm
  obtain ⟨z0, w0⟩ := isRow_of_trod Tryd.underlying22 Tryd.underlying5 (by kernel_rfl) h0
  obtain ⟨bs0, hrd0⟩ := rd_of_row w0
  have k1 := h1
  have lt1 : ∀ x ∈ p1, x.block < W.heap.size := by obtain ⟨m, hm⟩ := k1; exact DataW.trod_lt m _ _ _ hm
  obtain ⟨z1, w1⟩ := isRow_of_trod Tryd.underlying22 Tryd.underlying5 (by kernel_rfl) h1
  obtain ⟨bs1, hrd1⟩ := rd_of_row w1
  clear hA0
  refine (walk W (kst_of_tab (table hL)) hrd0 hrd1).mono fun e W' ⟨he, bel⟩ => ?_
  subst he
  exact ⟨_, rfl, _, _, _, [], _, [], hW', trodAll_mk1 (shut_bool Tryd.underlying4 _), (trodAll_cons_mk (Below.trod laidOut (by kernel_rfl) (of_decide_eq_true (by kernel_rfl)) k0 bel lt0) (trodAll_cons_mk (Below.trod laidOut (by kernel_rfl) (of_decide_eq_true (by kernel_rfl)) k1 bel lt1) trodAll_mk0)), rfl, bel.frame _, fun h => by cases h⟩
theorem laid_met (os : Os) : laidMet Tryd.prog Rows.keyedTagRow.laid ((laidWorld os).forCall (fun _ _ => 0) ⟨#[], #[.slice none 0 0, .slice none 0 0], []⟩).memory :=
  laidMet_of_run' 8 (by kernel_rfl) (by kernel_rfl)
theorem reads (os : Os) {H : Type} (enc : TypeId × Value → H) : ∃ places, DataW.whole enc Tryd.prog ((laidWorld os).forCall (fun _ _ => 0) ⟨#[], #[.slice none 0 0, .slice none 0 0], []⟩).memory Tryd.f3.params.toList Rows.keyedTagSpec.vars false #[Value.slice none 0 0, .slice none 0 0].toList 8 = some ([.nil, .nil], [], places) :=
  ⟨[], by kernel_rfl⟩
set_option maxRecDepth 100000 in
theorem lifted (os : Os) (started : os.Started) (H : Type) (enc : TypeId × Value → H) (F : Stop.Interp) :
    ReturnsInHanded {} Tryd.checked os 3 .any ((OpenSpec.ofChange Rows.keyedTagSpec).preRow enc Tryd.prog Tryd.f3 Rows.keyedTagRow.domain false Rows.keyedTagRow.laid) (((OpenSpec.ofChange Rows.keyedTagSpec).at F).post enc Tryd.prog Tryd.f3 false true false false) := by
  obtain ⟨places, hx⟩ := reads os enc
  refine returnsInHanded_of_row (C := Tryd.checked) (s := OpenSpec.ofChange Rows.keyedTagSpec) own started (by kernel_rfl) Tryd.func3
    (witness_row_at (enc := enc) (C := Tryd.checked) false (laidWorld os) #[.slice none 0 0, .slice none 0 0] rfl (by kernel_rfl) (by kernel_rfl) (by kernel_rfl)
      (OpenSpec.preRow_of_cond 8 hx (by kernel_rfl) (fun k hk => by cases hk) (by kernel_rfl) (laid_met os))) ?_
  intro W base args ds gs before hval hW _ _ _ hL _ _
  exact contract H enc W base args ds gs before hval hW hL
theorem said : Rows.KeyedTagSaid :=
  OpenClaim.holds_of_cond 3 Tryd.f3 rfl rfl rfl rfl rfl rfl rfl ⟨rfl, rfl, rfl, rfl, rfl⟩ rfl rfl rfl rfl rfl (by kernel_rfl) Tryd.func3 (by kernel_rfl)
    (of_decide_eq_true (by kernel_rfl)) (by unfold Func.isWrapper; first | (rw [if_pos (by decide +kernel)]; kernel_rfl) | (rw [if_neg (by decide +kernel)]; exact ⟨rfl, rfl⟩))
    (fun os started H enc _ F => by rw [OpenClaim.pre_eq_preRow]; exact lifted os started H enc F)
theorem plain (f : FuncId) (fn : Func) (hf : Tryd.pinned.checked.prog.funcNamed "plexus/plexuslaw05.KeyedTag" = some f) (hfn : Tryd.pinned.checked.prog.funcs[f]? = some fn) :
    false = Tryd.pinned.checked.prog.looks [] ∧ ∀ (j : Nat) t, fn.params[j]? = some t → Tryd.pinned.checked.prog.wantsStandIn t = false := by
  obtain rfl : f = 3 := Option.some.inj ((show Tryd.prog.funcNamed "plexus/plexuslaw05.KeyedTag" = some 3 by kernel_rfl).symm.trans hf) |>.symm
  obtain rfl : fn = Tryd.f3 := (Option.some.inj (Tryd.func3.symm.trans hfn)).symm
  refine ⟨by kernel_rfl, fun j t ht => ?_⟩
  rw [Tryd.params3] at ht
  have hm : t = 22 ∨ t = 22 := by simpa using Array.mem_of_getElem? ht
  rcases hm with rfl | rfl
  · exact (show Tryd.prog.wantsStandIn 22 = false by kernel_rfl)
  · exact (show Tryd.prog.wantsStandIn 22 = false by kernel_rfl)
/-- The card. -/
theorem card : Rows.KeyedTagCardSaid :=
  Claim7.holds_tied_plain_at .later [] _ _ _ _ said (fun _ h => by cases h) (by kernel_rfl) (fun _ h => by cases h) keyedTag_row_tie rfl ⟨rfl, rfl⟩ (by kernel_rfl) rfl plain (by kernel_rfl)
#print axioms card
end Go.Proofs.YtlofgcglnpjceaaDoor.keyedTag
