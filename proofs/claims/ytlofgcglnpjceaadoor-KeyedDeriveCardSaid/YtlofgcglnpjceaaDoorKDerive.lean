/-
  Derive returns the specified key, for every secret, process and height.
-/
import Derived.Test.YtlofgcglnpjceaaDoorHead
import Derived.Test.YtlofgcglnpjceaaDoorShort
import Derived.Test.YtlofgcglnpjceaaDoorArg
namespace Go.Proofs.YtlofgcglnpjceaaDoor.keyedDerive
open Go.ChangeShapes Go.WideShapes Go.ChangeAt Go.RowKit Go.Pl
set_option maxRecDepth 100000 in
set_option maxHeartbeats 2000000 in
theorem walk {A1 : Option Addr} {n1 c1 : Nat} {k : List UInt8} (w : World) (hK : Kst w) (h1 : Rd w (fun _ => True) A1 n1 c1 k) (p : Int) (hp : I64 p) (h : Int) (hh : I64 h) :
    Calls Tryd.prog 4 #[.slice A1 n1 c1, .int .i64 p, .int .i64 h] w fun e w' => e = .returned (.bool true) ∧ Below w.heap.size w w' := by
  have hl1 := Lib.hid h1.len
  have hKp := hK.pos
  have hR : Hid (Rd w (fun i => i < w.heap.size) A1 n1 c1 k) := h1.mono (fun i hi _ => hi)
  clear h1
  go_enter Tryd.func4, Tryd.ntmps4
  go_wp2_with fail
  refine (awake_any _ hK).mono ?_
  rintro e w1 ⟨rfl, hb1⟩
  have hb2 : Below w.heap.size w w1.drew := hb1.trans ((ab_drew w1).mono hb1.size)
  clear hb1
  go_wp2_with fail
  refine wp_region_plan Ab Ab.refl Ab.trans [([0], 1), ([2, 3, 4, 5, 6, 9, 10, 11], 7), ([8], 12)] [13, 14, 15, 16] (by kernel_rfl) (by kernel_rfl) (fun _ _ _ _ _ h => h) ?_
  simp only [wpPlan, ordPick, Option.toList_some, List.cons_append, List.nil_append, List.getElem?_cons_succ, List.getElem?_cons_zero]
  generalize w1.drew = w2 at hb2 ⊢
  iterate 1 (go_big_quiet_step (exact fun _ => rfl))
  refine wpQuiet_nil ?_
  go_wp2_with fail
  refine (short_any _ _ _ _ _ _ _).mono ?_
  rintro e wq ⟨rfl, rfl⟩
  by_cases hs : n1 ≤ 2000 ∧ 0 ≤ 2000
  · rw [decide_eq_true hs]
    have hk : Hid (k.length ≤ 1000000) := by show _ ≤ _; have := hl1.out; omega
    clear hs hl1
    go_wp2_with fail
    refine And.intro (Ab.refl _) ?_
    dsimp only
    iterate 8 (go_big_quiet_step (exact fun _ => rfl))
    refine wpQuiet_nil ?_
    go_wp2_with fail
    refine (derive_any _ (hK.below hb2 hKp) ((hR.out.ab hb2).mono (fun _ _ _ => trivial)) hk.out p h hp hh).mono ?_
    intro e w3 hd
    obtain ⟨A3, n3, c3, rfl, hr3, hb3'⟩ := hd.rd
    have hb3 := hb2.trans (hb3'.mono hb2.size)
    have hs3 : ∀ w', Ab w3 w' → Bytes w' w'.heap.size (.slice A3 n3 c3) (Keyed.key k p h) := fun w' h => (hr3.ab h).all
    clear hd hr3
    go_wp2_with fail
    refine And.intro hb3' ?_
    dsimp only
    refine wpq_string rfl 22 9 5 (.tmp 16) rfl rfl rfl rfl _ _ _ rfl _ hs3 ?_
    simp only [Act.put, List.setIfInBounds_toArray, List.set_cons_succ, List.set_cons_zero]
    refine wpQuiet_nil ?_
    clear hs3 hb3' hb2
    go_wp2_with fail
    refine (refderive_any _ ((hR.out.ab hb3).mono (fun _ _ _ => trivial)) hk.out p h hp hh).mono ?_
    intro e w4 hd
    obtain ⟨A4, n4, c4, rfl, hr4, hb4'⟩ := hd.rd
    have hb4 := hb3.trans (hb4'.mono hb3.size)
    have hs4 : ∀ w', Ab w4 w' → Bytes w' w'.heap.size (.slice A4 n4 c4) (Keyed.key k p h) := fun w' h => (hr4.ab h).all
    clear hd hr4 hb3
    go_wp2_with fail
    refine And.intro hb4' ?_
    dsimp only
    refine wpq_string rfl 22 9 5 (.tmp 21) rfl rfl rfl rfl _ _ _ rfl _ hs4 ?_
    simp only [Act.put, List.setIfInBounds_toArray, List.set_cons_succ, List.set_cons_zero]
    iterate 3 (go_big_quiet_step (exact fun _ => rfl))
    refine wpQuiet_nil ?_
    go_wp2_with fail
    go_ret
    exact ⟨rfl, hb4⟩
  · rw [decide_eq_false hs]
    go_wp2_with fail
    refine And.intro (Ab.refl _) ?_
    dsimp only
    iterate 8 (go_big_quiet_step (exact fun _ => rfl))
    refine wpQuiet_nil ?_
    go_wp2_with fail
    refine And.intro (Ab.refl _) ?_
    dsimp only
    iterate 1 (go_big_quiet_step (exact fun _ => rfl))
    refine wpQuiet_nil ?_
    go_wp2_with fail
    refine And.intro (Ab.refl _) ?_
    dsimp only
    iterate 4 (go_big_quiet_step (exact fun _ => rfl))
    refine wpQuiet_nil ?_
    go_wp2_with fail
    go_ret
    exact ⟨rfl, hb2⟩
theorem table {W : World} (h : laidMetH Tryd.prog Rows.keyedDeriveRow.laid W) : Lib.TabIs Tryd.prog W "plexus/sha256.constants" .u32 (Sha.K.map fun (n : Nat) => (n : Int)) :=
  Lib.tabIs_of_head (rest := []) gTab gTabType Tryd.underlying76 Tryd.underlying63 cellsWord cellsTab h
theorem contract (H : Type) (enc : TypeId × Value → H) (W : World) (base : Nat) (args : Array Value) (ds gs : List (DataW H)) (before : List MemPlace)
    (hval : ∀ (j : Nat) t v, Tryd.f4.params[j]? = some t → args[j]? = some v → Value.okWide Tryd.prog W .any base t v)
    (hW : DataW.Whole enc Tryd.prog Tryd.f4.params.toList Rows.keyedDeriveSpec.vars false W args.toList ds gs before) (hL : laidMetH Tryd.prog Rows.keyedDeriveRow.laid W) :
    Calls Tryd.prog 4 args W fun e W' => ∃ v, e = .returned v ∧ Rows.keyedDeriveSpec.post enc Tryd.prog Tryd.f4 false true false false W args v W' := by
  have hW' := hW
  obtain ⟨p, q, hA0, hV, rfl, hfz, hnd⟩ := hW
  have hA : DataW.TrodAll enc Tryd.prog W 0 (fun _ => true) true Tryd.f4.params.toList args.toList ds p := hA0
  rw [Tryd.params4] at hA hval
  obtain ⟨v0, vs0, d0, ds0, p0, q0, hargs, rfl, rfl, h0, r0⟩ := trodAll_cons hA
  obtain ⟨v1, vs1, d1, ds1, p1, q1, rfl, rfl, rfl, h1, r1⟩ := trodAll_cons r0
  obtain ⟨v2, vs2, d2, ds2, p2, q2, rfl, rfl, rfl, h2, r2⟩ := trodAll_cons r1
  obtain ⟨rfl, rfl, rfl⟩ := trodAll_nil r2
  obtain rfl : args = #[v0, v1, v2] := by cases args; simp_all
  obtain ⟨rfl, rfl⟩ := trodVars_none hV
  obtain ⟨a0, len0, cap0, rfl⟩ := okWide_slice Tryd.underlying22 (hval 0 22 v0 rfl rfl)
  have k0 := h0
  have lt0 : ∀ x ∈ p0, x.block < W.heap.size := by obtain ⟨m, hm⟩ := k0; exact DataW.trod_lt m _ _ _ hm
  obtain ⟨z0, w0⟩ := isRow_of_trod Tryd.underlying22 Tryd.underlying5 (by kernel_rfl) h0
  obtain ⟨bs0, hrd0⟩ := rd_of_row w0
  have k1 := h1
  have lt1 : ∀ x ∈ p1, x.block < W.heap.size := by obtain ⟨m, hm⟩ := k1; exact DataW.trod_lt m _ _ _ hm
  obtain ⟨n1, rfl, -, -, z1⟩ := open_int Tryd.underlying3 (hval 1 3 v1 rfl rfl) h1
  have k2 := h2
  have lt2 : ∀ x ∈ p2, x.block < W.heap.size := by obtain ⟨m, hm⟩ := k2; exact DataW.trod_lt m _ _ _ hm
  obtain ⟨n2, rfl, -, -, z2⟩ := open_int Tryd.underlying3 (hval 2 3 v2 rfl rfl) h2
  clear hA0
  refine (walk W (kst_of_tab (table hL)) hrd0 n1 (bounds_i64 z1) n2 (bounds_i64 z2)).mono fun e W' ⟨he, bel⟩ => ?_
  subst he
  exact ⟨_, rfl, _, _, _, [], _, [], hW', trodAll_mk1 (shut_bool Tryd.underlying4 _), (trodAll_cons_mk (Below.trod laidOut (by kernel_rfl) (of_decide_eq_true (by kernel_rfl)) k0 bel lt0) (trodAll_cons_mk (Below.trod laidOut (by kernel_rfl) (of_decide_eq_true (by kernel_rfl)) k1 bel lt1) (trodAll_cons_mk (Below.trod laidOut (by kernel_rfl) (of_decide_eq_true (by kernel_rfl)) k2 bel lt2) trodAll_mk0))), rfl, bel.frame _, fun h => by cases h⟩
theorem laid_met (os : Os) : laidMet Tryd.prog Rows.keyedDeriveRow.laid ((laidWorld os).forCall (fun _ _ => 0) ⟨#[], #[.slice none 0 0, .int .i64 0, .int .i64 0], []⟩).memory :=
  laidMet_of_run' 8 (by kernel_rfl) (by kernel_rfl)
theorem reads (os : Os) {H : Type} (enc : TypeId × Value → H) : ∃ places, DataW.whole enc Tryd.prog ((laidWorld os).forCall (fun _ _ => 0) ⟨#[], #[.slice none 0 0, .int .i64 0, .int .i64 0], []⟩).memory Tryd.f4.params.toList Rows.keyedDeriveSpec.vars false #[Value.slice none 0 0, .int .i64 0, .int .i64 0].toList 8 = some ([.nil, .lit (.int .i64 0), .lit (.int .i64 0)], [], places) :=
  ⟨[], by kernel_rfl⟩
set_option maxRecDepth 100000 in
theorem lifted (os : Os) (started : os.Started) (H : Type) (enc : TypeId × Value → H) (F : Stop.Interp) :
    ReturnsInHanded {} Tryd.checked os 4 .any ((OpenSpec.ofChange Rows.keyedDeriveSpec).preRow enc Tryd.prog Tryd.f4 Rows.keyedDeriveRow.domain false Rows.keyedDeriveRow.laid) (((OpenSpec.ofChange Rows.keyedDeriveSpec).at F).post enc Tryd.prog Tryd.f4 false true false false) := by
  obtain ⟨places, hx⟩ := reads os enc
  refine returnsInHanded_of_row (C := Tryd.checked) (s := OpenSpec.ofChange Rows.keyedDeriveSpec) own started (by kernel_rfl) Tryd.func4
    (witness_row_at (enc := enc) (C := Tryd.checked) false (laidWorld os) #[.slice none 0 0, .int .i64 0, .int .i64 0] rfl (by kernel_rfl) (by kernel_rfl) (by kernel_rfl)
      (OpenSpec.preRow_of_cond 8 hx (by kernel_rfl) (fun k hk => by cases hk) (by kernel_rfl) (laid_met os))) ?_
  intro W base args ds gs before hval hW _ _ _ hL _ _
  exact contract H enc W base args ds gs before hval hW hL
theorem said : Rows.KeyedDeriveSaid :=
  OpenClaim.holds_of_cond 4 Tryd.f4 rfl rfl rfl rfl rfl rfl rfl ⟨rfl, rfl, rfl, rfl, rfl⟩ rfl rfl rfl rfl rfl (by kernel_rfl) Tryd.func4 (by kernel_rfl)
    (of_decide_eq_true (by kernel_rfl)) (by unfold Func.isWrapper; first | (rw [if_pos (by decide +kernel)]; kernel_rfl) | (rw [if_neg (by decide +kernel)]; exact ⟨rfl, rfl⟩))
    (fun os started H enc _ F => by rw [OpenClaim.pre_eq_preRow]; exact lifted os started H enc F)
theorem plain (f : FuncId) (fn : Func) (hf : Tryd.pinned.checked.prog.funcNamed "plexus/plexuslaw05.KeyedDerive" = some f) (hfn : Tryd.pinned.checked.prog.funcs[f]? = some fn) :
    false = Tryd.pinned.checked.prog.looks [] ∧ ∀ (j : Nat) t, fn.params[j]? = some t → Tryd.pinned.checked.prog.wantsStandIn t = false := by
  obtain rfl : f = 4 := Option.some.inj ((show Tryd.prog.funcNamed "plexus/plexuslaw05.KeyedDerive" = some 4 by kernel_rfl).symm.trans hf) |>.symm
  obtain rfl : fn = Tryd.f4 := (Option.some.inj (Tryd.func4.symm.trans hfn)).symm
  refine ⟨by kernel_rfl, fun j t ht => ?_⟩
  rw [Tryd.params4] at ht
  have hm : t = 22 ∨ t = 3 ∨ t = 3 := by simpa using Array.mem_of_getElem? ht
  rcases hm with rfl | rfl | rfl
  · exact (show Tryd.prog.wantsStandIn 22 = false by kernel_rfl)
  · exact (show Tryd.prog.wantsStandIn 3 = false by kernel_rfl)
  · exact (show Tryd.prog.wantsStandIn 3 = false by kernel_rfl)
/-- The card. -/
theorem card : Rows.KeyedDeriveCardSaid :=
  Claim7.holds_tied_plain_at .later [] _ _ _ _ said (fun _ h => by cases h) (by kernel_rfl) (fun _ h => by cases h) keyedDerive_row_tie rfl ⟨rfl, rfl⟩ (by kernel_rfl) rfl plain (by kernel_rfl)
#print axioms card
end Go.Proofs.YtlofgcglnpjceaaDoor.keyedDerive
