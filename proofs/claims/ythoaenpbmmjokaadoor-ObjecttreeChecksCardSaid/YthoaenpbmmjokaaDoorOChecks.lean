/-
  Which proofs are accepted is as the reference has it.
-/
import Derived.Test.YthoaenpbmmjokaaDoorObArg
import Derived.Test.YthoaenpbmmjokaaDoorObAwk
import Derived.Test.YthoaenpbmmjokaaDoorObSm
import Derived.Test.YthoaenpbmmjokaaDoorObRck
namespace Go.Proofs.YthoaenpbmmjokaaDoor.objecttreeChecks
open Go.ChangeShapes Go.WideShapes Go.ChangeAt Go.RowKit Go.Pl
set_option maxRecDepth 100000 in
set_option maxHeartbeats 2000000 in
theorem walk {W A B : Option Addr} {wn wc n c m d : Nat} {root : List UInt8} {x : Ob.It} (w : World) (hK : Kst w) (hW : Rd w (fun _ => True) W wn wc root) (hA : Rd w (fun _ => True) A n c x.content) (hB : RdS w (fun _ => True) B m d x.path) :
    Calls Tryd.prog 10 #[.slice W wn wc, .agg #[.string ⟨x.key.toArray⟩, .bool x.present, .slice A n c, .slice B m d]] w fun e w' => e = .returned (.bool true) ∧ Below w.heap.size w w' := by
  obtain ⟨w1, hw1⟩ : ∃ v, w.alloc (.cells #[.string ⟨x.key.toArray⟩, .bool x.present, .slice A n c, .slice B m d] 26) = v := ⟨_, rfl⟩
  have hG1 : Blk w1 w.heap.size 26 #[.string ⟨x.key.toArray⟩, .bool x.present, .slice A n c, .slice B m d] := by rw [← hw1]; exact Blk.new' rfl
  have hb1 : Below w.heap.size w w1 := by rw [← hw1]; exact (Below.refl _ _).alloc (Nat.le_refl _) _
  have hWd := Lib.hid hW
  have hAd := Lib.hid hA
  have hBd := Lib.hid hB
  have hb1d := Lib.hid hb1
  have hw1d := Lib.hid hw1
  have hG1d := Lib.hid hG1
  clear hW hA hB hb1 hw1 hG1
  go_enter Tryd.func10, Tryd.ntmps10
  go_wp2_with fail
  rw [hw1d.out]
  refine (awake_any w1 (hK.below hb1d.out hK.pos)).mono ?_
  rintro e w2 ⟨rfl, hb2⟩
  have hb2d : Hid (Below w.heap.size w w2) := hb1d.out.trans (hb2.mono hb1d.out.size)
  have k2 : Blk w2 w.heap.size 26 #[.string ⟨x.key.toArray⟩, .bool x.present, .slice A n c, .slice B m d] := hG1d.out.below hb2 hG1d.out.lt
  have g0 := (k2.cell 0).trans rfl
  have g1 := (k2.cell 1).trans rfl
  have g2 := (k2.cell 2).trans rfl
  have g3 := (k2.cell 3).trans rfl
  have k2d := Lib.hid k2
  clear hb2 k2 hw1d hb1d hG1d
  go_wp2_with fail
  obtain ⟨G, hG⟩ : ∃ G, w.heap.size = G := ⟨_, rfl⟩
  have hGG := Lib.hid hG
  rw [hG] at k2d ⊢
  clear hG
  obtain ⟨w3, hw3⟩ : ∃ v, w2.alloc (.cells #[.string ⟨x.key.toArray⟩, .bool x.present, .slice A n c, .slice B m d] 26) = v := ⟨_, rfl⟩
  have f23 : Fr (fun _ => False) w2 w3 := by rw [← hw3]; exact (Fr.refl (fun _ => False) w2).alloc _
  have hb3d : Hid (Below w.heap.size w w3) := hb2d.out.trans (f23.below (fun _ h => h.elim) hb2d.out.size)
  have f3 : Hid (Fr (fun _ => False) w w3) := Fr.of_below hb3d.out
  have hI : RdI w3 (fun _ => True) (some ⟨w2.heap.size, 0, none⟩) 1 1 [x] := by
    have := rdi_one w2 x (.slice A n c) (.slice B m d) ⟨_, _, _, rfl, by
      show Rd (w2.alloc (.cells #[.string ⟨x.key.toArray⟩, .bool x.present, .slice A n c, .slice B m d] 26)) _ _ _ _ _
      rw [hw3]; exact hAd.out.fr f3.out (fun _ _ h => h)⟩ ⟨_, _, _, rfl, by
      show RdS (w2.alloc (.cells #[.string ⟨x.key.toArray⟩, .bool x.present, .slice A n c, .slice B m d] 26)) _ _ _ _ _
      rw [hw3]; exact hBd.out.fr f3.out (fun _ _ h => h)⟩
    rw [← hw3]
    exact this
  have k3 : Hid (Blk w3 G 26 #[.string ⟨x.key.toArray⟩, .bool x.present, .slice A n c, .slice B m d]) := k2d.out.fr f23 (fun h => h)
  rw [hw3]
  have hId := Lib.hid hI
  clear hw3 f23 hI g0 g1 g2 g3
  by_cases hs : Ob.SmallI x
  · refine (small_any w3 hId.out true ⟨fun _ => ⟨by simp, fun y h => by rw [List.mem_singleton.1 h]; exact hs⟩, fun _ => rfl⟩).mono ?_
    rintro e w4 ⟨rfl, rfl⟩
    have hsd := Lib.hid hs
    clear hs
    go_wp2_with fail
    refine wp_region_late Ab Ab.refl Ab.trans [] (.one [0, 3] [1, 4] 2 (.one [] [] 5 (.last [6, 7] []))) (by kernel_rfl) (by kernel_rfl) (fun _ _ _ _ _ h => h) ?_
    simp only [wpSchV, ordPick, Option.toList_some, List.cons_append, List.nil_append, List.getElem?_cons_succ, List.getElem?_cons_zero]
    have f4 : Hid (Fr (fun _ => False) w w3.drew) := f3.out.drew
    have hb4d : Hid (Below w.heap.size w w3.drew) := hb3d.out.trans ((ab_drew w3).mono hb3d.out.size)
    have kq : ∀ w', Ab w3.drew w' → Blk w' G 26 #[.string ⟨x.key.toArray⟩, .bool x.present, .slice A n c, .slice B m d] := fun w' h => k3.out.drew.below h k3.out.drew.lt
    clear f3 hb3d k3 hId k2d
    generalize w3.drew = w4 at f4 hb4d kq ⊢
    iterate 2 (go_big_quiet_step (exact fun _ => rfl))
    refine wpQuiet_nil ?_
    refine wpq_load_four rfl 26 (.tmp 3) rfl G rfl 26 _ kq _ Tryd.underlying26 rfl (by kernel_rfl) ?_
    simp only [Act.put, List.setIfInBounds_toArray, List.set_cons_succ, List.set_cons_zero]
    refine wpq_load_four rfl 26 (.tmp 3) rfl G rfl 26 _ kq _ Tryd.underlying26 rfl (by kernel_rfl) ?_
    simp only [Act.put, List.setIfInBounds_toArray, List.set_cons_succ, List.set_cons_zero]
    refine wpQuiet_nil ?_
    clear kq
    have hx1 : Hid (x.key.length ≤ 100000 ∧ x.content.length ≤ 1000000 ∧ x.path.length ≤ 1000 ∧ ∀ p ∈ x.path, p.length ≤ 1000000) := ⟨by have := hsd.out.1; omega, by have := hsd.out.2.1; omega, by have := hsd.out.2.2.1; omega, fun p h => by have := hsd.out.2.2.2 p h; omega⟩
    go_wp2_with fail
    refine (chk_any w4 (hK.below hb4d.out hK.pos) (hWd.out.fr f4.out (fun _ _ h => h)) (hAd.out.fr f4.out (fun _ _ h => h)) (hBd.out.fr f4.out (fun _ _ h => h)) hx1.out.1 hx1.out.2.1 hx1.out.2.2.1 hx1.out.2.2.2).mono ?_
    rintro e w5 ⟨rfl, hb5⟩
    obtain ⟨R, hR⟩ : ∃ R, Ob.checkP root x = R := ⟨_, rfl⟩
    rw [hR]
    have hRd := Lib.hid hR
    have f5 : Hid (Fr (fun _ => False) w w5) := f4.out.trans (Fr.of_below (F := fun _ => False) hb5) (fun _ h => h.elim)
    have hb5d : Hid (Below w.heap.size w w5) := hb4d.out.trans (hb5.mono hb4d.out.size)
    have hab5 : Hid (Ab w4 w5) := hb5
    clear hb5 hR
    go_wp2_with fail
    refine And.intro (.inr hab5.out) ?_
    simp only
    refine wpQuiet_nil (wpQuiet_nil ?_)
    go_wp2_with fail
    refine (refcheck_any w5 (hWd.out.fr f5.out (fun _ _ h => h)) (hAd.out.fr f5.out (fun _ _ h => h)) (hBd.out.fr f5.out (fun _ _ h => h)) hx1.out.1 hx1.out.2.1 hx1.out.2.2.1 hx1.out.2.2.2).mono ?_
    rintro e w6 ⟨rfl, hb6⟩
    rw [hRd.out]
    have hb6d : Hid (Below w.heap.size w w6) := hb5d.out.trans (hb6.mono hb5d.out.size)
    have hab6 : Hid (Ab w5 w6) := hb6
    clear hb6
    cases R with
    | true =>
      go_wp2_with fail
      refine And.intro (.inr hab6.out) ?_
      simp only
      iterate 2 (go_big_quiet_step (exact fun _ => rfl))
      refine wpQuiet_nil (wpQuiet_nil ?_)
      go_wp2_with fail
      go_ret
      exact ⟨rfl, hb6d.out⟩
    | false =>
      go_wp2_with fail
      refine And.intro (.inr hab6.out) ?_
      simp only
      iterate 2 (go_big_quiet_step (exact fun _ => rfl))
      refine wpQuiet_nil (wpQuiet_nil ?_)
      go_wp2_with fail
      go_ret
      exact ⟨rfl, hb6d.out⟩
  · refine (small_any w3 hId.out false ⟨fun h => (by cases h), fun h => (hs (h.2 x (by simp))).elim⟩).mono ?_
    rintro e w4 ⟨rfl, rfl⟩
    go_wp2_with fail
    go_ret
    exact ⟨rfl, hb3d.out⟩
theorem table {W : World} (h : laidMetH Tryd.prog Rows.objecttreeChecksRow.laid W) : Lib.TabIs Tryd.prog W "plexus/sha256.constants" .u32 (Sha.K.map fun (n : Nat) => (n : Int)) :=
  Lib.tabIs_of_head (rest := []) gTab gTabType Tryd.underlying69 Tryd.underlying64 cellsWord cellsTab h
theorem contract (H : Type) (enc : TypeId × Value → H) (W : World) (base : Nat) (args : Array Value) (ds gs : List (DataW H)) (before : List MemPlace)
    (hval : ∀ (j : Nat) t v, Tryd.f10.params[j]? = some t → args[j]? = some v → Value.okWide Tryd.prog W .any base t v)
    (hW : DataW.Whole enc Tryd.prog Tryd.f10.params.toList Rows.objecttreeChecksSpec.vars false W args.toList ds gs before) (hL : laidMetH Tryd.prog Rows.objecttreeChecksRow.laid W) :
    Calls Tryd.prog 10 args W fun e W' => ∃ v, e = .returned v ∧ Rows.objecttreeChecksSpec.post enc Tryd.prog Tryd.f10 false true false false W args v W' := by
  have hW' := hW
  obtain ⟨p, q, hA0, hV, rfl, hfz, hnd⟩ := hW
  have hA : DataW.TrodAll enc Tryd.prog W 0 (fun _ => true) true Tryd.f10.params.toList args.toList ds p := hA0
  rw [Tryd.params10] at hA hval
  obtain ⟨v0, vs0, d0, ds0, p0, q0, hargs, rfl, rfl, h0, r0⟩ := trodAll_cons hA
  obtain ⟨v1, vs1, d1, ds1, p1, q1, rfl, rfl, rfl, h1, r1⟩ := trodAll_cons r0
  obtain ⟨rfl, rfl, rfl⟩ := trodAll_nil r1
  obtain rfl : args = #[v0, v1] := by cases args; simp_all
  obtain ⟨rfl, rfl⟩ := trodVars_none hV
  obtain ⟨a0, len0, cap0, rfl⟩ := okWide_slice Tryd.underlying23 (hval 0 23 v0 rfl rfl)
  have k0 := h0
  have lt0 : ∀ x ∈ p0, x.block < W.heap.size := by obtain ⟨m, hm⟩ := k0; exact DataW.trod_lt m _ _ _ hm
  obtain ⟨z0, w0⟩ := isRow_of_trod Tryd.underlying23 Tryd.underlying5 (by kernel_rfl) h0
  obtain ⟨bs0, hrd0⟩ := rd_of_row w0
  have k1 := h1
  have lt1 : ∀ x ∈ p1, x.block < W.heap.size := by obtain ⟨m, hm⟩ := k1; exact DataW.trod_lt m _ _ _ hm
  obtain ⟨cs1, rfl, hcs1⟩ := okWide_struct Tryd.underlying26 (hval 1 26 v1 rfl rfl)
  obtain ⟨x1, A1, n1, c1, B1, m1, e1, rfl, hA1, hB1⟩ := item_of_trod Tryd.underlying26 (by kernel_rfl) rfl rfl rfl rfl rfl rfl rfl rfl rfl rfl rfl rfl rfl Tryd.underlying9 Tryd.underlying4 (by kernel_rfl) (by kernel_rfl) (by kernel_rfl) (by kernel_rfl) Tryd.underlying23 Tryd.underlying5 (by kernel_rfl) Tryd.underlying24 Tryd.underlying23 (by kernel_rfl) hcs1 h1
  clear hA0
  refine (walk W (kst_of_tab (table hL)) hrd0 hA1 hB1).mono fun e W' ⟨he, bel⟩ => ?_
  subst he
  exact ⟨_, rfl, _, _, _, [], _, [], hW', trodAll_mk1 (shut_bool Tryd.underlying4 _), (trodAll_cons_mk (Below.trod laidOut (by kernel_rfl) (of_decide_eq_true (by kernel_rfl)) k0 bel lt0) (trodAll_cons_mk (Below.trod laidOut (by kernel_rfl) (of_decide_eq_true (by kernel_rfl)) k1 bel lt1) trodAll_mk0)), rfl, bel.frame _, fun h => by cases h⟩
theorem laid_met (os : Os) : laidMet Tryd.prog Rows.objecttreeChecksRow.laid ((laidWorld os).forCall (fun _ _ => 0) ⟨#[], #[.slice none 0 0, .agg #[.string ByteArray.empty, .bool false, .slice none 0 0, .slice none 0 0]], []⟩).memory :=
  laidMet_of_run' 8 (by kernel_rfl) (by kernel_rfl)
theorem reads (os : Os) {H : Type} (enc : TypeId × Value → H) : ∃ places, DataW.whole enc Tryd.prog ((laidWorld os).forCall (fun _ _ => 0) ⟨#[], #[.slice none 0 0, .agg #[.string ByteArray.empty, .bool false, .slice none 0 0, .slice none 0 0]], []⟩).memory Tryd.f10.params.toList Rows.objecttreeChecksSpec.vars false #[Value.slice none 0 0, .agg #[.string ByteArray.empty, .bool false, .slice none 0 0, .slice none 0 0]].toList 8 = some ([.nil, .agg [.lit (.string []), .lit (.bool false), .nil, .nil]], [], places) :=
  ⟨[], by kernel_rfl⟩
set_option maxRecDepth 100000 in
theorem lifted (os : Os) (started : os.Started) (H : Type) (enc : TypeId × Value → H) (F : Stop.Interp) :
    ReturnsInHanded {} Tryd.checked os 10 .any ((OpenSpec.ofChange Rows.objecttreeChecksSpec).preRow enc Tryd.prog Tryd.f10 Rows.objecttreeChecksRow.domain false Rows.objecttreeChecksRow.laid) (((OpenSpec.ofChange Rows.objecttreeChecksSpec).at F).post enc Tryd.prog Tryd.f10 false true false false) := by
  obtain ⟨places, hx⟩ := reads os enc
  refine returnsInHanded_of_row (C := Tryd.checked) (s := OpenSpec.ofChange Rows.objecttreeChecksSpec) own started (by kernel_rfl) Tryd.func10
    (witness_row_at (enc := enc) (C := Tryd.checked) false (laidWorld os) #[.slice none 0 0, .agg #[.string ByteArray.empty, .bool false, .slice none 0 0, .slice none 0 0]] rfl (by kernel_rfl) (by kernel_rfl) (by kernel_rfl)
      (OpenSpec.preRow_of_cond 8 hx (by kernel_rfl) (fun k hk => by cases hk) (by kernel_rfl) (laid_met os))) ?_
  intro W base args ds gs before hval hW _ _ _ hL _ _
  exact contract H enc W base args ds gs before hval hW hL
theorem said : Rows.ObjecttreeChecksSaid :=
  OpenClaim.holds_of_cond 10 Tryd.f10 rfl rfl rfl rfl rfl rfl rfl ⟨rfl, rfl, rfl, rfl, rfl⟩ rfl rfl rfl rfl rfl (by kernel_rfl) Tryd.func10 (by kernel_rfl)
    (of_decide_eq_true (by kernel_rfl)) (by unfold Func.isWrapper; first | (rw [if_pos (by decide +kernel)]; kernel_rfl) | (rw [if_neg (by decide +kernel)]; exact ⟨rfl, rfl⟩))
    (fun os started H enc _ F => by rw [OpenClaim.pre_eq_preRow]; exact lifted os started H enc F)
theorem plain (f : FuncId) (fn : Func) (hf : Tryd.pinned.checked.prog.funcNamed "plexus/plexuslaw40.ObjecttreeChecks" = some f) (hfn : Tryd.pinned.checked.prog.funcs[f]? = some fn) :
    false = Tryd.pinned.checked.prog.looks [] ∧ ∀ (j : Nat) t, fn.params[j]? = some t → Tryd.pinned.checked.prog.wantsStandIn t = false := by
  obtain rfl : f = 10 := Option.some.inj ((show Tryd.prog.funcNamed "plexus/plexuslaw40.ObjecttreeChecks" = some 10 by kernel_rfl).symm.trans hf) |>.symm
  obtain rfl : fn = Tryd.f10 := (Option.some.inj (Tryd.func10.symm.trans hfn)).symm
  refine ⟨by kernel_rfl, fun j t ht => ?_⟩
  rw [Tryd.params10] at ht
  have hm : t = 23 ∨ t = 26 := by simpa using Array.mem_of_getElem? ht
  rcases hm with rfl | rfl
  · exact (show Tryd.prog.wantsStandIn 23 = false by kernel_rfl)
  · exact (show Tryd.prog.wantsStandIn 26 = false by kernel_rfl)
/-- The card. -/
theorem card : Rows.ObjecttreeChecksCardSaid :=
  Claim7.holds_tied_plain_at .later [] _ _ _ _ said (fun _ h => by cases h) (by kernel_rfl) (fun _ h => by cases h) objecttreeChecks_row_tie rfl ⟨rfl, rfl⟩ (by kernel_rfl) rfl plain (by kernel_rfl)
#print axioms card
end Go.Proofs.YthoaenpbmmjokaaDoor.objecttreeChecks
