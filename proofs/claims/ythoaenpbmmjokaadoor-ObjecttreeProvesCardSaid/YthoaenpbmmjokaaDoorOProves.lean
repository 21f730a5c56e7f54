/-
  Proofs are as the reference has them, or the list is refused.
-/
import Derived.Test.YthoaenpbmmjokaaDoorObArg
import Derived.Test.YthoaenpbmmjokaaDoorObAwk
import Derived.Test.YthoaenpbmmjokaaDoorObSame
namespace Go.Pl
open Go.RowKit
/-- An item loaded, under a guard that says yes, where a region is walked quietly. -/
theorem wpq_load_four {P : Program} {ops : Array Oper} {rest : List Oper} {o : Oper} {a : Act} {C : World → Prop} {R : Act → Prop} (hgd : Region.wanted o (yielded ops a.tmps) = true) (ty : TypeId) (x : Operand) (hop : o.op = .load ty x) (g : Nat) (hx : a.eval x = .pointer (some ⟨g, 0, none⟩)) (t : TypeId) (cs : Array Value)
    (hg : ∀ w, C w → Blk w g t cs) (d : TypeDesc) (hu : P.underlying ty = some d) (hd : d.isRow = true) (hi : (P.info? ty).map (·.size) = some cs.size)
    (h : wpQuiet P ops C R rest (a.put o.dst (.agg cs))) : wpQuiet P ops C R (o :: rest) a :=
  BigFrame.wpQuiet_want hgd fun K hK => ⟨.agg cs, fun w hw => by
    have hl := run_loadVar_mid (P := P) w g 0 ty cs.toList d ((hg w hw).range 0 cs (by simp)) hu hd (by simpa using hi)
    unfold Oper.quietAt execOp
    simp only [hop, hx, Instr.loadAt, Instr.sureAddr, Sem.run_bind, Sem.run_pure, Result.andThen_ok, hl]
    exact ⟨rfl, rfl⟩, hK _ h⟩
end Go.Pl
namespace Go.Proofs.YthoaenpbmmjokaaDoor.objecttreeProves
open Go.ChangeShapes Go.WideShapes Go.ChangeAt Go.RowKit Go.Pl
theorem sl_nil (w : World) : SlIs w (fun _ => True) (.slice none 0 0) [] := ⟨none, 0, 0, rfl, rfl, Nat.le_refl _, by simp [maxLen], fun _ => rfl, fun h => by omega⟩
set_option maxRecDepth 100000 in
set_option maxHeartbeats 2000000 in
theorem walkl {A : Option Addr} {n c : Nat} {xs : List Ob.It} (w : World) (hK : Kst w) (hx : RdI w (fun _ => True) A n c xs) (key : List UInt8) :
    Calls Tryd.prog 9 #[.slice A n c, .string ⟨key.toArray⟩] w fun e w' => e = .returned (.bool true) ∧ Below w.heap.size w w' := by
  have hsz : (⟨key.toArray⟩ : ByteArray).size = key.length := by simp [ByteArray.size]
  have hnl := Lib.hid hx.len
  have hxd := Lib.hid hx
  clear hx
  go_enter Tryd.func9, Tryd.ntmps9
  go_wp2_with fail
  refine (awake_any _ hK).mono ?_
  rintro e w1 ⟨rfl, hb1⟩
  have hb1d := Lib.hid hb1
  clear hb1
  have up : ∀ w', Below w.heap.size w w' → RdI w' (fun _ => True) A n c xs := fun _ h => hxd.out.fr (Fr.of_below (F := fun _ => False) h) (fun _ _ h => h)
  have upd := Lib.hid up
  clear up
  go_wp2_with fail
  by_cases hs : Ob.Small xs
  · refine (small_any w1 (upd.out _ hb1d.out) true ⟨fun _ => hs, fun _ => rfl⟩).mono ?_
    rintro e w2 ⟨rfl, rfl⟩
    have hsm := Lib.hid hs
    have hks : Hid (∀ x ∈ xs, x.key.length ≤ 100000 ∧ x.content.length ≤ 1000000) := fun x h => by have := hsm.out.2 x h; exact ⟨by have := this.1; omega, by have := this.2.1; omega⟩
    have hn : n ≤ 20 := by have := hs.1; have := hnl.out; omega
    have hnd := Lib.hid hn
    clear hs hn
    by_cases hkl : key.length ≤ 300
    · have hkI : decide (300 < key.length) = false := by simp; omega
      have hkJ : decide (300 < (key.length : Int)) = false := by simp; omega
      go_wp2_with fail
      by_cases hm : Ob.IsMap xs
      · refine (prove_any w1 (hK.below hb1d.out hK.pos) key (by omega) (upd.out _ hb1d.out) hm (by have := hnd.out; omega) hks.out).mono ?_
        rintro e w3 ⟨s, p, rfl, hs3, hp3, hb3⟩
        obtain ⟨A3, n3, c3, rfl, hr3⟩ := hs3
        obtain ⟨B3, m3, d3, rfl, hq3⟩ := hp3
        have hr3d := Lib.hid hr3
        have hq3d := Lib.hid hq3
        have hb3d : Hid (Below w.heap.size w w3) := hb1d.out.trans (hb3.mono hb1d.out.size)
        have hmd := Lib.hid hm
        obtain ⟨X, hX⟩ : ∃ X, Ob.proveI key xs = X := ⟨_, rfl⟩
        rw [hX] at hr3d hq3d
        rw [hX, show (itv X (.slice A3 n3 c3) (.slice B3 m3 d3)).toArray = #[.string ⟨X.key.toArray⟩, .bool X.present, .slice A3 n3 c3, .slice B3 m3 d3] from rfl]
        have hXd := Lib.hid hX
        clear hr3 hq3 hb3 hm hX
        go_upto_region 6 with fail
        obtain ⟨w4, hw4⟩ : ∃ v, w3.alloc (.cells #[.string ⟨X.key.toArray⟩, .bool X.present, .slice A3 n3 c3, .slice B3 m3 d3] 26) = v := ⟨_, rfl⟩
        have k4 : Blk w4 w3.heap.size 26 #[.string ⟨X.key.toArray⟩, .bool X.present, .slice A3 n3 c3, .slice B3 m3 d3] := by rw [← hw4]; exact Blk.new' rfl
        have f4 : Hid (Fr (fun _ => False) w3 w4) := by show Fr _ _ _; rw [← hw4]; exact (Fr.refl (fun _ => False) w3).alloc _
        have hb4 : Hid (Below w.heap.size w w4) := hb3d.out.trans (f4.out.below (fun _ h => h.elim) hb3d.out.size)
        rw [hw4]
        obtain ⟨G, hG⟩ : ∃ G, w3.heap.size = G := ⟨_, rfl⟩
        rw [hG] at k4 ⊢
        have k4d := Lib.hid k4
        clear hw4 k4 hG
        go_wp2_with fail
        refine (refmap_any w4 (upd.out _ hb4.out) (by have := hnd.out; omega) (fun x h => (hks.out x h).1) true ⟨fun _ => hmd.out, fun _ => rfl⟩).mono ?_
        rintro e w5 ⟨rfl, hb5⟩
        have f5 : Hid (Fr (fun _ => False) w4 w5) := Fr.of_below hb5
        have hb5d : Hid (Below w.heap.size w w5) := hb4.out.trans (hb5.mono hb4.out.size)
        clear hb5
        go_wp2_with fail
        refine wp_region_late Ab Ab.refl Ab.trans [] (.one [0, 1, 2, 4, 5] [3] 6 (.one [] [] 7 (.last [8, 9] []))) (by kernel_rfl) (by kernel_rfl) (fun _ _ _ _ _ h => h) ?_
        simp only [wpSchV, ordPick, Option.toList_some, List.cons_append, List.nil_append, List.getElem?_cons_succ, List.getElem?_cons_zero]
        have f6 : Hid (Fr (fun _ => False) w5 w5.drew) := (Fr.refl (fun _ => False) w5).drew
        have hb6 : Hid (Below w.heap.size w w5.drew) := hb5d.out.trans (f6.out.below (fun _ h => h.elim) hb5d.out.size)
        have f36 : Hid (Fr (fun _ => False) w3 w5.drew) := f4.out.trans (f5.out.trans f6.out (fun _ h => h.elim)) (fun _ h => h.elim)
        have kq : ∀ w', Ab w5.drew w' → Blk w' G 26 #[.string ⟨X.key.toArray⟩, .bool X.present, .slice A3 n3 c3, .slice B3 m3 d3] := fun w' h => ((k4d.out.fr f5.out (fun h => h)).fr f6.out (fun h => h)).below h (by have := ((k4d.out.fr f5.out (fun h => h)).fr f6.out (fun h => h)).lt; exact this)
        clear f4 f5 f6 hb5d hb4 hb3d k4d
        generalize w5.drew = w6 at hb6 f36 kq ⊢
        iterate 5 (go_big_quiet_step (exact fun _ => rfl))
        refine wpQuiet_nil ?_
        refine wpq_load_four rfl 26 (.tmp 5) rfl G rfl 26 _ kq _ Tryd.underlying26 rfl (by kernel_rfl) ?_
        simp only [Act.put, List.setIfInBounds_toArray, List.set_cons_succ, List.set_cons_zero]
        refine wpQuiet_nil ?_
        clear kq
        go_wp2_with fail
        refine (refprove_any w6 key (by omega) (upd.out _ hb6.out) (ismap_asc hmd.out) (by have := hnd.out; omega) hks.out).mono ?_
        rintro e w7 ⟨s7, p7, rfl, hs7, hp7, hb7⟩
        rw [hXd.out] at hs7 hp7 ⊢
        have f7 : Hid (Fr (fun _ => False) w6 w7) := Fr.of_below hb7
        have hb7d : Hid (Below w.heap.size w w7) := hb6.out.trans (hb7.mono hb6.out.size)
        have hs7d := Lib.hid hs7
        have hp7d := Lib.hid hp7
        clear hs7 hp7
        go_wp2_with fail
        refine And.intro (.inr hb7) ?_
        clear hb7
        simp only
        refine wpQuiet_nil (wpQuiet_nil ?_)
        have f37 := f36.out.trans f7.out (fun _ h => h.elim)
        go_wp2_with fail
        refine (same_any w7 (x := X) (y := X) (s := .slice A3 n3 c3) (p := .slice B3 m3 d3) ⟨_, _, _, rfl, hr3d.out.fr f37 (fun _ _ h => h)⟩ ⟨_, _, _, rfl, hq3d.out.fr f37 (fun _ _ h => h)⟩ hs7d.out hp7d.out true ⟨fun _ => rfl, fun _ => rfl⟩).mono ?_
        rintro e w8 ⟨rfl, hb8⟩
        have hb8d : Hid (Below w.heap.size w w8) := hb7d.out.trans (hb8.mono hb7d.out.size)
        have hab8 : Hid (Ab w7 w8) := hb8
        clear hb8 f37
        go_wp2_with fail
        refine And.intro (.inr hab8.out) ?_
        simp only
        iterate 2 (go_big_quiet_step (exact fun _ => rfl))
        refine wpQuiet_nil (wpQuiet_nil ?_)
        go_wp2_with fail
        go_ret
        exact ⟨rfl, hb8d.out⟩
      · refine (prove_bad w1 key (upd.out _ hb1d.out) (by have := hnd.out; omega) (fun x h => (hks.out x h).1) hm).mono ?_
        rintro e w3 ⟨rfl, hb3⟩
        have hb3d : Hid (Below w.heap.size w w3) := hb1d.out.trans (hb3.mono hb1d.out.size)
        have hmd := Lib.hid hm
        clear hb3 hm
        go_upto_region 6 with fail
        obtain ⟨w4, hw4⟩ : ∃ v, w3.alloc (.cells #[.string ⟨#[]⟩, .bool false, .slice none 0 0, .slice none 0 0] 26) = v := ⟨_, rfl⟩
        have k4 : Blk w4 w3.heap.size 26 #[.string ⟨#[]⟩, .bool false, .slice none 0 0, .slice none 0 0] := by rw [← hw4]; exact Blk.new' rfl
        have hb4 : Hid (Below w.heap.size w w4) := by show Below _ _ _; rw [← hw4]; exact hb3d.out.alloc hb3d.out.size _
        rw [hw4]
        obtain ⟨G, hG⟩ : ∃ G, w3.heap.size = G := ⟨_, rfl⟩
        rw [hG] at k4 ⊢
        have k4d := Lib.hid k4
        clear hw4 k4 hG
        go_wp2_with fail
        refine (refmap_any w4 (upd.out _ hb4.out) (by have := hnd.out; omega) (fun x h => (hks.out x h).1) false ⟨fun h => (by cases h), fun h => (hmd.out h).elim⟩).mono ?_
        rintro e w5 ⟨rfl, hb5⟩
        have k5 := k4d.out.below hb5 k4d.out.lt
        have hb5d : Hid (Below w.heap.size w w5) := hb4.out.trans (hb5.mono hb4.out.size)
        have c0 := (k5.cell 0).trans rfl
        have c1 := (k5.cell 1).trans rfl
        have c2 := (k5.cell 2).trans rfl
        have c3 := (k5.cell 3).trans rfl
        clear hb5 k5 k4d
        go_wp2_with fail
        refine (same_any w5 (x := ⟨[], false, [], []⟩) (y := ⟨[], false, [], []⟩) (s := .slice none 0 0) (p := .slice none 0 0) (s' := .slice none 0 0) (p' := .slice none 0 0) (sl_nil _) ⟨_, _, _, rfl, RdS.nil _ _⟩ (sl_nil _) ⟨_, _, _, rfl, RdS.nil _ _⟩ true ⟨fun _ => rfl, fun _ => rfl⟩).mono ?_
        rintro e w8 ⟨rfl, hb8⟩
        have hb8d : Hid (Below w.heap.size w w8) := hb5d.out.trans (hb8.mono hb5d.out.size)
        clear hb8
        go_wp2_with fail
        go_ret
        exact ⟨rfl, hb8d.out⟩
    · have hkI : decide (300 < key.length) = true := by simp; omega
      have hkJ : decide (300 < (key.length : Int)) = true := by simp; omega
      go_wp2_with fail
      go_ret
      exact ⟨rfl, hb1d.out⟩
  · refine (small_any w1 (upd.out _ hb1d.out) false ⟨fun h => (by cases h), fun h => (hs h).elim⟩).mono ?_
    rintro e w2 ⟨rfl, rfl⟩
    go_wp2_with fail
    go_ret
    exact ⟨rfl, hb1d.out⟩
theorem walk {A : Option Addr} {n c : Nat} {xs : List Ob.It} {t : ByteArray} (w : World) (hK : Kst w) (hx : RdI w (fun _ => True) A n c xs) (_ht : t.size ≤ maxLen) :
    Calls Tryd.prog 9 #[.slice A n c, .string t] w fun e w' => e = .returned (.bool true) ∧ Below w.heap.size w w' := walkl w hK hx t.data.toList
theorem table {W : World} (h : laidMetH Tryd.prog Rows.objecttreeProvesRow.laid W) : Lib.TabIs Tryd.prog W "plexus/sha256.constants" .u32 (Sha.K.map fun (n : Nat) => (n : Int)) :=
  Lib.tabIs_of_head (rest := []) gTab gTabType Tryd.underlying69 Tryd.underlying64 cellsWord cellsTab h
theorem contract (H : Type) (enc : TypeId × Value → H) (W : World) (base : Nat) (args : Array Value) (ds gs : List (DataW H)) (before : List MemPlace)
    (hval : ∀ (j : Nat) t v, Tryd.f9.params[j]? = some t → args[j]? = some v → Value.okWide Tryd.prog W .any base t v)
    (hW : DataW.Whole enc Tryd.prog Tryd.f9.params.toList Rows.objecttreeProvesSpec.vars false W args.toList ds gs before) (hL : laidMetH Tryd.prog Rows.objecttreeProvesRow.laid W) :
    Calls Tryd.prog 9 args W fun e W' => ∃ v, e = .returned v ∧ Rows.objecttreeProvesSpec.post enc Tryd.prog Tryd.f9 false true false false W args v W' := by
  have hW' := hW
  obtain ⟨p, q, hA0, hV, rfl, hfz, hnd⟩ := hW
  have hA : DataW.TrodAll enc Tryd.prog W 0 (fun _ => true) true Tryd.f9.params.toList args.toList ds p := hA0
  rw [Tryd.params9] at hA hval
  obtain ⟨v0, vs0, d0, ds0, p0, q0, hargs, rfl, rfl, h0, r0⟩ := trodAll_cons hA
  obtain ⟨v1, vs1, d1, ds1, p1, q1, rfl, rfl, rfl, h1, r1⟩ := trodAll_cons r0
  obtain ⟨rfl, rfl, rfl⟩ := trodAll_nil r1
  obtain rfl : args = #[v0, v1] := by cases args; simp_all
  obtain ⟨rfl, rfl⟩ := trodVars_none hV
  obtain ⟨a0, len0, cap0, rfl⟩ := okWide_slice Tryd.underlying22 (hval 0 22 v0 rfl rfl)
  have k0 := h0
  have lt0 : ∀ x ∈ p0, x.block < W.heap.size := by obtain ⟨m, hm⟩ := k0; exact DataW.trod_lt m _ _ _ hm
  obtain ⟨xs0, hri0⟩ := items_of_trod Tryd.underlying22 Tryd.underlying26 (by kernel_rfl) rfl rfl rfl rfl rfl rfl rfl rfl rfl rfl rfl rfl rfl Tryd.underlying9 Tryd.underlying4 (by kernel_rfl) (by kernel_rfl) (by kernel_rfl) (by kernel_rfl) Tryd.underlying23 Tryd.underlying5 (by kernel_rfl) Tryd.underlying24 Tryd.underlying23 (by kernel_rfl) h0
  have k1 := h1
  have lt1 : ∀ x ∈ p1, x.block < W.heap.size := by obtain ⟨m, hm⟩ := k1; exact DataW.trod_lt m _ _ _ hm
  obtain ⟨s1, rfl, -, -, z1⟩ := Go.ChangeMaps.open_string Tryd.underlying9 (hval 1 9 v1 rfl rfl) h1
  clear hA0
  refine (walk W (kst_of_tab (table hL)) hri0 z1).mono fun e W' ⟨he, bel⟩ => ?_
  subst he
  exact ⟨_, rfl, _, _, _, [], _, [], hW', trodAll_mk1 (shut_bool Tryd.underlying4 _), (trodAll_cons_mk (Below.trod laidOut (by kernel_rfl) (of_decide_eq_true (by kernel_rfl)) k0 bel lt0) (trodAll_cons_mk (Below.trod laidOut (by kernel_rfl) (of_decide_eq_true (by kernel_rfl)) k1 bel lt1) trodAll_mk0)), rfl, bel.frame _, fun h => by cases h⟩
theorem laid_met (os : Os) : laidMet Tryd.prog Rows.objecttreeProvesRow.laid ((laidWorld os).forCall (fun _ _ => 0) ⟨#[], #[.slice none 0 0, .string ByteArray.empty], []⟩).memory :=
  laidMet_of_run' 8 (by kernel_rfl) (by kernel_rfl)
theorem reads (os : Os) {H : Type} (enc : TypeId × Value → H) : ∃ places, DataW.whole enc Tryd.prog ((laidWorld os).forCall (fun _ _ => 0) ⟨#[], #[.slice none 0 0, .string ByteArray.empty], []⟩).memory Tryd.f9.params.toList Rows.objecttreeProvesSpec.vars false #[Value.slice none 0 0, .string ByteArray.empty].toList 8 = some ([.nil, .lit (.string [])], [], places) :=
  ⟨[], by kernel_rfl⟩
set_option maxRecDepth 100000 in
theorem lifted (os : Os) (started : os.Started) (H : Type) (enc : TypeId × Value → H) (F : Stop.Interp) :
    ReturnsInHanded {} Tryd.checked os 9 .any ((OpenSpec.ofChange Rows.objecttreeProvesSpec).preRow enc Tryd.prog Tryd.f9 Rows.objecttreeProvesRow.domain false Rows.objecttreeProvesRow.laid) (((OpenSpec.ofChange Rows.objecttreeProvesSpec).at F).post enc Tryd.prog Tryd.f9 false true false false) := by
  obtain ⟨places, hx⟩ := reads os enc
  refine returnsInHanded_of_row (C := Tryd.checked) (s := OpenSpec.ofChange Rows.objecttreeProvesSpec) own started (by kernel_rfl) Tryd.func9
    (witness_row_at (enc := enc) (C := Tryd.checked) false (laidWorld os) #[.slice none 0 0, .string ByteArray.empty] rfl (by kernel_rfl) (by kernel_rfl) (by kernel_rfl)
      (OpenSpec.preRow_of_cond 8 hx (by kernel_rfl) (fun k hk => by cases hk) (by kernel_rfl) (laid_met os))) ?_
  intro W base args ds gs before hval hW _ _ _ hL _ _
  exact contract H enc W base args ds gs before hval hW hL
theorem said : Rows.ObjecttreeProvesSaid :=
  OpenClaim.holds_of_cond 9 Tryd.f9 rfl rfl rfl rfl rfl rfl rfl ⟨rfl, rfl, rfl, rfl, rfl⟩ rfl rfl rfl rfl rfl (by kernel_rfl) Tryd.func9 (by kernel_rfl)
    (of_decide_eq_true (by kernel_rfl)) (by unfold Func.isWrapper; first | (rw [if_pos (by decide +kernel)]; kernel_rfl) | (rw [if_neg (by decide +kernel)]; exact ⟨rfl, rfl⟩))
    (fun os started H enc _ F => by rw [OpenClaim.pre_eq_preRow]; exact lifted os started H enc F)
theorem plain (f : FuncId) (fn : Func) (hf : Tryd.pinned.checked.prog.funcNamed "plexus/plexuslaw40.ObjecttreeProves" = some f) (hfn : Tryd.pinned.checked.prog.funcs[f]? = some fn) :
    false = Tryd.pinned.checked.prog.looks [] ∧ ∀ (j : Nat) t, fn.params[j]? = some t → Tryd.pinned.checked.prog.wantsStandIn t = false := by
  obtain rfl : f = 9 := Option.some.inj ((show Tryd.prog.funcNamed "plexus/plexuslaw40.ObjecttreeProves" = some 9 by kernel_rfl).symm.trans hf) |>.symm
  obtain rfl : fn = Tryd.f9 := (Option.some.inj (Tryd.func9.symm.trans hfn)).symm
  refine ⟨by kernel_rfl, fun j t ht => ?_⟩
  rw [Tryd.params9] at ht
  have hm : t = 22 ∨ t = 9 := by simpa using Array.mem_of_getElem? ht
  rcases hm with rfl | rfl
  · exact (show Tryd.prog.wantsStandIn 22 = false by kernel_rfl)
  · exact (show Tryd.prog.wantsStandIn 9 = false by kernel_rfl)
/-- The card. -/
theorem card : Rows.ObjecttreeProvesCardSaid :=
  Claim7.holds_tied_plain_at .later [] _ _ _ _ said (fun _ h => by cases h) (by kernel_rfl) (fun _ h => by cases h) objecttreeProves_row_tie rfl ⟨rfl, rfl⟩ (by kernel_rfl) rfl plain (by kernel_rfl)
#print axioms card
end Go.Proofs.YthoaenpbmmjokaaDoor.objecttreeProves
