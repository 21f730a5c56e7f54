/-
  What a module signs is verified by every module with the same secret; any other tag is refused.
-/
import Derived.Test.YtlofgcglnpjceaaDoorHead
import Derived.Test.YtlofgcglnpjceaaDoorShort
import Derived.Test.YtlofgcglnpjceaaDoorArg
namespace Go.Proofs.YtlofgcglnpjceaaDoor.keyedShared
open Go.ChangeShapes Go.WideShapes Go.ChangeAt Go.RowKit Go.Pl
set_option maxRecDepth 100000 in
set_option maxHeartbeats 4000000 in
theorem walk {A1 A2 A3 : Option Addr} {n1 c1 n2 c2 n3 c3 : Nat} {k m tg : List UInt8} (w : World) (hK : Kst w) (h1 : Rd w (fun _ => True) A1 n1 c1 k) (p : Int) (hp : I64 p) (q : Int) (_hq : I64 q) (x : Int) (hx : I64 x) (r : Int) (_hr : I64 r) (h2 : Rd w (fun _ => True) A2 n2 c2 m) (h3 : Rd w (fun _ => True) A3 n3 c3 tg) :
    Calls Tryd.prog 6 #[.slice A1 n1 c1, .int .i64 p, .int .i64 q, .int .i64 x, .int .i64 r, .slice A2 n2 c2, .slice A3 n3 c3] w fun e w' => e = .returned (.bool true) ∧ Below w.heap.size w w' := by
  have hl1 := Lib.hid h1.len
  have hl2 := Lib.hid h2.len
  have hKp := hK.pos
  have hR1 : Hid (Rd w (fun i => i < w.heap.size) A1 n1 c1 k) := h1.mono (fun i hi _ => hi)
  have hR2 : Hid (Rd w (fun i => i < w.heap.size) A2 n2 c2 m) := h2.mono (fun i hi _ => hi)
  have hR3 : Hid (Rd w (fun i => i < w.heap.size) A3 n3 c3 tg) := h3.mono (fun i hi _ => hi)
  clear h1 h2 h3
  by_cases hneg : x < 0
  · go_enter Tryd.func6, Tryd.ntmps6
    go_wp2_with fail
    refine (awake_any _ hK).mono ?_
    rintro e w1 ⟨rfl, hb1⟩
    go_wp2_with fail
    go_ret
    exact ⟨rfl, hb1⟩
  · have hx0 : Hid (0 ≤ x) := show 0 ≤ x by omega
    go_enter Tryd.func6, Tryd.ntmps6
    go_wp2_with fail
    refine (awake_any _ hK).mono ?_
    rintro e w1 ⟨rfl, hb1⟩
    go_wp2_with fail
    refine (short_any _ _ _ _ _ _ _).mono ?_
    rintro e wq ⟨rfl, rfl⟩
    by_cases hs : n1 ≤ 2000 ∧ n2 ≤ 2000
    · rw [decide_eq_true hs]
      have hk : Hid (k.length ≤ 1000000) := by show _ ≤ _; have := hl1.out; omega
      have hm : Hid (m.length ≤ 1000000) := by show _ ≤ _; have := hl2.out; omega
      clear hs hl1 hl2
      go_wp2_with fail
      refine (knew_any _ ((hR1.out.ab hb1).mono (fun _ _ _ => trivial)) hk.out p).mono ?_
      rintro e w2 ⟨G, rfl, hG, hD2, hb2'⟩
      have hb2 := hb1.trans (hb2'.mono hb1.size)
      have hGw : Hid (w.heap.size ≤ G) := by show _ ≤ _; have := hb1.size; omega
      clear hb1 hb2' hG
      go_wp2_with fail
      refine (knew_any _ ((hR1.out.ab hb2).mono (fun _ _ _ => trivial)) hk.out q).mono ?_
      rintro e w3 ⟨G2, rfl, hG2, hE3, hb3'⟩
      have hb3 := hb2.trans (hb3'.mono hb2.size)
      have hD3 := hD2.up hb3'
      have hlt := hD2.lt
      have hG2w : Hid (w.heap.size ≤ G2) := by show _ ≤ _; have := hb2.size; omega
      have hn1 : Hid (¬ G = G2) := by show ¬ _; omega
      have hn2 : Hid (¬ wq.heap.size = G2) := by show ¬ _; omega
      clear hb2 hb3' hG2 hD2 hlt
      go_wp2_with fail
      refine (raise_any hE3 r).mono ?_
      rintro e w4 ⟨rfl, hE4, hf4⟩
      have hb4 := hb3.trans (hf4.below (B := w.heap.size) (fun i e => e ▸ hG2w.out) hb3.size)
      have hD4 := hD3.fr hf4 hn1.out hn2.out
      clear hf4 hb3 hD3 hE3
      go_wp2_with fail
      refine (sign_any (hK.below hb4 hKp) hD4 ((hR2.out.ab hb4).mono (fun _ _ _ => trivial)) hk.out hm.out hp x hx0.out hx hx0.out).mono ?_
      rintro e w5 ⟨g5, n5, k5, hn5, rfl, -, hd5, hb5'⟩
      have hb5 := hb4.trans (hb5'.mono hb4.size)
      have hD5 := (hD4.up hb5').up (ab_drew w5)
      have hE5 := (hE4.up hb5').up (ab_drew w5)
      have hr5 := (hd5.rd.mono (T := fun _ => True) (fun _ _ _ => trivial)).ab (ab_drew w5)
      rw [← hn5] at hr5
      have hb6 : Below w.heap.size w w5.drew := hb5.trans ((ab_drew w5).mono hb5.size)
      clear hn5 hd5 hb5' hb4 hD4 hE4 hb5
      obtain ⟨T, hT⟩ : ∃ T, Keyed.tag (Keyed.key k p x) m = T := ⟨_, rfl⟩
      have hT' := Lib.hid hT
      rw [hT] at hr5
      clear hT
      go_wp2_with fail
      refine wp_region_plan Ab Ab.refl Ab.trans [([0, 1, 2, 3, 4, 5, 6, 7], 8), ([9, 10, 11, 12, 13, 14, 15], 16), ([17, 18, 19, 20, 21, 22, 23, 25, 26, 27, 28, 29], 24)] [30, 31, 32] (by kernel_rfl) (by kernel_rfl) (fun _ _ _ _ _ h => h) ?_
      simp only [wpPlan, ordPick, Option.toList_some, List.cons_append, List.nil_append, List.getElem?_cons_succ, List.getElem?_cons_zero]
      generalize w5.drew = w6 at hb6 hD5 hE5 hr5 ⊢
      iterate 8 (go_big_quiet_step (exact fun _ => rfl))
      refine wpQuiet_nil ?_
      go_wp2_with fail
      refine (verify_any (hK.below hb6 hKp) hD5 ((hR2.out.ab hb6).mono (fun _ _ _ => trivial)) hr5 hk.out hm.out p x hp hx).mono ?_
      rw [hT'.out]
      rintro e w7 ⟨rfl, hb7'⟩
      rw [decide_eq_true (rfl : T = T)]
      have hb7 := hb6.trans (hb7'.mono hb6.size)
      have hE7 := hE5.up hb7'
      have hr7 := hr5.ab hb7'
      clear hb6 hD5 hE5 hr5
      go_wp2_with fail
      refine And.intro hb7' ?_
      dsimp only
      iterate 7 (go_big_quiet_step (exact fun _ => rfl))
      refine wpQuiet_nil ?_
      clear hb7'
      go_wp2_with fail
      refine (verify_any (hK.below hb7 hKp) hE7 ((hR2.out.ab hb7).mono (fun _ _ _ => trivial)) hr7 hk.out hm.out p x hp hx).mono ?_
      rw [hT'.out]
      rintro e w8 ⟨rfl, hb8'⟩
      rw [decide_eq_true (rfl : T = T)]
      have hb8 := hb7.trans (hb8'.mono hb7.size)
      have hE8 := hE7.up hb8'
      have hr8 := hr7.ab hb8'
      have hs3 : ∀ w', Ab w8 w' → Bytes w' w'.heap.size (.slice A3 n3 c3) tg := fun w' h => ((hR3.out.ab hb8).ab h).all
      have hs5 : ∀ w', Ab w8 w' → Bytes w' w'.heap.size (.slice (some ⟨g5, 0, none⟩) n5 k5) T := fun w' h => (hr8.ab h).all
      clear hb7 hE7 hr7
      go_wp2_with fail
      refine And.intro hb8' ?_
      dsimp only
      iterate 8 (go_big_quiet_step (exact fun _ => rfl))
      refine wpq_string rfl 22 9 5 (.tmp 76) rfl rfl rfl rfl _ _ _ rfl _ hs3 ?_
      simp only [Act.put, List.setIfInBounds_toArray, List.set_cons_succ, List.set_cons_zero]
      go_big_quiet_step (exact fun _ => rfl)
      refine wpq_string rfl 22 9 5 (.tmp 78) rfl rfl rfl rfl _ _ _ rfl _ hs5 ?_
      simp only [Act.put, List.setIfInBounds_toArray, List.set_cons_succ, List.set_cons_zero]
      go_big_quiet_step (exact fun _ => rfl)
      refine wpQuiet_nil ?_
      clear hs3 hs5 hb8'
      go_wp2_with fail
      refine (verify_any (hK.below hb8 hKp) hE8 ((hR2.out.ab hb8).mono (fun _ _ _ => trivial)) ((hR3.out.ab hb8).mono (fun _ _ _ => trivial)) hk.out hm.out p x hp hx).mono ?_
      rw [hT'.out, ← beq_dec']
      rintro e w9 ⟨rfl, hb9'⟩
      have hb9 := hb8.trans (hb9'.mono hb8.size)
      obtain ⟨b, hb⟩ : ∃ b, (tg == T) = b := ⟨_, rfl⟩
      rw [hb]
      clear hb8 hE8 hr8
      go_wp2_with fail
      refine And.intro hb9' ?_
      dsimp only
      iterate 3 (go_big_quiet_step (exact fun _ => rfl))
      refine wpQuiet_nil ?_
      go_wp2_with fail
      go_ret
      exact ⟨rfl, hb9⟩
    · rw [decide_eq_false hs]
      go_wp2_with fail
      go_ret
      exact ⟨rfl, hb1⟩
theorem table {W : World} (h : laidMetH Tryd.prog Rows.keyedSharedRow.laid W) : Lib.TabIs Tryd.prog W "plexus/sha256.constants" .u32 (Sha.K.map fun (n : Nat) => (n : Int)) :=
  Lib.tabIs_of_head (rest := []) gTab gTabType Tryd.underlying76 Tryd.underlying63 cellsWord cellsTab h
theorem contract (H : Type) (enc : TypeId × Value → H) (W : World) (base : Nat) (args : Array Value) (ds gs : List (DataW H)) (before : List MemPlace)
    (hval : ∀ (j : Nat) t v, Tryd.f6.params[j]? = some t → args[j]? = some v → Value.okWide Tryd.prog W .any base t v)
    (hW : DataW.Whole enc Tryd.prog Tryd.f6.params.toList Rows.keyedSharedSpec.vars false W args.toList ds gs before) (hL : laidMetH Tryd.prog Rows.keyedSharedRow.laid W) :
    Calls Tryd.prog 6 args W fun e W' => ∃ v, e = .returned v ∧ Rows.keyedSharedSpec.post enc Tryd.prog Tryd.f6 false true false false W args v W' := by
  have hW' := hW
  obtain ⟨p, q, hA0, hV, rfl, hfz, hnd⟩ := hW
  have hA : DataW.TrodAll enc Tryd.prog W 0 (fun _ => true) true Tryd.f6.params.toList args.toList ds p := hA0
  rw [Tryd.params6] at hA hval
  obtain ⟨v0, vs0, d0, ds0, p0, q0, hargs, rfl, rfl, h0, r0⟩ := trodAll_cons hA
  obtain ⟨v1, vs1, d1, ds1, p1, q1, rfl, rfl, rfl, h1, r1⟩ := trodAll_cons r0
  obtain ⟨v2, vs2, d2, ds2, p2, q2, rfl, rfl, rfl, h2, r2⟩ := trodAll_cons r1
  obtain ⟨v3, vs3, d3, ds3, p3, q3, rfl, rfl, rfl, h3, r3⟩ := trodAll_cons r2
  obtain ⟨v4, vs4, d4, ds4, p4, q4, rfl, rfl, rfl, h4, r4⟩ := trodAll_cons r3
  obtain ⟨v5, vs5, d5, ds5, p5, q5, rfl, rfl, rfl, h5, r5⟩ := trodAll_cons r4
  obtain ⟨v6, vs6, d6, ds6, p6, q6, rfl, rfl, rfl, h6, r6⟩ := trodAll_cons r5
  obtain ⟨rfl, rfl, rfl⟩ := trodAll_nil r6
  obtain rfl : args = #[v0, v1, v2, v3, v4, v5, v6] := by cases args; simp_all
  obtain ⟨rfl, rfl⟩ := trodVars_none hV
  obtain ⟨a0, len0, cap0, rfl⟩ := okWide_slice Tryd.underlying22 (hval 0 22 v0 rfl rfl)
  obtain ⟨a5, len5, cap5, rfl⟩ := okWide_slice Tryd.underlying22 (hval 5 22 v5 rfl rfl)
  obtain ⟨a6, len6, cap6, rfl⟩ := okWide_slice Tryd.underlying22 (hval 6 22 v6 rfl rfl)
  have k0 := h0
  have lt0 : ∀ x ∈ p0, x.block < W.heap.size := by obtain ⟨m, hm⟩ := k0; exact DataW.trod_lt m _ _ _ hm
  obtain ⟨z0, w0⟩ := isRow_of_trod Tryd.underlying22 Tryd.underlying5 (by kernel_rfl) h0
  obtain ⟨bs0, hrd0⟩ := rd_of_row w0
  have k1 := h1
  have lt1 : ∀ x ∈ p1, x.block < W.heap.size := by obtain ⟨m, hm⟩ := k1; exact DataW.trod_lt m _ _ _ hm
  obtain ⟨n1, rfl, -, -, z1⟩ := open_int Tryd.underlying3 (hval 1 3 v1 rfl rfl) h1
  have k2 := h2
  have lt2 : ∀ x ∈ p2, x.block < W.heap.size := by obtain ⟨m, hm⟩ := k2; exact DataW.trod_lt m _ _ _ hm
  obtain ⟨n2, rfl, -, -, z2⟩ := open_int Tryd.underlying3 (hval 2 3 v2 rfl rfl) h2
  have k3 := h3
  have lt3 : ∀ x ∈ p3, x.block < W.heap.size := by obtain ⟨m, hm⟩ := k3; exact DataW.trod_lt m _ _ _ hm
  obtain ⟨n3, rfl, -, -, z3⟩ := open_int Tryd.underlying3 (hval 3 3 v3 rfl rfl) h3
  have k4 := h4
  have lt4 : ∀ x ∈ p4, x.block < W.heap.size := by obtain ⟨m, hm⟩ := k4; exact DataW.trod_lt m _ _ _ hm
  obtain ⟨n4, rfl, -, -, z4⟩ := open_int Tryd.underlying3 (hval 4 3 v4 rfl rfl) h4
  have k5 := h5
  have lt5 : ∀ x ∈ p5, x.block < W.heap.size := by obtain ⟨m, hm⟩ := k5; exact DataW.trod_lt m _ _ _ hm
  obtain ⟨z5, w5⟩ := isRow_of_trod Tryd.underlying22 Tryd.underlying5 (by kernel_rfl) h5
  obtain ⟨bs5, hrd5⟩ := rd_of_row w5
  have k6 := h6
  have lt6 : ∀ x ∈ p6, x.block < W.heap.size := by obtain ⟨m, hm⟩ := k6; exact DataW.trod_lt m _ _ _ hm
  obtain ⟨z6, w6⟩ := isRow_of_trod Tryd.underlying22 Tryd.underlying5 (by kernel_rfl) h6
  obtain ⟨bs6, hrd6⟩ := rd_of_row w6
  clear hA0
  refine (walk W (kst_of_tab (table hL)) hrd0 n1 (bounds_i64 z1) n2 (bounds_i64 z2) n3 (bounds_i64 z3) n4 (bounds_i64 z4) hrd5 hrd6).mono fun e W' ⟨he, bel⟩ => ?_
  subst he
  exact ⟨_, rfl, _, _, _, [], _, [], hW', trodAll_mk1 (shut_bool Tryd.underlying4 _), (trodAll_cons_mk (Below.trod laidOut (by kernel_rfl) (of_decide_eq_true (by kernel_rfl)) k0 bel lt0) (trodAll_cons_mk (Below.trod laidOut (by kernel_rfl) (of_decide_eq_true (by kernel_rfl)) k1 bel lt1) (trodAll_cons_mk (Below.trod laidOut (by kernel_rfl) (of_decide_eq_true (by kernel_rfl)) k2 bel lt2) (trodAll_cons_mk (Below.trod laidOut (by kernel_rfl) (of_decide_eq_true (by kernel_rfl)) k3 bel lt3) (trodAll_cons_mk (Below.trod laidOut (by kernel_rfl) (of_decide_eq_true (by kernel_rfl)) k4 bel lt4) (trodAll_cons_mk (Below.trod laidOut (by kernel_rfl) (of_decide_eq_true (by kernel_rfl)) k5 bel lt5) (trodAll_cons_mk (Below.trod laidOut (by kernel_rfl) (of_decide_eq_true (by kernel_rfl)) k6 bel lt6) trodAll_mk0))))))), rfl, bel.frame _, fun h => by cases h⟩
theorem laid_met (os : Os) : laidMet Tryd.prog Rows.keyedSharedRow.laid ((laidWorld os).forCall (fun _ _ => 0) ⟨#[], #[.slice none 0 0, .int .i64 0, .int .i64 0, .int .i64 0, .int .i64 0, .slice none 0 0, .slice none 0 0], []⟩).memory :=
  laidMet_of_run' 8 (by kernel_rfl) (by kernel_rfl)
theorem reads (os : Os) {H : Type} (enc : TypeId × Value → H) : ∃ places, DataW.whole enc Tryd.prog ((laidWorld os).forCall (fun _ _ => 0) ⟨#[], #[.slice none 0 0, .int .i64 0, .int .i64 0, .int .i64 0, .int .i64 0, .slice none 0 0, .slice none 0 0], []⟩).memory Tryd.f6.params.toList Rows.keyedSharedSpec.vars false #[Value.slice none 0 0, .int .i64 0, .int .i64 0, .int .i64 0, .int .i64 0, .slice none 0 0, .slice none 0 0].toList 8 = some ([.nil, .lit (.int .i64 0), .lit (.int .i64 0), .lit (.int .i64 0), .lit (.int .i64 0), .nil, .nil], [], places) :=
  ⟨[], by kernel_rfl⟩
set_option maxRecDepth 100000 in
theorem lifted (os : Os) (started : os.Started) (H : Type) (enc : TypeId × Value → H) (F : Stop.Interp) :
    ReturnsInHanded {} Tryd.checked os 6 .any ((OpenSpec.ofChange Rows.keyedSharedSpec).preRow enc Tryd.prog Tryd.f6 Rows.keyedSharedRow.domain false Rows.keyedSharedRow.laid) (((OpenSpec.ofChange Rows.keyedSharedSpec).at F).post enc Tryd.prog Tryd.f6 false true false false) := by
  obtain ⟨places, hx⟩ := reads os enc
  refine returnsInHanded_of_row (C := Tryd.checked) (s := OpenSpec.ofChange Rows.keyedSharedSpec) own started (by kernel_rfl) Tryd.func6
    (witness_row_at (enc := enc) (C := Tryd.checked) false (laidWorld os) #[.slice none 0 0, .int .i64 0, .int .i64 0, .int .i64 0, .int .i64 0, .slice none 0 0, .slice none 0 0] rfl (by kernel_rfl) (by kernel_rfl) (by kernel_rfl)
      (OpenSpec.preRow_of_cond 8 hx (by kernel_rfl) (fun k hk => by cases hk) (by kernel_rfl) (laid_met os))) ?_
  intro W base args ds gs before hval hW _ _ _ hL _ _
  exact contract H enc W base args ds gs before hval hW hL
theorem said : Rows.KeyedSharedSaid :=
  OpenClaim.holds_of_cond 6 Tryd.f6 rfl rfl rfl rfl rfl rfl rfl ⟨rfl, rfl, rfl, rfl, rfl⟩ rfl rfl rfl rfl rfl (by kernel_rfl) Tryd.func6 (by kernel_rfl)
    (of_decide_eq_true (by kernel_rfl)) (by unfold Func.isWrapper; first | (rw [if_pos (by decide +kernel)]; kernel_rfl) | (rw [if_neg (by decide +kernel)]; exact ⟨rfl, rfl⟩))
    (fun os started H enc _ F => by rw [OpenClaim.pre_eq_preRow]; exact lifted os started H enc F)
theorem plain (f : FuncId) (fn : Func) (hf : Tryd.pinned.checked.prog.funcNamed "plexus/plexuslaw05.KeyedShared" = some f) (hfn : Tryd.pinned.checked.prog.funcs[f]? = some fn) :
    false = Tryd.pinned.checked.prog.looks [] ∧ ∀ (j : Nat) t, fn.params[j]? = some t → Tryd.pinned.checked.prog.wantsStandIn t = false := by
  obtain rfl : f = 6 := Option.some.inj ((show Tryd.prog.funcNamed "plexus/plexuslaw05.KeyedShared" = some 6 by kernel_rfl).symm.trans hf) |>.symm
  obtain rfl : fn = Tryd.f6 := (Option.some.inj (Tryd.func6.symm.trans hfn)).symm
  refine ⟨by kernel_rfl, fun j t ht => ?_⟩
  rw [Tryd.params6] at ht
  have hm : t = 22 ∨ t = 3 ∨ t = 3 ∨ t = 3 ∨ t = 3 ∨ t = 22 ∨ t = 22 := by simpa using Array.mem_of_getElem? ht
  rcases hm with rfl | rfl | rfl | rfl | rfl | rfl | rfl
  · exact (show Tryd.prog.wantsStandIn 22 = false by kernel_rfl)
  · exact (show Tryd.prog.wantsStandIn 3 = false by kernel_rfl)
  · exact (show Tryd.prog.wantsStandIn 3 = false by kernel_rfl)
  · exact (show Tryd.prog.wantsStandIn 3 = false by kernel_rfl)
  · exact (show Tryd.prog.wantsStandIn 3 = false by kernel_rfl)
  · exact (show Tryd.prog.wantsStandIn 22 = false by kernel_rfl)
  · exact (show Tryd.prog.wantsStandIn 22 = false by kernel_rfl)
/-- The card. -/
theorem card : Rows.KeyedSharedCardSaid :=
  Claim7.holds_tied_plain_at .later [] _ _ _ _ said (fun _ h => by cases h) (by kernel_rfl) (fun _ h => by cases h) keyedShared_row_tie rfl ⟨rfl, rfl⟩ (by kernel_rfl) rfl plain (by kernel_rfl)
#print axioms card
end Go.Proofs.YtlofgcglnpjceaaDoor.keyedShared
