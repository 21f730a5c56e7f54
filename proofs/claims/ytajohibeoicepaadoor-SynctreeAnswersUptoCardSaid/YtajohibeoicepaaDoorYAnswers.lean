/-
  For all states and all lists of digests, Answer returns the specified digests and commands.
-/
import Derived.Test.YtajohibeoicepaaDoorSyArg
import Derived.Test.YtajohibeoicepaaDoorSyAwk
import Derived.Test.YtajohibeoicepaaDoorSySta
import Derived.Test.YtajohibeoicepaaDoorSyRAns
namespace Go.Proofs.YtajohibeoicepaaDoor.synctreeAnswers
open Go.ChangeShapes Go.WideShapes Go.ChangeAt Go.RowKit Go.Pl
theorem ansF_mem {l : List Sy.Cm} {ds : List Sy.Dg} {x : Sy.Cm} (h : x ∈ Sy.ansFs l ds) : x ∈ l := by
  simp only [Sy.ansFs, List.mem_flatMap] at h
  obtain ⟨d, -, h⟩ := h
  unfold Sy.ansF at h
  split at h
  · split at h
    · exact Sy.part_sub h
    · split at h
      · cases h
      · split at h
        · exact Sy.part_sub h
        · cases h
  · cases h
set_option maxRecDepth 100000 in
set_option maxHeartbeats 2000000 in
theorem walk (w : World) (hK : Kst w) {A Q : Option Addr} {n c qn qc : Nat} {l : List Sy.Cm} {ds : List Sy.Dg} (hs : RdE lCm w (fun _ => True) A n c l) (hz : ∀ x ∈ l, Sy.csz x ≤ 30000000) (hq : RdE lDg w (fun _ => True) Q qn qc ds) (hqn : qn ≤ 1048576) (hpn : ∀ d ∈ ds, d.pre.length ≤ 1048576) :
    Calls Tryd.prog 6 #[.slice A n c, .slice Q qn qc] w fun e w' => e = .returned (.bool true) ∧ Below w.heap.size w w' := by
  have upS : Hid (∀ w', Below w.heap.size w w' → RdE lCm w' (fun i => i < w'.heap.size) A n c l) := fun w' h => (hs.fr (Fr.of_below (F := fun _ => False) h) (fun _ _ h => h)).mono (fun i hi _ => hi)
  have upQ : Hid (∀ w', Below w.heap.size w w' → RdE lDg w' (fun i => i < w'.heap.size) Q qn qc ds) := fun w' h => (hq.fr (Fr.of_below (F := fun _ => False) h) (fun _ _ h => h)).mono (fun i hi _ => hi)
  have upK : Hid (∀ w', Below w.heap.size w w' → Kst w') := fun w' h => hK.below h hK.pos
  have hzd := Lib.hid hz
  have hnl := Lib.hid hs.len
  have hql := Lib.hid hq.len
  have hpnd : Hid (∀ d ∈ ds, d.pre.length ≤ 9000000) := fun d h => Nat.le_trans (hpn d h) (by decide)
  clear hs hq hK hz hpn
  go_enter Tryd.func6, Tryd.ntmps6
  go_wp2_with fail
  refine (awake_any w (upK.out w (Below.refl _ _))).mono ?_
  rintro e w1 ⟨rfl, hb1⟩
  have hb1d := Lib.hid hb1
  clear hb1
  go_wp2_with fail
  by_cases hS : Sy.State l
  · refine (state_any l w1 ((upS.out _ hb1d.out).mono (fun _ _ _ => trivial)) hzd.out true ⟨fun _ => hS, fun _ => rfl⟩).mono ?_
    rintro e w2 ⟨rfl, hb2⟩
    have hb2d : Hid (Below w.heap.size w w2) := hb1d.out.trans (hb2.mono hb1d.out.size)
    have hn : Hid (n ≤ 16) := by have := hS.1; have := hnl.out; show _ ≤ _; omega
    clear hb2 hS
    by_cases h20 : qn ≤ 20
    · have h20I : ¬ (20 : Int) < (qn : Int) := by omega
      have h20d : decide ((20 : Int) < (qn : Int)) = false := decide_eq_false h20I
      go_wp2_with fail
      go_loopw [5] (fun t wv => ∃ k : Nat, k ≤ qn ∧ t = .int .i64 k ∧ wv = w2) (fun t _ => qn - (intOf t).toNat)
      case atStart => exact ⟨0, Nat.zero_le _, rfl, rfl⟩
      case round =>
        obtain ⟨k, hk, rfl, rfl⟩ := hrel
        by_cases hlt : k < qn
        · have hkl : k < ds.length := by have := hql.out; omega
          obtain ⟨x, hx⟩ : ∃ x, ds[k]? = some x := ⟨_, List.getElem?_eq_getElem hkl⟩
          obtain ⟨b, o, A1, m1, c1, B1, m2, d1, rfl, hbl, hr1, hr2, hg⟩ := dg_at (upQ.out wr hb2d.out) hx
          have e0 : wr.cell? ⟨b, o + k * 3, none⟩ = some (.slice A1 m1 c1) := hg 0 _ rfl
          clear hx hkl hbl hr1 hr2 hg
          by_cases h40 : m1 ≤ 40
          · have h40I : ¬ (40 : Int) < (m1 : Int) := by omega
            go_wp2_with fail
            go_roundw
            case rel => exact ⟨k + 1, by omega, by go_num, trivial⟩
            case measure => simp [intOf]; omega
          · have h40I : (40 : Int) < (m1 : Int) := by omega
            go_wp2_with fail
            go_returns
            exact ⟨rfl, hb2d.out⟩
        · go_wp2_with fail
          refine (answer_any wr (upK.out _ hb2d.out) (upS.out _ hb2d.out) hn.out hzd.out (upQ.out _ hb2d.out) (by omega) hpnd.out).mono ?_
          rintro e w3 ⟨A3, n3, c3, B3, m3, d3, rfl, hm3, hf3, hb3⟩
          have hb3d : Hid (Below w.heap.size w w3) := hb2d.out.trans (hb3.mono hb2d.out.size)
          have hm3d := Lib.hid hm3
          have hf3d := Lib.hid hf3
          clear hm3 hf3 hb3
          go_wp2_with fail
          refine (ranswer_any w3 (upS.out _ hb3d.out) hn.out hzd.out (upQ.out _ hb3d.out) (by omega) hpnd.out).mono ?_
          rintro e w4 ⟨A4, n4, c4, B4, m4, d4, rfl, hm4, hf4, hb4⟩
          have hb34 : Hid (Ab w3 w4) := hb4
          have hb4d : Hid (Below w.heap.size w w4) := hb3d.out.trans (hb4.mono hb3d.out.size)
          have hm4d := Lib.hid hm4
          have hf4d := Lib.hid hf4
          have hn3 : Hid (n3 ≤ 100000000 ∧ m3 ≤ 1000000) := by
            have h1 := hm3d.out.len
            have h2 := Sy.ansMs_len l ds
            have h3 := hf3d.out.len
            have h4 := Sy.ansFs_len l ds
            have h5 := hql.out
            have h6 : l.length * ds.length ≤ 16 * ds.length := Nat.mul_le_mul_right _ (by have := hnl.out; have := hn.out; omega)
            show _ ∧ _
            omega
          clear hm4 hf4 hb4
          go_wp2_with fail
          refine (digests_any (Sy.ansMs l ds) w4 ((hm3d.out.fr (Fr.of_below (F := fun _ => False) hb34.out) (fun _ _ h => h)).mono (fun _ _ _ => trivial)) (hm4d.out.mono (fun _ _ _ => trivial)) hn3.out.1).mono ?_
          rintro e w5 ⟨rfl, hb5⟩
          have hb45 : Hid (Ab w4 w5) := hb5
          have hb5d : Hid (Below w.heap.size w w5) := hb4d.out.trans (hb5.mono hb4d.out.size)
          clear hb5
          go_wp2_with fail
          have hzf : ∀ x ∈ Sy.ansFs l ds, Sy.csz x ≤ 30000000 := fun x hx => hzd.out x (ansF_mem hx)
          have hsl := slist_any (Sy.ansFs l ds) (Sy.ansFs l ds) w5 (((hf3d.out.fr (Fr.of_below (F := fun _ => False) hb34.out) (fun _ _ h => h)).fr (Fr.of_below (F := fun _ => False) hb45.out) (fun _ _ h => h)).mono (fun _ _ _ => trivial)) ((hf4d.out.fr (Fr.of_below (F := fun _ => False) hb45.out) (fun _ _ h => h)).mono (fun _ _ _ => trivial)) hn3.out.2 hzf hzf
          rw [show ((Sy.ansFs l ds).map Sy.enc == (Sy.ansFs l ds).map Sy.enc) = true by simp] at hsl
          refine hsl.mono ?_
          rintro e w6 ⟨rfl, hb6⟩
          have hb6d : Hid (Below w.heap.size w w6) := hb5d.out.trans (hb6.mono hb5d.out.size)
          clear hb6 hsl hzf
          go_wp2_with fail
          go_returns
          exact ⟨rfl, hb6d.out⟩
    · have h20I : (20 : Int) < (qn : Int) := by omega
      have h20d : decide ((20 : Int) < (qn : Int)) = true := decide_eq_true h20I
      go_wp2_with fail
      go_returns
      exact ⟨rfl, hb2d.out⟩
  · refine (state_any l w1 ((upS.out _ hb1d.out).mono (fun _ _ _ => trivial)) hzd.out false ⟨fun h => (by cases h), fun h => (hS h).elim⟩).mono ?_
    rintro e w2 ⟨rfl, hb2⟩
    have hb2d : Hid (Below w.heap.size w w2) := hb1d.out.trans (hb2.mono hb1d.out.size)
    clear hb2
    go_wp2_with fail
    go_returns
    exact ⟨rfl, hb2d.out⟩
theorem table {W : World} (h : laidMetH Tryd.prog Rows.synctreeAnswersUptoRow.laid W) : Lib.TabIs Tryd.prog W "plexus/sha256.constants" .u32 (Sha.K.map fun (n : Nat) => (n : Int)) :=
  Lib.tabIs_of_head (rest := []) gTab gTabType Tryd.underlying90 Tryd.underlying75 cellsWord cellsTab h
theorem contract (H : Type) (enc : TypeId × Value → H) (W : World) (base : Nat) (args : Array Value) (ds gs : List (DataW H)) (before : List MemPlace)
    (hval : ∀ (j : Nat) t v, Tryd.f6.params[j]? = some t → args[j]? = some v → Value.okWide Tryd.prog W .any base t v)
    (hW : DataW.Whole enc Tryd.prog Tryd.f6.params.toList Rows.synctreeAnswersSpec.vars false W args.toList ds gs before) (hbk : Rows.uptoSmall H (ds ++ gs) = true) (hL : laidMetH Tryd.prog Rows.synctreeAnswersUptoRow.laid W) :
    Calls Tryd.prog 6 args W fun e W' => ∃ v, e = .returned v ∧ Rows.synctreeAnswersSpec.post enc Tryd.prog Tryd.f6 false true false false W args v W' := by
  have hW' := hW
  obtain ⟨p, q, hA0, hV, rfl, hfz, hnd⟩ := hW
  have hA : DataW.TrodAll enc Tryd.prog W 0 (fun _ => true) true Tryd.f6.params.toList args.toList ds p := hA0
  rw [Tryd.params6] at hA hval
  obtain ⟨v0, vs0, d0, ds0, p0, q0, hargs, rfl, rfl, h0, r0⟩ := trodAll_cons hA
  obtain ⟨v1, vs1, d1, ds1, p1, q1, rfl, rfl, rfl, h1, r1⟩ := trodAll_cons r0
  obtain ⟨rfl, rfl, rfl⟩ := trodAll_nil r1
  obtain rfl : args = #[v0, v1] := by cases args; simp_all
  obtain ⟨rfl, rfl⟩ := trodVars_none hV
  have hbk1 := of_decide_eq_true hbk
  simp only [List.append_nil, Rows.uptoBulkAll] at hbk1
  obtain ⟨a0, len0, cap0, rfl⟩ := okWide_slice Tryd.underlying22 (hval 0 22 v0 rfl rfl)
  obtain ⟨a1, len1, cap1, rfl⟩ := okWide_slice Tryd.underlying33 (hval 1 33 v1 rfl rfl)
  have k0 := h0
  have lt0 : ∀ x ∈ p0, x.block < W.heap.size := by obtain ⟨m, hm⟩ := k0; exact DataW.trod_lt m _ _ _ hm
  obtain ⟨l0, hr0, hz0⟩ := cmds_in h0 (by omega)
  have k1 := h1
  have lt1 : ∀ x ∈ p1, x.block < W.heap.size := by obtain ⟨m, hm⟩ := k1; exact DataW.trod_lt m _ _ _ hm
  obtain ⟨l1, hr1, hn1, hz1⟩ := digs_in h1 (by omega)
  clear hA0
  refine (walk W (kst_of_tab (table hL)) hr0 hz0 hr1 hn1 hz1).mono fun e W' ⟨he, bel⟩ => ?_
  subst he
  exact ⟨_, rfl, _, _, _, [], _, [], hW', trodAll_mk1 (shut_bool Tryd.underlying4 _), (trodAll_cons_mk (Below.trod laidOut (by kernel_rfl) (of_decide_eq_true (by kernel_rfl)) k0 bel lt0) (trodAll_cons_mk (Below.trod laidOut (by kernel_rfl) (of_decide_eq_true (by kernel_rfl)) k1 bel lt1) trodAll_mk0)), rfl, bel.frame _, fun h => by cases h⟩
theorem laid_met (os : Os) : laidMet Tryd.prog Rows.synctreeAnswersUptoRow.laid ((laidWorld os).forCall (fun _ _ => 0) ⟨#[], #[.slice none 0 0, .slice none 0 0], []⟩).memory :=
  laidMet_of_run' 8 (by kernel_rfl) (by kernel_rfl)
theorem reads (os : Os) {H : Type} (enc : TypeId × Value → H) : ∃ places, DataW.whole enc Tryd.prog ((laidWorld os).forCall (fun _ _ => 0) ⟨#[], #[.slice none 0 0, .slice none 0 0], []⟩).memory Tryd.f6.params.toList Rows.synctreeAnswersSpec.vars false #[Value.slice none 0 0, .slice none 0 0].toList 8 = some ([.nil, .nil], [], places) :=
  ⟨[], by kernel_rfl⟩
set_option maxRecDepth 100000 in
theorem lifted (os : Os) (started : os.Started) (H : Type) (enc : TypeId × Value → H) (F : Stop.Interp) :
    ReturnsInHanded {} Tryd.checked os 6 .any ((Rows.OpenSpec.upto Rows.synctreeAnswersSpec).preRow enc Tryd.prog Tryd.f6 Rows.synctreeAnswersUptoRow.domain false Rows.synctreeAnswersUptoRow.laid) (((Rows.OpenSpec.upto Rows.synctreeAnswersSpec).at F).post enc Tryd.prog Tryd.f6 false true false false) := by
  obtain ⟨places, hx⟩ := reads os enc
  refine returnsInHanded_of_row (C := Tryd.checked) (s := (Rows.OpenSpec.upto Rows.synctreeAnswersSpec)) own started (by kernel_rfl) Tryd.func6
    (witness_row_at (enc := enc) (C := Tryd.checked) false (laidWorld os) #[.slice none 0 0, .slice none 0 0] rfl (by kernel_rfl) (by kernel_rfl) (by kernel_rfl)
      (OpenSpec.preRow_of_cond 8 hx (by kernel_rfl) (fun k hk => by cases hk; kernel_rfl) (by kernel_rfl) (laid_met os))) ?_
  intro W base args ds gs before hval hW _ hcond _ hL _ _
  exact contract H enc W base args ds gs before hval hW (hcond _ rfl) hL
theorem said : Rows.SynctreeAnswersUptoSaid :=
  OpenClaim.holds_of_cond 6 Tryd.f6 rfl rfl rfl rfl rfl rfl rfl ⟨rfl, rfl, rfl, rfl, rfl⟩ rfl rfl rfl rfl rfl (by kernel_rfl) Tryd.func6 (by kernel_rfl)
    (of_decide_eq_true (by kernel_rfl)) (by unfold Func.isWrapper; first | (rw [if_pos (by decide +kernel)]; kernel_rfl) | (rw [if_neg (by decide +kernel)]; exact ⟨rfl, rfl⟩))
    (fun os started H enc _ F => by rw [OpenClaim.pre_eq_preRow]; exact lifted os started H enc F)
theorem plain (f : FuncId) (fn : Func) (hf : Tryd.pinned.checked.prog.funcNamed "plexus/plexuslaw45.SynctreeAnswers" = some f) (hfn : Tryd.pinned.checked.prog.funcs[f]? = some fn) :
    false = Tryd.pinned.checked.prog.looks [] ∧ ∀ (j : Nat) t, fn.params[j]? = some t → Tryd.pinned.checked.prog.wantsStandIn t = false := by
  obtain rfl : f = 6 := Option.some.inj ((show Tryd.prog.funcNamed "plexus/plexuslaw45.SynctreeAnswers" = some 6 by kernel_rfl).symm.trans hf) |>.symm
  obtain rfl : fn = Tryd.f6 := (Option.some.inj (Tryd.func6.symm.trans hfn)).symm
  refine ⟨by kernel_rfl, fun j t ht => ?_⟩
  rw [Tryd.params6] at ht
  have hm : t = 22 ∨ t = 33 := by simpa using Array.mem_of_getElem? ht
  rcases hm with rfl | rfl
  · exact (show Tryd.prog.wantsStandIn 22 = false by kernel_rfl)
  · exact (show Tryd.prog.wantsStandIn 33 = false by kernel_rfl)
/-- The card. -/
theorem card : Rows.SynctreeAnswersUptoCardSaid :=
  Claim7.holds_tied_plain_at .later [] _ _ _ _ said (fun _ h => by cases h) (by kernel_rfl) (fun _ h => by cases h) synctreeAnswersUpto_row_tie rfl ⟨rfl, rfl⟩ (by kernel_rfl) rfl plain (by kernel_rfl)
#print axioms card
end Go.Proofs.YtajohibeoicepaaDoor.synctreeAnswers
