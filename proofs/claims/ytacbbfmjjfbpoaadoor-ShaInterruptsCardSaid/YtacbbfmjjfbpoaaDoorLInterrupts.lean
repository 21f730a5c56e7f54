/-
  Between the writes, Sum returns the digest of what has been written so far, and has no effect on what follows.
-/
import Derived.Test.YtacbbfmjjfbpoaaDoorJoined
namespace Go.Proofs.YtacbbfmjjfbpoaaDoor.shaInterrupts
open Go.ChangeShapes Go.WideShapes Go.ChangeAt Go.RowKit Go.Pl
set_option maxRecDepth 100000 in
set_option maxHeartbeats 4000000 in
theorem walk {A : Option Addr} {n c : Nat} {xs : List (List UInt8)} (w : World) (hK : Kst w) (hA : RdR w (fun _ => True) A n c xs) :
    Calls Tryd.prog 5 #[.slice A n c] w fun e w' => e = .returned (.bool true) ∧ Below w.heap.size w w' := by
  have hn' : Hid (n = xs.length) := hA.len
  have hA' : RdR w (fun i => i < w.heap.size) A n c xs := hA.mono (fun i hi _ => hi)
  have hnm : n ≤ maxLen := by have := hA.le; have := hA.max; omega
  unfold maxLen at hnm
  clear hA
  have hKp := hK.pos
  go_enter Tryd.func5, Tryd.ntmps5
  go_wp2_with fail
  refine (awake_any _ hK).mono ?_
  rintro e w1 ⟨rfl, hb1⟩
  have hA1 := hA'.up hb1
  have hK1 := hK.below hb1 hKp
  go_wp2_with fail
  refine (joined_any _ (hA1.mono (T := fun _ => True) (fun _ _ _ => trivial))).mono ?_
  rintro e w2 ⟨hb2, rfl | ⟨A2, c2, rfl, hJl, ho2⟩⟩
  · go_wp2_with fail
    go_ret
    exact ⟨rfl, hb1.trans (hb2.mono hb1.size)⟩
  have hb2a := hb1.trans (hb2.mono hb1.size)
  by_cases h100 : 100 < n
  · go_wp2_with fail
    go_ret
    exact ⟨rfl, hb2a⟩
  have h100' : n ≤ 100 := by omega
  clear h100
  have hA2 := hA1.up hb2
  have hK2 := hK.below hb2a hKp
  have hlt2 := ho2.lt
  obtain ⟨J, hJ'⟩ : ∃ J, xs.flatten = J := ⟨_, rfl⟩
  rw [hJ'] at ho2 hJl hlt2
  have hJ : Hid (xs.flatten = J) := hJ'
  rw [hJ']
  clear hJ' hA1 hK1
  have hsz1 := hb1.size
  have hsz2 := hb2.size
  go_wp2_with fail
  refine (new_any _).mono ?_
  rintro e w3 ⟨p, rfl, hS3, hb3⟩
  have hb3a := hb2a.trans (hb3.mono hb2a.size)
  have hA3 := hA2.up hb3
  have hK3 := hK.below hb3a hKp
  have ho3 := own_below ho2 hb3
  have hsz3 := hb3.size
  clear hA2 hK2 ho2
  go_wp2_with fail
  go_loopw [6, 7] (fun t6 i wr => ∃ k : Nat, ∃ r, k ≤ n ∧ i = .int .i64 (k : Int) ∧ t6 = .int .i64 ((xs.take k).flatten.length : Int) ∧ StateAt wr w2.heap.size p (xs.take k).flatten r ∧ Below w2.heap.size w3 wr) (fun _ i _ => n - (intOf i).toNat)
  case atStart => exact ⟨0, none, Nat.zero_le _, rfl, rfl, hS3, (Below.refl _ _)⟩
  case round =>
    obtain ⟨k, r, hk, rfl, rfl, hSr, hbr⟩ := hrel
    have hb4a := hb3a.trans (hbr.mono (by omega))
    have hK4 := hK.below hb4a hKp
    have hA4 := hA3.keep hbr.size (fun q hq hS => hbr.cell (by omega))
    have hFr : ∀ w5, Below w2.heap.size w3 w5 → w5.ownsRow w1.heap.size 5 1 (.slice A2 J.length c2) J.length (J.map u8v) := fun w5 hbr => own_fr ho3 (⟨hbr.os, hbr.tape, hbr.output, hbr.size, fun i _ hn => hbr.block i (by omega)⟩ : Fr (fun i => w2.heap.size ≤ i) w3 w5) (fun g hg hF => by have := hlt2 g hg; omega)
    have HFr := Lib.hid hFr
    clear hFr
    have hp4 := hSr.1
    have hrl4 := hSr.rlt
    have hsz4 := hbr.size
    by_cases hlt : k < n
    · obtain ⟨b, o, rfl, hSb, hbl, hc⟩ := hA4.at_ (by omega)
      obtain ⟨Ar, cr, hcell, hrd⟩ := hc k hlt
      have hsucc : Hid ((xs.take (k + 1)).flatten = (xs.take k).flatten ++ xs.getD k []) := flat_take xs k (by have := hn'.out; omega)
      have hpre : Hid (J.take (xs.take (k + 1)).flatten.length = (xs.take (k + 1)).flatten) := by show _ = _; rw [← hJ.out]; exact flat_pre xs (k + 1)
      have hle : (xs.take (k + 1)).flatten.length ≤ J.length := by have := flat_le xs (k + 1); rw [hJ.out] at this; omega
      obtain ⟨Z, hZ'⟩ : ∃ Z, xs.getD k [] = Z := ⟨_, rfl⟩
      obtain ⟨O, hO'⟩ : ∃ O, (xs.take k).flatten = O := ⟨_, rfl⟩
      obtain ⟨N, hN'⟩ : ∃ N, (xs.take (k + 1)).flatten = N := ⟨_, rfl⟩
      have hsc : N = O ++ Z := by rw [← hN', hsucc.out, hO', hZ']
      rw [hZ'] at hcell hrd
      rw [hO'] at hSr
      rw [hN'] at hle
      have hpre' : Hid (J.take N.length = N) := by have := hpre.out; rw [hN'] at this; exact this
      rw [hO']
      have hN : Hid ((xs.take (k + 1)).flatten = N) := hN'
      have hNl : N.length = O.length + Z.length := by rw [hsc, List.length_append]
      have hsum : Hid (((O.length : Int) + (Z.length : Int)) = (N.length : Int)) := by show _ = _; omega
      have hOb : O.length ≤ 2000 := by omega
      have hZb : Z.length ≤ 2000 := by omega
      have hle' : O.length + Z.length ≤ 70368744177664 := by omega
      have hNb : N.length ≤ 70368744177664 := by omega
      have hsc' : Hid (O ++ Z = N) := hsc.symm
      clear hZ' hO' hN' hc hsc hNl hpre hsucc
      go_wp2_with fail
      refine (write_any _ (by omega) hK4 hSr (hrd.mono (T := fun i => i ≠ p ∧ r ≠ some i) (fun i _ h => ⟨(by omega), (fun e => by have := hrl4 i e; omega)⟩)) hle').mono ?_
      rintro e w5 ⟨rfl, r5, hS5, hf5, hr5⟩
      rw [hsc'.out] at hS5
      have hb5 := hbr.trans (hf5.below (B := w2.heap.size) (fun i h => h.elim (fun e => by omega) (fun e => (hrl4 i e).1)) (by omega))
      have hc5 : w5.cell? ⟨b, o + k, none⟩ = some (.slice Ar Z.length cr) := by rw [hf5.cell hbl (fun h => h.elim (fun e => by have : b = p := e; omega) (fun e => by have := hrl4 b e; omega))]; exact hcell
      have hb5a := hb3a.trans (hb5.mono (by omega))
      have hK5 := hK.below hb5a hKp
      have ho5 := HFr.out w5 hb5
      have hR5 := (own_rd ho5).to hle
      rw [hpre'.out] at hR5
      have hcap : N.length ≤ c2 := by have := (own_rd ho5).le; omega
      go_wp2_with ((with_reducible refine wpl_slice_to rfl 22 (.tmp 43) (.tmp 44) rfl 5 ?_ ?_ A2 J.length c2 ?_ .i64 N.length ?_ hcap ?_); rfl; kernel_rfl; rfl; exact congrArg _ hsum.out)
      rw [hsum.out]
      refine (sum_any _ hK5 (hR5.mono (T := fun _ => True) (fun _ _ _ => trivial)) hNb).mono ?_
      rintro e w6 ⟨rfl, hb6⟩
      have hS6 := hS5.below hb6
      have hb6a := hb5a.trans (hb6.mono hb5a.size)
      have hK6 := hK.below hb6a hKp
      have hb6' := hb5.trans (hb6.mono (by have := hb5.size; omega))
      go_wp2_with fail
      refine (sumst_any _ hK6 hS6 hNb).mono ?_
      rintro e w7 ⟨rfl, hb7⟩
      have hS7 := hS6.below hb7
      have hb7a := hb6a.trans (hb7.mono hb6a.size)
      have hK7 := hK.below hb7a hKp
      have hb7' := hb6'.trans (hb7.mono (by have := hb6'.size; omega))
      go_wp2_with fail
      refine (sumst_any _ hK7 hS7 hNb).mono ?_
      rintro e w8 ⟨rfl, hb8⟩
      have hS8 := hS7.below hb8
      have hb8' := hb7'.trans (hb8.mono (by have := hb7'.size; omega))
      go_wp2_with fail
      refine (len_any _ hS8).mono ?_
      rintro e w9 ⟨rfl, rfl⟩
      go_wp2_with fail
      go_roundw
      case rel => exact ⟨k + 1, r5, hlt, by go_num, by rw [hN.out], by rw [hN.out]; exact hS8, hb8'⟩
      case measure => simp [intOf]; omega
    · have hall : (xs.take k).flatten = J := by rw [flat_all xs k (by have := hn'.out; omega), hJ.out]
      rw [hall] at hSr
      have ho4 := HFr.out wr hbr
      clear hall
      go_wp2_with fail
      refine (sumst_any _ hK4 hSr (by omega)).mono ?_
      rintro e w6 ⟨rfl, hb6⟩
      have hb6a := hb4a.trans (hb6.mono hb4a.size)
      have hK6 := hK.below hb6a hKp
      have hX6 := (own_rd (own_below ho4 hb6)).mono (T := fun _ => True) (fun _ _ _ => trivial)
      go_wp2_with fail
      refine (sum_any _ hK6 hX6 (by omega)).mono ?_
      rintro e w7 ⟨rfl, hb7⟩
      have hb7a := hb6a.trans (hb7.mono hb6a.size)
      go_wp2_with fail
      go_ret
      exact ⟨rfl, hb7a⟩
theorem table {W : World} (h : laidMetH Tryd.prog Rows.shaInterruptsRow.laid W) : Lib.TabIs Tryd.prog W "plexus/sha256.constants" .u32 (Sha.K.map fun (n : Nat) => (n : Int)) :=
  Lib.tabIs_of_head (rest := []) gTab gTabType Tryd.underlying54 Tryd.underlying41 cellsWord cellsTab h
theorem contract (H : Type) (enc : TypeId × Value → H) (W : World) (base : Nat) (args : Array Value) (ds gs : List (DataW H)) (before : List MemPlace)
    (hval : ∀ (j : Nat) t v, Tryd.f5.params[j]? = some t → args[j]? = some v → Value.okWide Tryd.prog W .any base t v)
    (hW : DataW.Whole enc Tryd.prog Tryd.f5.params.toList Rows.shaInterruptsSpec.vars false W args.toList ds gs before) (hL : laidMetH Tryd.prog Rows.shaInterruptsRow.laid W) :
    Calls Tryd.prog 5 args W fun e W' => ∃ v, e = .returned v ∧ Rows.shaInterruptsSpec.post enc Tryd.prog Tryd.f5 false true false false W args v W' := by
  have hW' := hW
  obtain ⟨p, q, hA0, hV, rfl, hfz, hnd⟩ := hW
  have hA : DataW.TrodAll enc Tryd.prog W 0 (fun _ => true) true Tryd.f5.params.toList args.toList ds p := hA0
  rw [Tryd.params5] at hA hval
  obtain ⟨v0, vs0, d0, ds0, p0, q0, hargs, rfl, rfl, h0, r0⟩ := trodAll_cons hA
  obtain ⟨rfl, rfl, rfl⟩ := trodAll_nil r0
  obtain rfl : args = #[v0] := by cases args; simp_all
  obtain ⟨rfl, rfl⟩ := trodVars_none hV
  obtain ⟨a0, len0, cap0, rfl⟩ := okWide_slice Tryd.underlying26 (hval 0 26 v0 rfl rfl)
  have k0 := h0
  have lt0 : ∀ x ∈ p0, x.block < W.heap.size := by obtain ⟨m, hm⟩ := k0; exact DataW.trod_lt m _ _ _ hm
  obtain ⟨xs0, hrr0⟩ := rows_of_trod Tryd.underlying26 Tryd.underlying22 Tryd.underlying5 (by kernel_rfl) (by kernel_rfl) h0
  clear hA0
  refine (walk W (kst_of_tab (table hL)) hrr0).mono fun e W' ⟨he, bel⟩ => ?_
  subst he
  exact ⟨_, rfl, _, _, _, [], _, [], hW', trodAll_mk1 (shut_bool Tryd.underlying4 _), (trodAll_cons_mk (Below.trod laidOut (by kernel_rfl) (of_decide_eq_true (by kernel_rfl)) k0 bel lt0) trodAll_mk0), rfl, bel.frame _, fun h => by cases h⟩
theorem laid_met (os : Os) : laidMet Tryd.prog Rows.shaInterruptsRow.laid ((laidWorld os).forCall (fun _ _ => 0) ⟨#[], #[.slice none 0 0], []⟩).memory :=
  laidMet_of_run' 8 (by kernel_rfl) (by kernel_rfl)
theorem reads (os : Os) {H : Type} (enc : TypeId × Value → H) : ∃ places, DataW.whole enc Tryd.prog ((laidWorld os).forCall (fun _ _ => 0) ⟨#[], #[.slice none 0 0], []⟩).memory Tryd.f5.params.toList Rows.shaInterruptsSpec.vars false #[Value.slice none 0 0].toList 8 = some ([.nil], [], places) :=
  ⟨[], by kernel_rfl⟩
set_option maxRecDepth 100000 in
theorem lifted (os : Os) (started : os.Started) (H : Type) (enc : TypeId × Value → H) (F : Stop.Interp) :
    ReturnsInHanded {} Tryd.checked os 5 .any ((OpenSpec.ofChange Rows.shaInterruptsSpec).preRow enc Tryd.prog Tryd.f5 Rows.shaInterruptsRow.domain false Rows.shaInterruptsRow.laid) (((OpenSpec.ofChange Rows.shaInterruptsSpec).at F).post enc Tryd.prog Tryd.f5 false true false false) := by
  obtain ⟨places, hx⟩ := reads os enc
  refine returnsInHanded_of_row (C := Tryd.checked) (s := OpenSpec.ofChange Rows.shaInterruptsSpec) own started (by kernel_rfl) Tryd.func5
    (witness_row_at (enc := enc) (C := Tryd.checked) false (laidWorld os) #[.slice none 0 0] rfl (by kernel_rfl) (by kernel_rfl) (by kernel_rfl)
      (OpenSpec.preRow_of_cond 8 hx (by kernel_rfl) (fun k hk => by cases hk) (by kernel_rfl) (laid_met os))) ?_
  intro W base args ds gs before hval hW _ _ _ hL _ _
  exact contract H enc W base args ds gs before hval hW hL
theorem said : Rows.ShaInterruptsSaid :=
  OpenClaim.holds_of_cond 5 Tryd.f5 rfl rfl rfl rfl rfl rfl rfl ⟨rfl, rfl, rfl, rfl, rfl⟩ rfl rfl rfl rfl rfl (by kernel_rfl) Tryd.func5 (by kernel_rfl)
    (of_decide_eq_true (by kernel_rfl)) (by unfold Func.isWrapper; first | (rw [if_pos (by decide +kernel)]; kernel_rfl) | (rw [if_neg (by decide +kernel)]; exact ⟨rfl, rfl⟩))
    (fun os started H enc _ F => by rw [OpenClaim.pre_eq_preRow]; exact lifted os started H enc F)
theorem plain (f : FuncId) (fn : Func) (hf : Tryd.pinned.checked.prog.funcNamed "plexus/plexuslaw03.ShaInterrupts" = some f) (hfn : Tryd.pinned.checked.prog.funcs[f]? = some fn) :
    false = Tryd.pinned.checked.prog.looks [] ∧ ∀ (j : Nat) t, fn.params[j]? = some t → Tryd.pinned.checked.prog.wantsStandIn t = false := by
  obtain rfl : f = 5 := Option.some.inj ((show Tryd.prog.funcNamed "plexus/plexuslaw03.ShaInterrupts" = some 5 by kernel_rfl).symm.trans hf) |>.symm
  obtain rfl : fn = Tryd.f5 := (Option.some.inj (Tryd.func5.symm.trans hfn)).symm
  refine ⟨by kernel_rfl, fun j t ht => ?_⟩
  rw [Tryd.params5] at ht
  have hm : t = 26 := by simpa using Array.mem_of_getElem? ht
  rcases hm with rfl
  · exact (show Tryd.prog.wantsStandIn 26 = false by kernel_rfl)
/-- The card. -/
theorem card : Rows.ShaInterruptsCardSaid :=
  Claim7.holds_tied_plain_at .later [] _ _ _ _ said (fun _ h => by cases h) (by kernel_rfl) (fun _ h => by cases h) shaInterrupts_row_tie rfl ⟨rfl, rfl⟩ (by kernel_rfl) rfl plain (by kernel_rfl)
#print axioms card
end Go.Proofs.YtacbbfmjjfbpoaaDoor.shaInterrupts
