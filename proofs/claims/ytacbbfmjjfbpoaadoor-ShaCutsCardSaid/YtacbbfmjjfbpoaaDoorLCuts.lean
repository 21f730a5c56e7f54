/-
  The digest of a state to which the pieces of a message have been written is the digest of the message.
-/
import Derived.Test.YtacbbfmjjfbpoaaDoorJoined
namespace Go.Proofs.YtacbbfmjjfbpoaaDoor.shaCuts
open Go.ChangeShapes Go.WideShapes Go.ChangeAt Go.RowKit Go.Pl
set_option maxRecDepth 100000 in
set_option maxHeartbeats 2000000 in
theorem walk {A : Option Addr} {n c : Nat} {xs : List (List UInt8)} (w : World) (hK : Kst w) (hA : RdR w (fun _ => True) A n c xs) :
    Calls Tryd.prog 4 #[.slice A n c] w fun e w' => e = .returned (.bool true) ∧ Below w.heap.size w w' := by
  have hn' : Hid (n = xs.length) := hA.len
  have hA' : RdR w (fun i => i < w.heap.size) A n c xs := hA.mono (fun i hi _ => hi)
  have hnm : n ≤ maxLen := by have := hA.le; have := hA.max; omega
  unfold maxLen at hnm
  clear hA
  have hKp := hK.pos
  go_enter Tryd.func4, Tryd.ntmps4
  go_wp2_with fail
  refine (awake_any _ hK).mono ?_
  rintro e w1 ⟨rfl, hb1⟩
  have hA1 := hA'.up hb1
  have hK1 := hK.below hb1 hKp
  go_wp2_with fail
  refine (joined_any _ (hA1.mono (T := fun _ => True) (fun _ _ _ => trivial))).mono ?_
  rintro e w2 ⟨hb2, rfl | ⟨A2, c2, rfl, hJl, ho2⟩⟩
  · go_wp2_with fail
    go_ret
    exact ⟨rfl, hb1.trans (hb2.mono hb1.size)⟩
  have hb2a := hb1.trans (hb2.mono hb1.size)
  have hA2 := hA1.up hb2
  have hK2 := hK.below hb2a hKp
  have hlt2 := ho2.lt
  obtain ⟨J, hJ'⟩ : ∃ J, xs.flatten = J := ⟨_, rfl⟩
  rw [hJ'] at ho2 hJl hlt2
  have hJ : Hid (xs.flatten = J) := hJ'
  rw [hJ']
  clear hJ' hA1 hK1
  have hsz1 := hb1.size
  have hsz2 := hb2.size
  go_wp2_with fail
  refine (new_any _).mono ?_
  rintro e w3 ⟨p, rfl, hS3, hb3⟩
  have hb3a := hb2a.trans (hb3.mono hb2a.size)
  have hA3 := hA2.up hb3
  have hK3 := hK.below hb3a hKp
  have ho3 := own_below ho2 hb3
  have hsz3 := hb3.size
  clear hA2 hK2 ho2
  go_wp2_with fail
  go_loopw [6] (fun i wr => ∃ k : Nat, ∃ r, k ≤ n ∧ i = .int .i64 (k : Int) ∧ StateAt wr w2.heap.size p (xs.take k).flatten r ∧ Below w2.heap.size w3 wr) (fun i _ => n - (intOf i).toNat)
  case atStart => exact ⟨0, none, Nat.zero_le _, rfl, hS3, (Below.refl _ _)⟩
  case round =>
    obtain ⟨k, r, hk, rfl, hSr, hbr⟩ := hrel
    have hb4a := hb3a.trans (hbr.mono (by omega))
    have hK4 := hK.below hb4a hKp
    have hA4 := hA3.keep hbr.size (fun q hq hS => hbr.cell (by omega))
    have ho4 : wr.ownsRow w1.heap.size 5 1 (.slice A2 J.length c2) J.length (J.map u8v) := own_fr ho3 (Fr.mono (F := fun i => w2.heap.size ≤ i) (⟨hbr.os, hbr.tape, hbr.output, hbr.size, fun i _ hn => hbr.block i (by omega)⟩ : Fr (fun i => w2.heap.size ≤ i) w3 wr) (fun _ h => .inl h)) (fun g hg hF => by have := hlt2 g hg; omega)
    have hp4 := hSr.1
    have hrl4 := hSr.rlt
    have hsz4 := hbr.size
    by_cases hlt : k < n
    · obtain ⟨b, o, rfl, hSb, hbl, hc⟩ := hA4.at_ (by omega)
      obtain ⟨Ar, cr, hcell, hrd⟩ := hc k hlt
      have hsucc : Hid ((xs.take (k + 1)).flatten = (xs.take k).flatten ++ xs.getD k []) := flat_take xs k (by have := hn'.out; omega)
      have hle : ((xs.take k).flatten ++ xs.getD k []).length ≤ 2000 := by rw [← hsucc.out]; have := flat_le xs (k + 1); rw [hJ.out] at this; omega
      rw [List.length_append] at hle
      have hle' : (xs.take k).flatten.length + (xs.getD k []).length ≤ 70368744177664 := by omega
      obtain ⟨Z, hZ'⟩ : ∃ Z, xs.getD k [] = Z := ⟨_, rfl⟩
      rw [hZ'] at hcell hrd hle'
      have hZ : Hid (xs.getD k [] = Z) := hZ'
      clear hZ' hc hle
      go_wp2_with fail
      refine (write_any _ (by omega) hK4 hSr (hrd.mono (T := fun i => i ≠ p ∧ r ≠ some i) (fun i _ h => ⟨(by omega), (fun e => by have := hrl4 i e; omega)⟩)) hle').mono ?_
      rintro e w5 ⟨rfl, r5, hS5, hf5, hr5⟩
      have hb5 := hbr.trans (hf5.below (B := w2.heap.size) (fun i h => h.elim (fun e => by omega) (fun e => (hrl4 i e).1)) (by omega))
      go_wp2_with fail
      go_roundw
      case rel => exact ⟨k + 1, r5, hlt, by go_num, by rw [hsucc.out, hZ.out]; exact hS5, hb5⟩
      case measure => simp [intOf]; omega
    · have hall : (xs.take k).flatten = J := by rw [flat_all xs k (by have := hn'.out; omega), hJ.out]
      rw [hall] at hSr
      clear hall
      go_wp2_with fail
      refine (len_any _ hSr).mono ?_
      rintro e w5 ⟨rfl, rfl⟩
      go_wp2_with fail
      refine (sumst_any _ hK4 hSr (by omega)).mono ?_
      rintro e w6 ⟨rfl, hb6⟩
      have hb6a := hb4a.trans (hb6.mono hb4a.size)
      have hK6 := hK.below hb6a hKp
      have hX6 := (own_rd (own_below ho4 hb6)).mono (T := fun _ => True) (fun _ _ _ => trivial)
      go_wp2_with fail
      refine (sum_any _ hK6 hX6 (by omega)).mono ?_
      rintro e w7 ⟨rfl, hb7⟩
      have hb7a := hb6a.trans (hb7.mono hb6a.size)
      go_wp2_with fail
      go_ret
      exact ⟨rfl, hb7a⟩
theorem table {W : World} (h : laidMetH Tryd.prog Rows.shaCutsRow.laid W) : Lib.TabIs Tryd.prog W "plexus/sha256.constants" .u32 (Sha.K.map fun (n : Nat) => (n : Int)) :=
  Lib.tabIs_of_head (rest := []) gTab gTabType Tryd.underlying54 Tryd.underlying41 cellsWord cellsTab h
theorem contract (H : Type) (enc : TypeId × Value → H) (W : World) (base : Nat) (args : Array Value) (ds gs : List (DataW H)) (before : List MemPlace)
    (hval : ∀ (j : Nat) t v, Tryd.f4.params[j]? = some t → args[j]? = some v → Value.okWide Tryd.prog W .any base t v)
    (hW : DataW.Whole enc Tryd.prog Tryd.f4.params.toList Rows.shaCutsSpec.vars false W args.toList ds gs before) (hL : laidMetH Tryd.prog Rows.shaCutsRow.laid W) :
    Calls Tryd.prog 4 args W fun e W' => ∃ v, e = .returned v ∧ Rows.shaCutsSpec.post enc Tryd.prog Tryd.f4 false true false false W args v W' := by
  have hW' := hW
  obtain ⟨p, q, hA0, hV, rfl, hfz, hnd⟩ := hW
  have hA : DataW.TrodAll enc Tryd.prog W 0 (fun _ => true) true Tryd.f4.params.toList args.toList ds p := hA0
  rw [Tryd.params4] at hA hval
  obtain ⟨v0, vs0, d0, ds0, p0, q0, hargs, rfl, rfl, h0, r0⟩ := trodAll_cons hA
  obtain ⟨rfl, rfl, rfl⟩ := trodAll_nil r0
  obtain rfl : args = #[v0] := by cases args; simp_all
  obtain ⟨rfl, rfl⟩ := trodVars_none hV
  obtain ⟨a0, len0, cap0, rfl⟩ := okWide_slice Tryd.underlying26 (hval 0 26 v0 rfl rfl)
  have k0 := h0
  have lt0 : ∀ x ∈ p0, x.block < W.heap.size := by obtain ⟨m, hm⟩ := k0; exact DataW.trod_lt m _ _ _ hm
  obtain ⟨xs0, hrr0⟩ := rows_of_trod Tryd.underlying26 Tryd.underlying22 Tryd.underlying5 (by kernel_rfl) (by kernel_rfl) h0
  clear hA0
  refine (walk W (kst_of_tab (table hL)) hrr0).mono fun e W' ⟨he, bel⟩ => ?_
  subst he
  exact ⟨_, rfl, _, _, _, [], _, [], hW', trodAll_mk1 (shut_bool Tryd.underlying4 _), (trodAll_cons_mk (Below.trod laidOut (by kernel_rfl) (of_decide_eq_true (by kernel_rfl)) k0 bel lt0) trodAll_mk0), rfl, bel.frame _, fun h => by cases h⟩
theorem laid_met (os : Os) : laidMet Tryd.prog Rows.shaCutsRow.laid ((laidWorld os).forCall (fun _ _ => 0) ⟨#[], #[.slice none 0 0], []⟩).memory :=
  laidMet_of_run' 8 (by kernel_rfl) (by kernel_rfl)
theorem reads (os : Os) {H : Type} (enc : TypeId × Value → H) : ∃ places, DataW.whole enc Tryd.prog ((laidWorld os).forCall (fun _ _ => 0) ⟨#[], #[.slice none 0 0], []⟩).memory Tryd.f4.params.toList Rows.shaCutsSpec.vars false #[Value.slice none 0 0].toList 8 = some ([.nil], [], places) :=
  ⟨[], by kernel_rfl⟩
set_option maxRecDepth 100000 in
theorem lifted (os : Os) (started : os.Started) (H : Type) (enc : TypeId × Value → H) (F : Stop.Interp) :
    ReturnsInHanded {} Tryd.checked os 4 .any ((OpenSpec.ofChange Rows.shaCutsSpec).preRow enc Tryd.prog Tryd.f4 Rows.shaCutsRow.domain false Rows.shaCutsRow.laid) (((OpenSpec.ofChange Rows.shaCutsSpec).at F).post enc Tryd.prog Tryd.f4 false true false false) := by
  obtain ⟨places, hx⟩ := reads os enc
  refine returnsInHanded_of_row (C := Tryd.checked) (s := OpenSpec.ofChange Rows.shaCutsSpec) own started (by kernel_rfl) Tryd.func4
    (witness_row_at (enc := enc) (C := Tryd.checked) false (laidWorld os) #[.slice none 0 0] rfl (by kernel_rfl) (by kernel_rfl) (by kernel_rfl)
      (OpenSpec.preRow_of_cond 8 hx (by kernel_rfl) (fun k hk => by cases hk) (by kernel_rfl) (laid_met os))) ?_
  intro W base args ds gs before hval hW _ _ _ hL _ _
  exact contract H enc W base args ds gs before hval hW hL
theorem said : Rows.ShaCutsSaid :=
  OpenClaim.holds_of_cond 4 Tryd.f4 rfl rfl rfl rfl rfl rfl rfl ⟨rfl, rfl, rfl, rfl, rfl⟩ rfl rfl rfl rfl rfl (by kernel_rfl) Tryd.func4 (by kernel_rfl)
    (of_decide_eq_true (by kernel_rfl)) (by unfold Func.isWrapper; first | (rw [if_pos (by decide +kernel)]; kernel_rfl) | (rw [if_neg (by decide +kernel)]; exact ⟨rfl, rfl⟩))
    (fun os started H enc _ F => by rw [OpenClaim.pre_eq_preRow]; exact lifted os started H enc F)
theorem plain (f : FuncId) (fn : Func) (hf : Tryd.pinned.checked.prog.funcNamed "plexus/plexuslaw03.ShaCuts" = some f) (hfn : Tryd.pinned.checked.prog.funcs[f]? = some fn) :
    false = Tryd.pinned.checked.prog.looks [] ∧ ∀ (j : Nat) t, fn.params[j]? = some t → Tryd.pinned.checked.prog.wantsStandIn t = false := by
  obtain rfl : f = 4 := Option.some.inj ((show Tryd.prog.funcNamed "plexus/plexuslaw03.ShaCuts" = some 4 by kernel_rfl).symm.trans hf) |>.symm
  obtain rfl : fn = Tryd.f4 := (Option.some.inj (Tryd.func4.symm.trans hfn)).symm
  refine ⟨by kernel_rfl, fun j t ht => ?_⟩
  rw [Tryd.params4] at ht
  have hm : t = 26 := by simpa using Array.mem_of_getElem? ht
  rcases hm with rfl
  · exact (show Tryd.prog.wantsStandIn 26 = false by kernel_rfl)
/-- The card. -/
theorem card : Rows.ShaCutsCardSaid :=
  Claim7.holds_tied_plain_at .later [] _ _ _ _ said (fun _ h => by cases h) (by kernel_rfl) (fun _ h => by cases h) shaCuts_row_tie rfl ⟨rfl, rfl⟩ (by kernel_rfl) rfl plain (by kernel_rfl)
#print axioms card
end Go.Proofs.YtacbbfmjjfbpoaaDoor.shaCuts
