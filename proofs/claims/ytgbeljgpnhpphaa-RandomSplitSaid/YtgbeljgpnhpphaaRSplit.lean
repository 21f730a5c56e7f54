/-
  The state of a split source is the next output of the source.
-/
import Derived.Test.YtgbeljgpnhpphaaAwk
import Derived.Test.YtgbeljgpnhpphaaHd
namespace Go.Proofs.Ytgbeljgpnhpphaa.randomSplit
open Go.ChangeShapes Go.WideShapes Go.ChangeAt Go.RowKit Go.Pl
set_option maxRecDepth 100000 in
set_option maxHeartbeats 1000000 in
theorem walk (w : World) (s : BitVec 64) : Calls Try.prog 9 #[.int .u64 (n64 s)] w fun e w' => e = .returned (.bool true) ∧ Below w.heap.size w w' := by
  go_enter Try.func9, Try.ntmps9
  go_wp2_with fail
  refine (new_any s _).mono ?_
  rintro e w1 ⟨p, rfl, hp, hS1, hb1⟩
  have lp1 := hS1.lt
  go_wp2_with fail
  refine (split_any _ hS1).mono ?_
  rintro e w3 ⟨w2, ⟨hS2, hf2⟩, q, rfl, hq, hT3, hb3'⟩
  have z2 := hf2.size
  have hb2 := hb1.trans (hf2.below (B := w.heap.size) (fun i h => by omega) hb1.size)
  have hb3 := hb2.trans (hb3'.mono hb2.size)
  have hS3 := hS2.below hb3'
  have lq3 := hT3.lt
  go_wp2_with fail
  refine (new_any s _).mono ?_
  rintro e w4 ⟨r, rfl, hr, hU4, hb4'⟩
  have hb4 := hb3.trans (hb4'.mono hb3.size)
  have hS4 := hS3.below hb4'
  have hT4 := hT3.below hb4'
  have lr4 := hU4.lt
  go_wp2_with fail
  refine (next_any _ hU4).mono ?_
  rintro e w5 ⟨rfl, hU5, hf5⟩
  have z3 := hb3'.size
  have z1 := hb1.size
  have hS5 := hS4.fr hf5 (by omega)
  have hT5 := hT4.fr hf5 (by omega)
  have hb5 := hb4.trans (hf5.below (B := w.heap.size) (fun i h => by omega) hb4.size)
  have z5 := hf5.size
  go_wp2_with fail
  refine (new_any _ _).mono ?_
  rintro e w6 ⟨v, rfl, hv, hV6, hb6'⟩
  have hb6 := hb5.trans (hb6'.mono hb5.size)
  have hS6 := hS5.below hb6'
  have hT6 := hT5.below hb6'
  have hU6 := hU5.below hb6'
  clear hS1 hS2 hS3 hS4 hS5 hT3 hT4 hT5 hU4 hU5 hf2 hf5 hb1 hb2 hb3 hb3' hb4 hb4' hb5 hb6'
  have hpq : p < q := by omega
  have hqr : q < r := by omega
  have hrv : r < v := by omega
  go_wp2_with fail
  go_loopw [7] (fun t7 wr => ∃ (j : Nat) (a b : BitVec 64), j ≤ 5 ∧ t7 = .int .i64 (j : Int) ∧ Src wr p a ∧ Src wr r a ∧ Src wr q b ∧ Src wr v b ∧ Below w.heap.size w wr) (fun t7 _ => 5 - (intOf t7).toNat)
  case atStart => exact ⟨0, _, _, by omega, rfl, hS6, hU6, hT6, hV6, hb6⟩
  case round =>
    obtain ⟨j, a, b, hj, rfl, hS, hU, hT, hV, hb⟩ := hrel
    by_cases hlt : j < 5
    · go_wp2_with fail
      refine (next_any _ hT).mono ?_
      rintro e w7 ⟨rfl, hT7, hf7⟩
      have hS7 := hS.fr hf7 (by omega)
      have hU7 := hU.fr hf7 (by omega)
      have hV7 := hV.fr hf7 (by omega)
      have hb7 := hb.trans (hf7.below (B := w.heap.size) (fun i h => by omega) hb.size)
      go_wp2_with fail
      refine (next_any _ hV7).mono ?_
      rintro e w8 ⟨rfl, hV8, hf8⟩
      have hS8 := hS7.fr hf8 (by omega)
      have hU8 := hU7.fr hf8 (by omega)
      have hT8 := hT7.fr hf8 (by omega)
      have hb8 := hb7.trans (hf8.below (B := w.heap.size) (fun i h => by omega) hb7.size)
      go_wp2_with fail
      refine (next_any _ hS8).mono ?_
      rintro e w9 ⟨rfl, hS9, hf9⟩
      have hV9 := hV8.fr hf9 (by omega)
      have hU9 := hU8.fr hf9 (by omega)
      have hT9 := hT8.fr hf9 (by omega)
      have hb9 := hb8.trans (hf9.below (B := w.heap.size) (fun i h => by omega) hb8.size)
      go_wp2_with fail
      refine (next_any _ hU9).mono ?_
      rintro e w10 ⟨rfl, hU10, hf10⟩
      have hV10 := hV9.fr hf10 (by omega)
      have hS10 := hS9.fr hf10 (by omega)
      have hT10 := hT9.fr hf10 (by omega)
      have hb10 := hb9.trans (hf10.below (B := w.heap.size) (fun i h => by omega) hb9.size)
      go_wp2_with fail
      go_roundw
      case rel => exact ⟨j + 1, _, _, by omega, by go_num, hS10, hU10, hT10, hV10, hb10⟩
      case measure => simp [intOf]; omega
    · obtain rfl : j = 5 := by omega
      go_wp2_with fail
      refine (awake_any _).mono ?_
      rintro e w7 ⟨rfl, hb7'⟩
      go_wp2_with fail
      go_ret
      exact ⟨rfl, hb.trans (hb7'.mono hb.size)⟩
theorem contract (H : Type) (enc : TypeId × Value → H) (W : World) (base : Nat) (args : Array Value) (ds gs : List (DataW H)) (before : List MemPlace)
    (hval : ∀ (j : Nat) t v, Try.f9.params[j]? = some t → args[j]? = some v → Value.okWide Try.prog W .any base t v)
    (hW : DataW.Whole enc Try.prog Try.f9.params.toList Rows.randomSplitSpec.vars false W args.toList ds gs before) :
    Calls Try.prog 9 args W fun e W' => ∃ v, e = .returned v ∧ Rows.randomSplitSpec.post enc Try.prog Try.f9 false true false false W args v W' := by
  have hW' := hW
  obtain ⟨p, q, hA0, hV, rfl, hfz, hnd⟩ := hW
  have hA : DataW.TrodAll enc Try.prog W 0 (fun _ => true) true Try.f9.params.toList args.toList ds p := hA0
  rw [Try.params9] at hA hval
  obtain ⟨v0, vs0, d0, ds0, p0, q0, hargs, rfl, rfl, h0, r0⟩ := trodAll_cons hA
  obtain ⟨rfl, rfl, rfl⟩ := trodAll_nil r0
  obtain rfl : args = #[v0] := by cases args; simp_all
  obtain ⟨rfl, rfl⟩ := trodVars_none hV
  have k0 := h0
  have lt0 : ∀ x ∈ p0, x.block < W.heap.size := by obtain ⟨m, hm⟩ := k0; exact DataW.trod_lt m _ _ _ hm
  obtain ⟨n0, rfl, -, -, z0⟩ := open_int Try.underlying22 (hval 0 22 v0 rfl rfl) h0
  obtain ⟨u0, rfl⟩ := u64_bv z0
  clear hA0
  refine (walk W u0).mono fun e W' ⟨he, bel⟩ => ?_
  subst he
  exact ⟨_, rfl, _, _, _, [], _, [], hW', trodAll_mk1 (shut_bool Try.underlying4 _), (trodAll_cons_mk (Below.trod laidOut (by kernel_rfl) (of_decide_eq_true (by kernel_rfl)) k0 bel lt0) trodAll_mk0), rfl, bel.frame _, fun h => by cases h⟩
set_option maxRecDepth 100000 in
theorem lifted (os : Os) (started : os.Started) (H : Type) (enc : TypeId × Value → H) :
    ReturnsInHanded {} Try.checked os 9 .any (Rows.randomSplitSpec.pre6 enc Try.prog Try.f9 Rows.randomSplitRow.domain false) (Rows.randomSplitSpec.post enc Try.prog Try.f9 false true false false) := by
  refine returnsInHanded_of_change (C := Try.checked) own started (by kernel_rfl) Try.func9
    (ChangeSpec.witness6 (enc := enc) (C := Try.checked) false ⟨#[], #[.int .u64 0], []⟩ 8 (by kernel_rfl) (by kernel_rfl) (by kernel_rfl) (by kernel_rfl)) ?_
  intro W base args ds gs before hval hW _ _
  exact contract H enc W base args ds gs before hval hW
theorem said : Rows.RandomSplitSaid :=
  OpenClaim.holds_of_wide 9 Try.f9 rfl rfl rfl rfl rfl rfl rfl ⟨rfl, rfl, rfl, rfl, rfl⟩ rfl rfl rfl rfl rfl (by kernel_rfl) Try.func9 (by kernel_rfl)
    (of_decide_eq_true (by kernel_rfl)) (by unfold Func.isWrapper; first | (rw [if_pos (by decide +kernel)]; kernel_rfl) | (rw [if_neg (by decide +kernel)]; exact ⟨rfl, rfl⟩))
    (fun os started H enc _ => lifted os started H enc)
#print axioms said
end Go.Proofs.Ytgbeljgpnhpphaa.randomSplit
