/-
  The outputs of a source are Mix of the seed plus multiples of G.
-/
import Derived.Test.YtgbeljgpnhpphaaAwk
import Derived.Test.YtgbeljgpnhpphaaHd
namespace Go.Proofs.Ytgbeljgpnhpphaa
open Go.RowKit Go.Pl
theorem at_v (s n : BitVec 64) (v : Int) (hv : v = n64 n) (w : World) :
    Calls Try.prog 15 #[.int .u64 (n64 s), .int .u64 v] w fun e w' => e = .returned (.int .u64 (n64 (Rnd.out s n))) ∧ w = w' := by
  subst hv; exact at_any s n w
end Go.Proofs.Ytgbeljgpnhpphaa
namespace Go.Proofs.Ytgbeljgpnhpphaa.randomNext
open Go.ChangeShapes Go.WideShapes Go.ChangeAt Go.RowKit Go.Pl
set_option maxRecDepth 100000 in
set_option maxHeartbeats 1000000 in
theorem walk (w : World) (s : BitVec 64) : Calls Try.prog 3 #[.int .u64 (n64 s)] w fun e w' => e = .returned (.bool true) ∧ Below w.heap.size w w' := by
  go_enter Try.func3, Try.ntmps3
  go_wp2_with fail
  refine (new_any s _).mono ?_
  rintro e w1 ⟨p, rfl, hp, hS1, hb1⟩
  go_wp2_with fail
  go_loopw [4] (fun t4 wr => ∃ (j : Nat) (s1 : BitVec 64), j < 21 ∧ t4 = .int .u64 ((j : Int) + 1) ∧ Hid (s1 = s + BitVec.ofNat 64 j * Rnd.golden) ∧ Src wr p s1 ∧ Below w.heap.size w wr) (fun t4 _ => 30 - (match t4 with | .int _ n => n.toNat | _ => 0))
  case atStart => exact ⟨0, s, by omega, rfl, by show _ = _; simp, hS1, hb1⟩
  case round =>
    obtain ⟨j, s1, hj, rfl, hs, hS, hb⟩ := hrel
    by_cases hlt : j < 20
    · have hv : Hid ((j : Int) + 1 = n64 (BitVec.ofNat 64 (j + 1))) := by show _ = _; unfold n64; rw [BitVec.toNat_ofNat]; omega
      have hout : Hid (Rnd.out s (BitVec.ofNat 64 (j + 1)) = Rnd.mix (s1 + Rnd.golden)) := by
        show _ = _
        unfold Rnd.out Rnd.state
        rw [hs.out, BitVec.ofNat_add, BitVec.add_mul, BitVec.one_mul, BitVec.add_assoc]
      have hs2 : Hid (s1 + Rnd.golden = s + BitVec.ofNat 64 (j + 1) * Rnd.golden) := by
        show _ = _
        rw [hs.out, BitVec.ofNat_add, BitVec.add_mul, BitVec.one_mul, BitVec.add_assoc]
      go_wp2_with fail
      refine (next_any _ hS).mono ?_
      rintro e w2 ⟨rfl, hS2, hf2⟩
      have hb2 := hb.trans (hf2.below (fun i h => by omega) hb.size)
      go_wp2_with fail
      refine (at_v s _ _ hv.out _).mono ?_
      rw [hout.out]
      rintro e w3 ⟨rfl, rfl⟩
      go_wp2_with fail
      go_roundw
      case rel => exact ⟨j + 1, _, by omega, by go_num, hs2, hS2, hb2⟩
      case measure => simp; omega
    · obtain rfl : j = 20 := by omega
      go_wp2_with fail
      refine (awake_any _).mono ?_
      rintro e w2 ⟨rfl, hb2'⟩
      go_wp2_with fail
      go_ret
      exact ⟨rfl, hb.trans (hb2'.mono hb.size)⟩
theorem contract (H : Type) (enc : TypeId × Value → H) (W : World) (base : Nat) (args : Array Value) (ds gs : List (DataW H)) (before : List MemPlace)
    (hval : ∀ (j : Nat) t v, Try.f3.params[j]? = some t → args[j]? = some v → Value.okWide Try.prog W .any base t v)
    (hW : DataW.Whole enc Try.prog Try.f3.params.toList Rows.randomNextSpec.vars false W args.toList ds gs before) :
    Calls Try.prog 3 args W fun e W' => ∃ v, e = .returned v ∧ Rows.randomNextSpec.post enc Try.prog Try.f3 false true false false W args v W' := by
  have hW' := hW
  obtain ⟨p, q, hA0, hV, rfl, hfz, hnd⟩ := hW
  have hA : DataW.TrodAll enc Try.prog W 0 (fun _ => true) true Try.f3.params.toList args.toList ds p := hA0
  rw [Try.params3] at hA hval
  obtain ⟨v0, vs0, d0, ds0, p0, q0, hargs, rfl, rfl, h0, r0⟩ := trodAll_cons hA
  obtain ⟨rfl, rfl, rfl⟩ := trodAll_nil r0
  obtain rfl : args = #[v0] := by cases args; simp_all
  obtain ⟨rfl, rfl⟩ := trodVars_none hV
  have k0 := h0
  have lt0 : ∀ x ∈ p0, x.block < W.heap.size := by obtain ⟨m, hm⟩ := k0; exact DataW.trod_lt m _ _ _ hm
  obtain ⟨n0, rfl, -, -, z0⟩ := open_int Try.underlying22 (hval 0 22 v0 rfl rfl) h0
  obtain ⟨u0, rfl⟩ := u64_bv z0
  clear hA0
  refine (walk W u0).mono fun e W' ⟨he, bel⟩ => ?_
  subst he
  exact ⟨_, rfl, _, _, _, [], _, [], hW', trodAll_mk1 (shut_bool Try.underlying4 _), (trodAll_cons_mk (Below.trod laidOut (by kernel_rfl) (of_decide_eq_true (by kernel_rfl)) k0 bel lt0) trodAll_mk0), rfl, bel.frame _, fun h => by cases h⟩
set_option maxRecDepth 100000 in
theorem lifted (os : Os) (started : os.Started) (H : Type) (enc : TypeId × Value → H) :
    ReturnsInHanded {} Try.checked os 3 .any (Rows.randomNextSpec.pre6 enc Try.prog Try.f3 Rows.randomNextRow.domain false) (Rows.randomNextSpec.post enc Try.prog Try.f3 false true false false) := by
  refine returnsInHanded_of_change (C := Try.checked) own started (by kernel_rfl) Try.func3
    (ChangeSpec.witness6 (enc := enc) (C := Try.checked) false ⟨#[], #[.int .u64 0], []⟩ 8 (by kernel_rfl) (by kernel_rfl) (by kernel_rfl) (by kernel_rfl)) ?_
  intro W base args ds gs before hval hW _ _
  exact contract H enc W base args ds gs before hval hW
theorem said : Rows.RandomNextSaid :=
  OpenClaim.holds_of_wide 3 Try.f3 rfl rfl rfl rfl rfl rfl rfl ⟨rfl, rfl, rfl, rfl, rfl⟩ rfl rfl rfl rfl rfl (by kernel_rfl) Try.func3 (by kernel_rfl)
    (of_decide_eq_true (by kernel_rfl)) (by unfold Func.isWrapper; first | (rw [if_pos (by decide +kernel)]; kernel_rfl) | (rw [if_neg (by decide +kernel)]; exact ⟨rfl, rfl⟩))
    (fun os started H enc _ => lifted os started H enc)
#print axioms said
end Go.Proofs.Ytgbeljgpnhpphaa.randomNext
