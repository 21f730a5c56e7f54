/-
  Intn returns the next output times n divided by two to the 64th; for n below 1 it returns 0 and does not advance.
-/
import Derived.Test.YtgbeljgpnhpphaaRNext
namespace Go.Proofs.Ytgbeljgpnhpphaa.randomIntn
open Go.ChangeShapes Go.WideShapes Go.ChangeAt Go.RowKit Go.Pl
set_option maxRecDepth 100000 in
set_option maxHeartbeats 1000000 in
theorem walk (w : World) (s : BitVec 64) (n : Int) (hn : -9223372036854775808 ≤ n ∧ n ≤ 9223372036854775807) : Calls Try.prog 4 #[.int .u64 (n64 s), .int .i64 n] w fun e w' => e = .returned (.bool true) ∧ Below w.heap.size w w' := by
  have o1 : Hid (Rnd.out s 1#64 = Rnd.mix (s + Rnd.golden)) := by show _ = _; unfold Rnd.out Rnd.state; rw [BitVec.one_mul]
  have o2 : Hid (Rnd.out s 2#64 = Rnd.mix (s + Rnd.golden + Rnd.golden)) := by
    show _ = _; unfold Rnd.out Rnd.state; rw [show (2#64 : BitVec 64) = 1#64 + 1#64 from rfl, BitVec.add_mul, BitVec.one_mul, BitVec.add_assoc]
  by_cases h1 : n < 1
  · go_enter Try.func4, Try.ntmps4
    go_wp2_with fail
    refine (new_any s _).mono ?_
    rintro e w1 ⟨p, rfl, hp, hS1, hb1⟩
    go_wp2_with fail
    refine (intn_no _ n h1).mono ?_
    rintro e w2 ⟨rfl, rfl⟩
    go_wp2_with fail
    refine (awake_any _).mono ?_
    rintro e w3 ⟨rfl, hb3'⟩
    have hS3 := hS1.below hb3'
    have hb3 := hb1.trans (hb3'.mono hb1.size)
    go_wp2_with fail
    refine (next_any _ hS3).mono ?_
    rintro e w4 ⟨rfl, hS4, hf4⟩
    have hb4 := hb3.trans (hf4.below (B := w.heap.size) (fun i h => by omega) hb3.size)
    go_wp2_with fail
    refine (at_v s 1#64 1 rfl _).mono ?_
    rw [o1.out]
    rintro e w5 ⟨rfl, rfl⟩
    go_wp2_with fail
    go_ret
    exact ⟨rfl, hb4⟩
  · obtain ⟨N, rfl⟩ : ∃ N : Nat, n = (N : Int) := ⟨n.toNat, by omega⟩
    have hN1 : 1 ≤ N := by omega
    have hN2 : N ≤ 9223372036854775807 := by omega
    have hNv : Hid ((N : Int) = n64 (BitVec.ofNat 64 N)) := by show _ = _; unfold n64; rw [BitVec.toNat_ofNat]; omega
    have hNt : Hid ((BitVec.ofNat 64 N).toNat = N) := by show _ = _; rw [BitVec.toNat_ofNat]; omega
    have hk := Rnd.hi_lt (Rnd.mix (s + Rnd.golden)) N (by omega)
    obtain ⟨m, hm⟩ : ∃ m, Rnd.mix (s + Rnd.golden) = m := ⟨_, rfl⟩
    rw [hm] at hk
    obtain ⟨K, hK⟩ : ∃ K, Rnd.hi m.toNat N = K := ⟨_, rfl⟩
    rw [hK] at hk
    have hm' := Lib.hid hm
    have hK' := Lib.hid hK
    clear hm hK h1 hn
    go_enter Try.func4, Try.ntmps4
    go_wp2_with fail
    refine (new_any s _).mono ?_
    rintro e w1 ⟨p, rfl, hp, hS1, hb1⟩
    go_wp2_with fail
    refine (intn_any _ hS1 N hN1 hN2).mono ?_
    rw [hm'.out, hK'.out]
    rintro e w2 ⟨rfl, hS2, hf2⟩
    have hb2 := hb1.trans (hf2.below (B := w.heap.size) (fun i h => by omega) hb1.size)
    go_wp2_with fail
    refine (awake_any _).mono ?_
    rintro e w3 ⟨rfl, hb3'⟩
    have hS3 := hS2.below hb3'
    have hb3 := hb2.trans (hb3'.mono hb2.size)
    go_wp2_with fail
    refine (at_v s 1#64 1 rfl _).mono ?_
    rw [o1.out, hm'.out]
    rintro e w4 ⟨rfl, rfl⟩
    go_wp2_with fail
    refine (high_any m _ _ hNv.out _).mono ?_
    rw [hNt.out, hK'.out]
    rintro e w4 ⟨rfl, rfl⟩
    go_wp2_with fail
    refine (next_any _ hS3).mono ?_
    rintro e w5 ⟨rfl, hS5, hf5⟩
    have hb5 := hb3.trans (hf5.below (B := w.heap.size) (fun i h => by omega) hb3.size)
    go_wp2_with fail
    refine (at_v s 2#64 2 rfl _).mono ?_
    rw [o2.out]
    rintro e w6 ⟨rfl, rfl⟩
    go_wp2_with fail
    go_ret
    exact ⟨rfl, hb5⟩
theorem contract (H : Type) (enc : TypeId × Value → H) (W : World) (base : Nat) (args : Array Value) (ds gs : List (DataW H)) (before : List MemPlace)
    (hval : ∀ (j : Nat) t v, Try.f4.params[j]? = some t → args[j]? = some v → Value.okWide Try.prog W .any base t v)
    (hW : DataW.Whole enc Try.prog Try.f4.params.toList Rows.randomIntnSpec.vars false W args.toList ds gs before) :
    Calls Try.prog 4 args W fun e W' => ∃ v, e = .returned v ∧ Rows.randomIntnSpec.post enc Try.prog Try.f4 false true false false W args v W' := by
  have hW' := hW
  obtain ⟨p, q, hA0, hV, rfl, hfz, hnd⟩ := hW
  have hA : DataW.TrodAll enc Try.prog W 0 (fun _ => true) true Try.f4.params.toList args.toList ds p := hA0
  rw [Try.params4] at hA hval
  obtain ⟨v0, vs0, d0, ds0, p0, q0, hargs, rfl, rfl, h0, r0⟩ := trodAll_cons hA
  obtain ⟨v1, vs1, d1, ds1, p1, q1, rfl, rfl, rfl, h1, r1⟩ := trodAll_cons r0
  obtain ⟨rfl, rfl, rfl⟩ := trodAll_nil r1
  obtain rfl : args = #[v0, v1] := by cases args; simp_all
  obtain ⟨rfl, rfl⟩ := trodVars_none hV
  have k0 := h0
  have lt0 : ∀ x ∈ p0, x.block < W.heap.size := by obtain ⟨m, hm⟩ := k0; exact DataW.trod_lt m _ _ _ hm
  obtain ⟨n0, rfl, -, -, z0⟩ := open_int Try.underlying22 (hval 0 22 v0 rfl rfl) h0
  obtain ⟨u0, rfl⟩ := u64_bv z0
  have k1 := h1
  have lt1 : ∀ x ∈ p1, x.block < W.heap.size := by obtain ⟨m, hm⟩ := k1; exact DataW.trod_lt m _ _ _ hm
  obtain ⟨n1, rfl, -, -, z1⟩ := open_int Try.underlying3 (hval 1 3 v1 rfl rfl) h1
  clear hA0
  refine (walk W u0 n1 (bounds_i64 z1)).mono fun e W' ⟨he, bel⟩ => ?_
  subst he
  exact ⟨_, rfl, _, _, _, [], _, [], hW', trodAll_mk1 (shut_bool Try.underlying4 _), (trodAll_cons_mk (Below.trod laidOut (by kernel_rfl) (of_decide_eq_true (by kernel_rfl)) k0 bel lt0) (trodAll_cons_mk (Below.trod laidOut (by kernel_rfl) (of_decide_eq_true (by kernel_rfl)) k1 bel lt1) trodAll_mk0)), rfl, bel.frame _, fun h => by cases h⟩
set_option maxRecDepth 100000 in
theorem lifted (os : Os) (started : os.Started) (H : Type) (enc : TypeId × Value → H) :
    ReturnsInHanded {} Try.checked os 4 .any (Rows.randomIntnSpec.pre6 enc Try.prog Try.f4 Rows.randomIntnRow.domain false) (Rows.randomIntnSpec.post enc Try.prog Try.f4 false true false false) := by
  refine returnsInHanded_of_change (C := Try.checked) own started (by kernel_rfl) Try.func4
    (ChangeSpec.witness6 (enc := enc) (C := Try.checked) false ⟨#[], #[.int .u64 0, .int .i64 0], []⟩ 8 (by kernel_rfl) (by kernel_rfl) (by kernel_rfl) (by kernel_rfl)) ?_
  intro W base args ds gs before hval hW _ _
  exact contract H enc W base args ds gs before hval hW
theorem said : Rows.RandomIntnSaid :=
  OpenClaim.holds_of_wide 4 Try.f4 rfl rfl rfl rfl rfl rfl rfl ⟨rfl, rfl, rfl, rfl, rfl⟩ rfl rfl rfl rfl rfl (by kernel_rfl) Try.func4 (by kernel_rfl)
    (of_decide_eq_true (by kernel_rfl)) (by unfold Func.isWrapper; first | (rw [if_pos (by decide +kernel)]; kernel_rfl) | (rw [if_neg (by decide +kernel)]; exact ⟨rfl, rfl⟩))
    (fun os started H enc _ => lifted os started H enc)
#print axioms said
end Go.Proofs.Ytgbeljgpnhpphaa.randomIntn
