/-
  Skip has the effect of that many calls of Next.
-/
import Derived.Test.YtgbeljgpnhpphaaAwk
import Derived.Test.YtgbeljgpnhpphaaHd
namespace Go.Proofs.Ytgbeljgpnhpphaa
open Go.RowKit Go.Pl
theorem skip_v {p : Nat} {s : BitVec 64} (w : World) (hS : Src w p s) (n : BitVec 64) (v : Int) (hv : v = n64 n) :
    Calls Try.prog 28 #[.pointer (some ⟨p, 0, none⟩), .int .u64 v] w fun e w' => e = .returned undef ∧ Stepped w p (s + n * Rnd.golden) w' := by
  subst hv; exact skip_any w hS n
end Go.Proofs.Ytgbeljgpnhpphaa
namespace Go.Proofs.Ytgbeljgpnhpphaa.randomSkip
open Go.ChangeShapes Go.WideShapes Go.ChangeAt Go.RowKit Go.Pl
set_option maxRecDepth 100000 in
set_option maxHeartbeats 1000000 in
theorem walk (w : World) (s a b : BitVec 64) (few : UInt8) : Calls Try.prog 8 #[.int .u64 (n64 s), .int .u64 (n64 a), .int .u64 (n64 b), .int .u8 (few.toNat : Int)] w fun e w' => e = .returned (.bool true) ∧ Below w.heap.size w w' := by
  have hab : Hid (s + a * Rnd.golden + b * Rnd.golden = s + (a + b) * Rnd.golden) := by show _ = _; rw [BitVec.add_mul, BitVec.add_assoc]
  have hfew := few.toNat_lt
  obtain ⟨F, hF⟩ : ∃ F, few.toNat = F := ⟨_, rfl⟩
  rw [hF] at hfew ⊢
  clear hF
  go_enter Try.func8, Try.ntmps8
  go_wp2_with fail
  refine (new_any s _).mono ?_
  rintro e w1 ⟨p, rfl, hp, hS1, hb1⟩
  go_wp2_with fail
  refine (new_any s _).mono ?_
  rintro e w2 ⟨q, rfl, hq, hT2, hb2'⟩
  have hS2 := hS1.below hb2'
  have hb2 := hb1.trans (hb2'.mono hb1.size)
  have lp1 := hS1.lt
  go_wp2_with fail
  refine (new_any s _).mono ?_
  rintro e w3 ⟨r, rfl, hr, hU3, hb3'⟩
  have hS3 := hS2.below hb3'
  have hT3 := hT2.below hb3'
  have hb3 := hb2.trans (hb3'.mono hb2.size)
  have lq2 := hT2.lt
  have z1 := hb1.size
  have z2 := hb2'.size
  clear hb1 hb2 hb2' hb3' hS1 hS2 hT2
  go_wp2_with fail
  refine (skip_any _ hS3 a).mono ?_
  rintro e w4 ⟨rfl, hS4, hf4⟩
  have hT4 := hT3.fr hf4 (by omega)
  have hU4 := hU3.fr hf4 (by omega)
  have hb4 := hb3.trans (hf4.below (B := w.heap.size) (fun i h => by omega) hb3.size)
  go_wp2_with fail
  refine (skip_any _ hS4 b).mono ?_
  rw [hab.out]
  rintro e w5 ⟨rfl, hS5, hf5⟩
  have hT5 := hT4.fr hf5 (by omega)
  have hU5 := hU4.fr hf5 (by omega)
  have hb5 := hb4.trans (hf5.below (B := w.heap.size) (fun i h => by omega) hb4.size)
  go_wp2_with fail
  refine (skip_any _ hT5 (a + b)).mono ?_
  rintro e w6 ⟨rfl, hT6, hf6⟩
  have hS6 := hS5.fr hf6 (by omega)
  have hU6 := hU5.fr hf6 (by omega)
  have hb6 := hb5.trans (hf6.below (B := w.heap.size) (fun i h => by omega) hb5.size)
  go_wp2_with fail
  refine (next_any _ hS6).mono ?_
  rintro e w7 ⟨rfl, hS7, hf7⟩
  have hT7 := hT6.fr hf7 (by omega)
  have hU7 := hU6.fr hf7 (by omega)
  have hb7 := hb6.trans (hf7.below (B := w.heap.size) (fun i h => by omega) hb6.size)
  go_wp2_with fail
  refine (next_any _ hT7).mono ?_
  rintro e w8 ⟨rfl, hT8, hf8⟩
  have hU8 := hU7.fr hf8 (by omega)
  have hb8 := hb7.trans (hf8.below (B := w.heap.size) (fun i h => by omega) hb7.size)
  have lr8 := hU8.lt
  go_wp2_with fail
  refine (new_any s _).mono ?_
  rintro e w9 ⟨v, rfl, hv, hV9, hb9'⟩
  have hU9 := hU8.below hb9'
  have hb9 := hb8.trans (hb9'.mono hb8.size)
  have lv9 := hV9.lt
  clear hS3 hS4 hS5 hS6 hS7 hT3 hT4 hT5 hT6 hT7 hT8 hU3 hU4 hU5 hU6 hU7 hU8 hf4 hf5 hf6 hf7 hf8 hb3 hb4 hb5 hb6 hb7 hb8 hb9'
  go_wp2_with fail
  go_loopw [13] (fun t13 wr => ∃ (j : Nat) (s1 : BitVec 64), j ≤ F ∧ t13 = .int .i64 (j : Int) ∧ Hid (s1 = s + BitVec.ofNat 64 j * Rnd.golden) ∧ Src wr r s1 ∧ Src wr v s ∧ Below w.heap.size w wr) (fun t13 _ => F - (intOf t13).toNat)
  case atStart => exact ⟨0, s, Nat.zero_le _, rfl, by show _ = _; simp, hU9, hV9, hb9⟩
  case round =>
    obtain ⟨j, s1, hj, rfl, hs, hU, hV, hb⟩ := hrel
    by_cases hlt : j < F
    · have hs2 : Hid (s1 + Rnd.golden = s + BitVec.ofNat 64 (j + 1) * Rnd.golden) := by
        show _ = _
        rw [hs.out, BitVec.ofNat_add, BitVec.add_mul, BitVec.one_mul, BitVec.add_assoc]
      go_wp2_with fail
      refine (next_any _ hU).mono ?_
      rintro e w10 ⟨rfl, hU2, hf10⟩
      have hV2 := hV.fr hf10 (by omega)
      have hb10 := hb.trans (hf10.below (B := w.heap.size) (fun i h => by omega) hb.size)
      go_wp2_with fail
      go_roundw
      case rel => exact ⟨j + 1, _, hlt, by go_num, hs2, hU2, hV2, hb10⟩
      case measure => simp [intOf]; omega
    · obtain rfl : j = F := by omega
      have hFv : Hid ((j : Int) = n64 (BitVec.ofNat 64 j)) := by show _ = _; unfold n64; rw [BitVec.toNat_ofNat]; omega
      go_wp2_with fail
      refine (skip_v _ hV _ _ hFv.out).mono ?_
      rw [← hs.out]
      rintro e w10 ⟨rfl, hV2, hf10⟩
      have hU2 := hU.fr hf10 (by omega)
      have hb10 := hb.trans (hf10.below (B := w.heap.size) (fun i h => by omega) hb.size)
      go_wp2_with fail
      refine (awake_any _).mono ?_
      rintro e w11 ⟨rfl, hb11'⟩
      have hU3 := hU2.below hb11'
      have hV3 := hV2.below hb11'
      have hb11 := hb10.trans (hb11'.mono hb10.size)
      go_wp2_with fail
      refine (next_any _ hU3).mono ?_
      rintro e w12 ⟨rfl, hU4, hf12⟩
      have hV4 := hV3.fr hf12 (by omega)
      have hb12 := hb11.trans (hf12.below (B := w.heap.size) (fun i h => by omega) hb11.size)
      go_wp2_with fail
      refine (next_any _ hV4).mono ?_
      rintro e w13 ⟨rfl, hV5, hf13⟩
      have hb13 := hb12.trans (hf13.below (B := w.heap.size) (fun i h => by omega) hb12.size)
      go_wp2_with fail
      go_ret
      exact ⟨rfl, hb13⟩
theorem contract (H : Type) (enc : TypeId × Value → H) (W : World) (base : Nat) (args : Array Value) (ds gs : List (DataW H)) (before : List MemPlace)
    (hval : ∀ (j : Nat) t v, Try.f8.params[j]? = some t → args[j]? = some v → Value.okWide Try.prog W .any base t v)
    (hW : DataW.Whole enc Try.prog Try.f8.params.toList Rows.randomSkipSpec.vars false W args.toList ds gs before) :
    Calls Try.prog 8 args W fun e W' => ∃ v, e = .returned v ∧ Rows.randomSkipSpec.post enc Try.prog Try.f8 false true false false W args v W' := by
  have hW' := hW
  obtain ⟨p, q, hA0, hV, rfl, hfz, hnd⟩ := hW
  have hA : DataW.TrodAll enc Try.prog W 0 (fun _ => true) true Try.f8.params.toList args.toList ds p := hA0
  rw [Try.params8] at hA hval
  obtain ⟨v0, vs0, d0, ds0, p0, q0, hargs, rfl, rfl, h0, r0⟩ := trodAll_cons hA
  obtain ⟨v1, vs1, d1, ds1, p1, q1, rfl, rfl, rfl, h1, r1⟩ := trodAll_cons r0
  obtain ⟨v2, vs2, d2, ds2, p2, q2, rfl, rfl, rfl, h2, r2⟩ := trodAll_cons r1
  obtain ⟨v3, vs3, d3, ds3, p3, q3, rfl, rfl, rfl, h3, r3⟩ := trodAll_cons r2
  obtain ⟨rfl, rfl, rfl⟩ := trodAll_nil r3
  obtain rfl : args = #[v0, v1, v2, v3] := by cases args; simp_all
  obtain ⟨rfl, rfl⟩ := trodVars_none hV
  have k0 := h0
  have lt0 : ∀ x ∈ p0, x.block < W.heap.size := by obtain ⟨m, hm⟩ := k0; exact DataW.trod_lt m _ _ _ hm
  obtain ⟨n0, rfl, -, -, z0⟩ := open_int Try.underlying22 (hval 0 22 v0 rfl rfl) h0
  obtain ⟨u0, rfl⟩ := u64_bv z0
  have k1 := h1
  have lt1 : ∀ x ∈ p1, x.block < W.heap.size := by obtain ⟨m, hm⟩ := k1; exact DataW.trod_lt m _ _ _ hm
  obtain ⟨n1, rfl, -, -, z1⟩ := open_int Try.underlying22 (hval 1 22 v1 rfl rfl) h1
  obtain ⟨u1, rfl⟩ := u64_bv z1
  have k2 := h2
  have lt2 : ∀ x ∈ p2, x.block < W.heap.size := by obtain ⟨m, hm⟩ := k2; exact DataW.trod_lt m _ _ _ hm
  obtain ⟨n2, rfl, -, -, z2⟩ := open_int Try.underlying22 (hval 2 22 v2 rfl rfl) h2
  obtain ⟨u2, rfl⟩ := u64_bv z2
  have k3 := h3
  have lt3 : ∀ x ∈ p3, x.block < W.heap.size := by obtain ⟨m, hm⟩ := k3; exact DataW.trod_lt m _ _ _ hm
  obtain ⟨n3, rfl, -, -, z3⟩ := open_int Try.underlying5 (hval 3 5 v3 rfl rfl) h3
  obtain ⟨u3, rfl⟩ := u8_bv z3
  clear hA0
  refine (walk W u0 u1 u2 u3).mono fun e W' ⟨he, bel⟩ => ?_
  subst he
  exact ⟨_, rfl, _, _, _, [], _, [], hW', trodAll_mk1 (shut_bool Try.underlying4 _), (trodAll_cons_mk (Below.trod laidOut (by kernel_rfl) (of_decide_eq_true (by kernel_rfl)) k0 bel lt0) (trodAll_cons_mk (Below.trod laidOut (by kernel_rfl) (of_decide_eq_true (by kernel_rfl)) k1 bel lt1) (trodAll_cons_mk (Below.trod laidOut (by kernel_rfl) (of_decide_eq_true (by kernel_rfl)) k2 bel lt2) (trodAll_cons_mk (Below.trod laidOut (by kernel_rfl) (of_decide_eq_true (by kernel_rfl)) k3 bel lt3) trodAll_mk0)))), rfl, bel.frame _, fun h => by cases h⟩
set_option maxRecDepth 100000 in
theorem lifted (os : Os) (started : os.Started) (H : Type) (enc : TypeId × Value → H) :
    ReturnsInHanded {} Try.checked os 8 .any (Rows.randomSkipSpec.pre6 enc Try.prog Try.f8 Rows.randomSkipRow.domain false) (Rows.randomSkipSpec.post enc Try.prog Try.f8 false true false false) := by
  refine returnsInHanded_of_change (C := Try.checked) own started (by kernel_rfl) Try.func8
    (ChangeSpec.witness6 (enc := enc) (C := Try.checked) false ⟨#[], #[.int .u64 0, .int .u64 0, .int .u64 0, .int .u8 0], []⟩ 8 (by kernel_rfl) (by kernel_rfl) (by kernel_rfl) (by kernel_rfl)) ?_
  intro W base args ds gs before hval hW _ _
  exact contract H enc W base args ds gs before hval hW
theorem said : Rows.RandomSkipSaid :=
  OpenClaim.holds_of_wide 8 Try.f8 rfl rfl rfl rfl rfl rfl rfl ⟨rfl, rfl, rfl, rfl, rfl⟩ rfl rfl rfl rfl rfl (by kernel_rfl) Try.func8 (by kernel_rfl)
    (of_decide_eq_true (by kernel_rfl)) (by unfold Func.isWrapper; first | (rw [if_pos (by decide +kernel)]; kernel_rfl) | (rw [if_neg (by decide +kernel)]; exact ⟨rfl, rfl⟩))
    (fun os started H enc _ => lifted os started H enc)
#print axioms said
end Go.Proofs.Ytgbeljgpnhpphaa.randomSkip
