/-
  Shuffle returns a permutation by exchanges with elements that Intn chooses, and advances the source n - 1 times.
-/
import Derived.Test.YtgbeljgpnhpphaaRNext
import Derived.Test.YtgbeljgpnhpphaaPermW
namespace Go.Proofs.Ytgbeljgpnhpphaa.randomShuffle
open Go.ChangeShapes Go.WideShapes Go.ChangeAt Go.RowKit Go.Pl
theorem middle (s : BitVec 64) (n : Int) (h0 : 300 < n) (h1 : n ≤ 10000) (w : World) : Calls Try.prog 5 #[.int .u64 (n64 s), .int .i64 n] w fun e w' => e = .returned (.bool true) ∧ Below w.heap.size w w' := by
  go_enter Try.func5, Try.ntmps5
  go_wp2_with fail
  refine (new_any s _).mono ?_
  rintro e w1 ⟨p, rfl, hp, hS1, hb1⟩
  go_wp2_with fail
  refine (awake_any _).mono ?_
  rintro e w2 ⟨rfl, hb2'⟩
  go_wp2_with fail
  go_ret
  exact ⟨rfl, hb1.trans (hb2'.mono hb1.size)⟩
set_option maxHeartbeats 1000000 in
theorem out_of (s : BitVec 64) (n : Int) (h : n < 0 ∨ 10000 < n) (w : World) : Calls Try.prog 5 #[.int .u64 (n64 s), .int .i64 n] w fun e w' => e = .returned (.bool true) ∧ Below w.heap.size w w' := by
  have o1 : Hid (Rnd.out s 1#64 = Rnd.mix (s + Rnd.golden)) := by show _ = _; unfold Rnd.out Rnd.state; rw [BitVec.one_mul]
  have h' := Lib.hid h
  rcases h with h | h
  all_goals
    go_enter Try.func5, Try.ntmps5
    go_wp2_with fail
    refine (new_any s _).mono ?_
    rintro e w1 ⟨p, rfl, hp, hS1, hb1⟩
    go_wp2_with fail
    refine (shuffle_no _ n h'.out).mono ?_
    rintro e w2 ⟨rfl, rfl⟩
    go_wp2_with fail
    refine (awake_any _).mono ?_
    rintro e w3 ⟨rfl, hb3'⟩
    have hS3 := hS1.below hb3'
    have hb3 := hb1.trans (hb3'.mono hb1.size)
    go_wp2_with fail
    refine (next_any _ hS3).mono ?_
    rintro e w4 ⟨rfl, hS4, hf4⟩
    have hb4 := hb3.trans (hf4.below (B := w.heap.size) (fun i h => by omega) hb3.size)
    go_wp2_with fail
    refine (at_v s 1#64 1 rfl _).mono ?_
    rw [o1.out]
    rintro e w5 ⟨rfl, rfl⟩
    go_wp2_with fail
    go_ret
    exact ⟨rfl, hb4⟩
set_option maxRecDepth 100000 in
set_option maxHeartbeats 1000000 in
theorem inside (s : BitVec 64) (n : Nat) (hn : n ≤ 300) (w : World) : Calls Try.prog 5 #[.int .u64 (n64 s), .int .i64 (n : Int)] w fun e w' => e = .returned (.bool true) ∧ Below w.heap.size w w' := by
  have hgood := Rnd.shuf_good n s
  have hstate := Rnd.shuf_state n (Rnd.upto n) s
  have hlen := Rnd.length_shuf n (Rnd.upto n) s
  have hI : I64s (Rnd.shuf n (Rnd.upto n) s).1 := by
    intro z hz
    have hm := (Rnd.shuf_perm n (Rnd.upto n) s (by rw [Rnd.length_upto]; omega)).subset hz
    simp only [Rnd.upto, List.mem_map, List.mem_range] at hm
    obtain ⟨j, hj, rfl⟩ := hm
    omega
  obtain ⟨L, hL⟩ : ∃ L, (Rnd.shuf n (Rnd.upto n) s).1 = L := ⟨_, rfl⟩
  obtain ⟨s2, hs2⟩ : ∃ s2, (Rnd.shuf n (Rnd.upto n) s).2 = s2 := ⟨_, rfl⟩
  rw [hL] at hgood hlen hI
  rw [hs2] at hstate
  have hgood' := Lib.hid hgood
  have hI' := Lib.hid hI
  have hL' := Lib.hid hL
  have hs2' := Lib.hid hs2
  have hout : Hid (Rnd.out s (BitVec.ofNat 64 (n - 1) + 1#64) = Rnd.mix (s2 + Rnd.golden)) := by
    show _ = _
    unfold Rnd.out Rnd.state
    rw [hstate, BitVec.add_mul, BitVec.one_mul, BitVec.add_assoc]
  clear hgood hI hL hs2 hstate hlen
  by_cases h1 : 1 < n
  all_goals
    go_enter Try.func5, Try.ntmps5
    go_wp2_with fail
    refine (new_any s _).mono ?_
    rintro e w1 ⟨p, rfl, hp, hS1, hb1⟩
    go_wp2_with fail
    refine (shuffle_any _ hS1 n (by omega)).mono ?_
    rw [hL'.out, hs2'.out]
    rintro e w2 ⟨A, c, rfl, ho2, hS2, hf2⟩
    have hb2 := hb1.trans (hf2.below (fun i h => by omega) hb1.size)
    have hr2 := (own_row ho2).mono (T := fun i => w1.heap.size ≤ i ∧ i < w2.heap.size) (fun i hi h => ⟨(own_lt ho2 i h).1, hi⟩)
    have lp := hS1.lt
    clear ho2 hf2
    go_wp2_with fail
    refine (awake_any _).mono ?_
    rintro e w3 ⟨rfl, hb3'⟩
    have hS3 := hS2.below hb3'
    have hr3 := hr2.up hb3'
    have hb3 := hb2.trans (hb3'.mono hb2.size)
    go_wp2_with fail
    refine (perm_any _ (hr3.mono (T := fun _ => True) (fun _ _ _ => trivial)) hI'.out (by omega)).mono ?_
    rw [hgood'.out]
    rintro e w4 ⟨rfl, hb4'⟩
    have hS4 := hS3.below hb4'
    have hr4 := hr3.up hb4'
    have hb4 := hb3.trans (hb4'.mono hb3.size)
    go_wp2_with fail
    refine (refshuffle_any _ s n (by omega)).mono ?_
    rw [hL'.out]
    rintro e w5 ⟨A5, c5, rfl, ho5, hb5'⟩
    have hS5 := hS4.below hb5'
    have hr5 := hr4.up hb5'
    have hb5 := hb4.trans (hb5'.mono hb4.size)
    have hq5 := (own_row ho5).mono (T := fun _ => True) (fun _ _ _ => trivial)
    go_wp2_with fail
    refine (same_any _ (hr5.mono (T := fun _ => True) (fun _ _ _ => trivial)) hq5 (by omega)).mono ?_
    rw [decide_eq_true (rfl : L = L)]
    rintro e w6 ⟨rfl, hb6'⟩
    have hS6 := hS5.below hb6'
    have hb6 := hb5.trans (hb6'.mono hb5.size)
    go_wp2_with fail
    refine (next_any _ hS6).mono ?_
    rintro e w7 ⟨rfl, hS7, hf7⟩
    have hb7 := hb6.trans (hf7.below (B := w.heap.size) (fun i h => by omega) hb6.size)
    go_wp2_with fail
    refine (at_v s (BitVec.ofNat 64 (n - 1) + 1#64) _ (by unfold n64; rw [BitVec.toNat_add, BitVec.toNat_ofNat]; simp; omega) _).mono ?_
    rw [hout.out]
    rintro e w8 ⟨rfl, rfl⟩
    go_wp2_with fail
    go_ret
    exact ⟨rfl, hb7⟩
theorem walk (w : World) (s : BitVec 64) (n : Int) (_hn : -9223372036854775808 ≤ n ∧ n ≤ 9223372036854775807) :
    Calls Try.prog 5 #[.int .u64 (n64 s), .int .i64 n] w fun e w' => e = .returned (.bool true) ∧ Below w.heap.size w w' := by
  by_cases h : n < 0 ∨ 10000 < n
  · exact out_of s n h w
  · by_cases h2 : 300 < n
    · exact middle s n h2 (by omega) w
    · obtain ⟨N, rfl⟩ : ∃ N : Nat, n = (N : Int) := ⟨n.toNat, by omega⟩
      exact inside s N (by omega) w
theorem contract (H : Type) (enc : TypeId × Value → H) (W : World) (base : Nat) (args : Array Value) (ds gs : List (DataW H)) (before : List MemPlace)
    (hval : ∀ (j : Nat) t v, Try.f5.params[j]? = some t → args[j]? = some v → Value.okWide Try.prog W .any base t v)
    (hW : DataW.Whole enc Try.prog Try.f5.params.toList Rows.randomShuffleSpec.vars false W args.toList ds gs before) :
    Calls Try.prog 5 args W fun e W' => ∃ v, e = .returned v ∧ Rows.randomShuffleSpec.post enc Try.prog Try.f5 false true false false W args v W' := by
  have hW' := hW
  obtain ⟨p, q, hA0, hV, rfl, hfz, hnd⟩ := hW
  have hA : DataW.TrodAll enc Try.prog W 0 (fun _ => true) true Try.f5.params.toList args.toList ds p := hA0
  rw [Try.params5] at hA hval
  obtain ⟨v0, vs0, d0, ds0, p0, q0, hargs, rfl, rfl, h0, r0⟩ := trodAll_cons hA
  obtain ⟨v1, vs1, d1, ds1, p1, q1, rfl, rfl, rfl, h1, r1⟩ := trodAll_cons r0
  obtain ⟨rfl, rfl, rfl⟩ := trodAll_nil r1
  obtain rfl : args = #[v0, v1] := by cases args; simp_all
  obtain ⟨rfl, rfl⟩ := trodVars_none hV
  have k0 := h0
  have lt0 : ∀ x ∈ p0, x.block < W.heap.size := by obtain ⟨m, hm⟩ := k0; exact DataW.trod_lt m _ _ _ hm
  obtain ⟨n0, rfl, -, -, z0⟩ := open_int Try.underlying22 (hval 0 22 v0 rfl rfl) h0
  obtain ⟨u0, rfl⟩ := u64_bv z0
  have k1 := h1
  have lt1 : ∀ x ∈ p1, x.block < W.heap.size := by obtain ⟨m, hm⟩ := k1; exact DataW.trod_lt m _ _ _ hm
  obtain ⟨n1, rfl, -, -, z1⟩ := open_int Try.underlying3 (hval 1 3 v1 rfl rfl) h1
  clear hA0
  refine (walk W u0 n1 (bounds_i64 z1)).mono fun e W' ⟨he, bel⟩ => ?_
  subst he
  exact ⟨_, rfl, _, _, _, [], _, [], hW', trodAll_mk1 (shut_bool Try.underlying4 _), (trodAll_cons_mk (Below.trod laidOut (by kernel_rfl) (of_decide_eq_true (by kernel_rfl)) k0 bel lt0) (trodAll_cons_mk (Below.trod laidOut (by kernel_rfl) (of_decide_eq_true (by kernel_rfl)) k1 bel lt1) trodAll_mk0)), rfl, bel.frame _, fun h => by cases h⟩
set_option maxRecDepth 100000 in
theorem lifted (os : Os) (started : os.Started) (H : Type) (enc : TypeId × Value → H) :
    ReturnsInHanded {} Try.checked os 5 .any (Rows.randomShuffleSpec.pre6 enc Try.prog Try.f5 Rows.randomShuffleRow.domain false) (Rows.randomShuffleSpec.post enc Try.prog Try.f5 false true false false) := by
  refine returnsInHanded_of_change (C := Try.checked) own started (by kernel_rfl) Try.func5
    (ChangeSpec.witness6 (enc := enc) (C := Try.checked) false ⟨#[], #[.int .u64 0, .int .i64 0], []⟩ 8 (by kernel_rfl) (by kernel_rfl) (by kernel_rfl) (by kernel_rfl)) ?_
  intro W base args ds gs before hval hW _ _
  exact contract H enc W base args ds gs before hval hW
theorem said : Rows.RandomShuffleSaid :=
  OpenClaim.holds_of_wide 5 Try.f5 rfl rfl rfl rfl rfl rfl rfl ⟨rfl, rfl, rfl, rfl, rfl⟩ rfl rfl rfl rfl rfl (by kernel_rfl) Try.func5 (by kernel_rfl)
    (of_decide_eq_true (by kernel_rfl)) (by unfold Func.isWrapper; first | (rw [if_pos (by decide +kernel)]; kernel_rfl) | (rw [if_neg (by decide +kernel)]; exact ⟨rfl, rfl⟩))
    (fun os started H enc _ => lifted os started H enc)
#print axioms said
end Go.Proofs.Ytgbeljgpnhpphaa.randomShuffle
