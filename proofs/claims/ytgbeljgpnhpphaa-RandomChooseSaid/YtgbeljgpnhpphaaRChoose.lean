/-
  Choose satisfies the recurrence of Pascal and is symmetric.
-/
import Derived.Test.YtgbeljgpnhpphaaAwk
import Derived.Test.YtgbeljgpnhpphaaHd
namespace Go.Proofs.Ytgbeljgpnhpphaa.randomChoose
open Go.ChangeShapes Go.WideShapes Go.ChangeAt Go.RowKit Go.Pl
theorem out_of (n k : Int) (h : n < 0 ∨ 60 < n) (w : World) : Calls Try.prog 6 #[.int .i64 n, .int .i64 k] w fun e w' => e = .returned (.bool true) ∧ Below w.heap.size w w' := by
  by_cases h0 : n < 0
  · go_enter Try.func6, Try.ntmps6
    go_wp2_with fail
    refine (pubchoose_no n k h _).mono ?_
    rintro e w1 ⟨rfl, rfl⟩
    go_wp2_with fail
    refine (awake_any _).mono ?_
    rintro e w2 ⟨rfl, hb2⟩
    go_wp2_with fail
    go_ret
    exact ⟨rfl, hb2⟩
  · have h1 : 60 < n := by omega
    have h0' : 0 ≤ n := by omega
    have h' := Lib.hid h
    clear h h0
    go_enter Try.func6, Try.ntmps6
    go_wp2_with fail
    refine (pubchoose_no n k h'.out _).mono ?_
    rintro e w1 ⟨rfl, rfl⟩
    go_wp2_with fail
    refine (awake_any _).mono ?_
    rintro e w2 ⟨rfl, hb2⟩
    go_wp2_with fail
    go_ret
    exact ⟨rfl, hb2⟩
set_option maxHeartbeats 1000000 in
theorem outside (n k : Int) (h0 : 0 ≤ n) (h1 : n ≤ 60) (h : k < 0 ∨ n < k) (w : World) : Calls Try.prog 6 #[.int .i64 n, .int .i64 k] w fun e w' => e = .returned (.bool true) ∧ Below w.heap.size w w' := by
  have hc : Hid (Rnd.chooseI n k = 0#64) := by show _ = _; unfold Rnd.chooseI; rw [if_pos h]
  have hz : Hid (n64 0#64 = 0) := rfl
  by_cases hk : k < 0
  · clear h
    go_enter Try.func6, Try.ntmps6
    go_wp2_with fail
    refine (pubchoose_any n k h0 h1 _).mono ?_
    rw [hc.out, hz.out]
    rintro e w1 ⟨rfl, hb1⟩
    go_wp2_with fail
    refine (refchoose_any n k h0 h1 _).mono ?_
    rw [hc.out, hz.out]
    rintro e w2 ⟨rfl, hb2'⟩
    have hb2 := hb1.trans (hb2'.mono hb1.size)
    go_wp2_with fail
    refine (awake_any _).mono ?_
    rintro e w3 ⟨rfl, hb3'⟩
    go_wp2_with fail
    go_ret
    exact ⟨rfl, hb2.trans (hb3'.mono hb2.size)⟩
  · have hk1 : n < k := by omega
    have hk0 : 0 ≤ k := by omega
    clear h hk
    go_enter Try.func6, Try.ntmps6
    go_wp2_with fail
    refine (pubchoose_any n k h0 h1 _).mono ?_
    rw [hc.out, hz.out]
    rintro e w1 ⟨rfl, hb1⟩
    go_wp2_with fail
    refine (refchoose_any n k h0 h1 _).mono ?_
    rw [hc.out, hz.out]
    rintro e w2 ⟨rfl, hb2'⟩
    have hb2 := hb1.trans (hb2'.mono hb1.size)
    go_wp2_with fail
    refine (awake_any _).mono ?_
    rintro e w3 ⟨rfl, hb3'⟩
    go_wp2_with fail
    go_ret
    exact ⟨rfl, hb2.trans (hb3'.mono hb2.size)⟩
set_option maxHeartbeats 1000000 in
theorem col0 (n : Nat) (h1 : n ≤ 60) (hn1 : 0 < n) (w : World) : Calls Try.prog 6 #[.int .i64 (n : Int), .int .i64 0] w fun e w' => e = .returned (.bool true) ∧ Below w.heap.size w w' := by
  have e1 : Hid (n64 (Rnd.chooseI (n : Int) 0) = 1) := by
    show _ = _
    rw [show (0 : Int) = ((0 : Nat) : Int) from rfl, Rnd.chooseI_nat, Rnd.bn_zero]; rfl
  have e2 : Hid (n64 (Rnd.chooseI (n : Int) (n : Int)) = 1) := by
    show _ = _
    rw [Rnd.chooseI_nat]; unfold Rnd.bn; rw [Rnd.binom_self]; rfl
  have hnb : ((n : Int) == 0) = false := by rw [beq_eq_false_iff_ne]; omega
  go_enter Try.func6, Try.ntmps6
  go_wp2_with fail
  refine (pubchoose_any _ _ (by omega) (by omega) _).mono ?_
  rw [e1.out]
  rintro e w1 ⟨rfl, hb1⟩
  go_wp2_with fail
  refine (refchoose_any _ _ (by omega) (by omega) _).mono ?_
  rw [e1.out]
  rintro e w2 ⟨rfl, hb2'⟩
  have hb2 := hb1.trans (hb2'.mono hb1.size)
  go_wp2_with fail
  refine (pubchoose_any _ _ (by omega) (by omega) _).mono ?_
  rw [e2.out]
  rintro e w3 ⟨rfl, hb3'⟩
  have hb3 := hb2.trans (hb3'.mono hb2.size)
  go_wp2_with fail
  refine (awake_any _).mono ?_
  rintro e w4 ⟨rfl, hb4'⟩
  go_wp2_with fail
  go_ret
  exact ⟨rfl, hb3.trans (hb4'.mono hb3.size)⟩
set_option maxHeartbeats 1000000 in
theorem zero (w : World) : Calls Try.prog 6 #[.int .i64 0, .int .i64 0] w fun e w' => e = .returned (.bool true) ∧ Below w.heap.size w w' := by
  have e1 : Hid (n64 (Rnd.chooseI 0 0) = 1) := by show _ = _; decide +kernel
  go_enter Try.func6, Try.ntmps6
  go_wp2_with fail
  refine (pubchoose_any _ _ (by omega) (by omega) _).mono ?_
  rw [e1.out]
  rintro e w1 ⟨rfl, hb1⟩
  go_wp2_with fail
  refine (refchoose_any _ _ (by omega) (by omega) _).mono ?_
  rw [e1.out]
  rintro e w2 ⟨rfl, hb2'⟩
  have hb2 := hb1.trans (hb2'.mono hb1.size)
  go_wp2_with fail
  refine (pubchoose_any _ _ (by omega) (by omega) _).mono ?_
  rw [e1.out]
  rintro e w3 ⟨rfl, hb3'⟩
  have hb3 := hb2.trans (hb3'.mono hb2.size)
  go_wp2_with fail
  refine (awake_any _).mono ?_
  rintro e w4 ⟨rfl, hb4'⟩
  go_wp2_with fail
  go_ret
  exact ⟨rfl, hb3.trans (hb4'.mono hb3.size)⟩
set_option maxRecDepth 100000 in
set_option maxHeartbeats 1000000 in
theorem inside (n k : Nat) (h1 : n ≤ 60) (hk : k ≤ n) (hn0 : 0 < n) (hk0 : 0 < k) (w : World) : Calls Try.prog 6 #[.int .i64 (n : Int), .int .i64 (k : Int)] w fun e w' => e = .returned (.bool true) ∧ Below w.heap.size w w' := by
  have hsym : Hid (Rnd.chooseI (n : Int) ((n : Int) - (k : Int)) = Rnd.bn n k) := by
    show _ = _
    rw [show (n : Int) - (k : Int) = ((n - k : Nat) : Int) by omega, Rnd.chooseI_nat]
    unfold Rnd.bn
    rw [Rnd.binom_symm n k hk]
  obtain ⟨m, rfl⟩ : ∃ m, n = m + 1 := ⟨n - 1, by omega⟩
  obtain ⟨j, rfl⟩ : ∃ j, k = j + 1 := ⟨k - 1, by omega⟩
  have hc : Hid (Rnd.chooseI ((m + 1 : Nat) : Int) ((j + 1 : Nat) : Int) = Rnd.bn (m + 1) (j + 1)) := Rnd.chooseI_nat _ _
  have ha : Hid (Rnd.chooseI (((m + 1 : Nat) : Int) - 1) (((j + 1 : Nat) : Int) - 1) = Rnd.bn m j) := by
    show _ = _
    rw [show ((m + 1 : Nat) : Int) - 1 = (m : Int) by omega, show ((j + 1 : Nat) : Int) - 1 = (j : Int) by omega, Rnd.chooseI_nat]
  have hb : Hid (Rnd.chooseI (((m + 1 : Nat) : Int) - 1) ((j + 1 : Nat) : Int) = Rnd.bn m (j + 1)) := by
    show _ = _
    rw [show ((m + 1 : Nat) : Int) - 1 = (m : Int) by omega, Rnd.chooseI_nat]
  have hab : Hid (Rnd.bn m j + Rnd.bn m (j + 1) = Rnd.bn (m + 1) (j + 1)) := by show _ = _; rw [BitVec.add_comm]; exact Rnd.bn_step m j
  have hnb : (((m + 1 : Nat) : Int) == 0) = false := by rw [beq_eq_false_iff_ne]; omega
  have hkb : (((j + 1 : Nat) : Int) == 0) = false := by rw [beq_eq_false_iff_ne]; omega
  obtain ⟨N, hN⟩ : ∃ N, m + 1 = N := ⟨_, rfl⟩
  obtain ⟨K, hK⟩ : ∃ K, j + 1 = K := ⟨_, rfl⟩
  have hN0 : 0 < N := by omega
  have hK0 : 0 < K := by omega
  rw [hN] at hsym hc ha hb hab hnb hk h1
  rw [hK] at hsym hc ha hb hab hkb hk
  rw [hN, hK]
  clear hN hK
  obtain ⟨X, hX⟩ : ∃ X, Rnd.bn N K = X := ⟨_, rfl⟩
  obtain ⟨Y, hY⟩ : ∃ Y, Rnd.bn m j = Y := ⟨_, rfl⟩
  obtain ⟨Z, hZ⟩ : ∃ Z, Rnd.bn m K = Z := ⟨_, rfl⟩
  rw [hX] at hsym hc
  rw [hY] at ha
  rw [hZ] at hb
  rw [hX, hY, hZ] at hab
  clear hX hY hZ
  go_enter Try.func6, Try.ntmps6
  go_wp2_with fail
  refine (pubchoose_any _ _ (by omega) (by omega) _).mono ?_
  rw [hc.out]
  rintro e w1 ⟨rfl, hb1⟩
  go_wp2_with fail
  refine (refchoose_any _ _ (by omega) (by omega) _).mono ?_
  rw [hc.out]
  rintro e w2 ⟨rfl, hb2'⟩
  have hb2 := hb1.trans (hb2'.mono hb1.size)
  go_wp2_with fail
  refine (pubchoose_any _ _ (by omega) (by omega) _).mono ?_
  rw [hsym.out]
  rintro e w3 ⟨rfl, hb3'⟩
  have hb3 := hb2.trans (hb3'.mono hb2.size)
  go_wp2_with fail
  refine (pubchoose_any _ _ (by omega) (by omega) _).mono ?_
  rw [ha.out]
  rintro e w4 ⟨rfl, hb4'⟩
  have hb4 := hb3.trans (hb4'.mono hb3.size)
  go_wp2_with fail
  refine (pubchoose_any _ _ (by omega) (by omega) _).mono ?_
  rw [hb.out]
  rintro e w5 ⟨rfl, hb5'⟩
  have hb5 := hb4.trans (hb5'.mono hb4.size)
  go_wp2_with fail
  refine (awake_any _).mono ?_
  rintro e w6 ⟨rfl, hb6'⟩
  have hab1 := hab.out
  go_wp2_with fail
  go_ret
  exact ⟨rfl, hb5.trans (hb6'.mono hb5.size)⟩
theorem walk (w : World) (n : Int) (_hn : -9223372036854775808 ≤ n ∧ n ≤ 9223372036854775807) (k : Int) (_hk : -9223372036854775808 ≤ k ∧ k ≤ 9223372036854775807) :
    Calls Try.prog 6 #[.int .i64 n, .int .i64 k] w fun e w' => e = .returned (.bool true) ∧ Below w.heap.size w w' := by
  by_cases h : n < 0 ∨ 60 < n
  · exact out_of n k h w
  · by_cases h2 : k < 0 ∨ n < k
    · exact outside n k (by omega) (by omega) h2 w
    · obtain ⟨N, rfl⟩ : ∃ N : Nat, n = (N : Int) := ⟨n.toNat, by omega⟩
      obtain ⟨K, rfl⟩ : ∃ K : Nat, k = (K : Int) := ⟨k.toNat, by omega⟩
      by_cases hK0 : K = 0
      · subst hK0
        by_cases hN0 : N = 0
        · subst hN0; exact zero w
        · exact col0 N (by omega) (by omega) w
      · exact inside N K (by omega) (by omega) (by omega) (by omega) w
theorem contract (H : Type) (enc : TypeId × Value → H) (W : World) (base : Nat) (args : Array Value) (ds gs : List (DataW H)) (before : List MemPlace)
    (hval : ∀ (j : Nat) t v, Try.f6.params[j]? = some t → args[j]? = some v → Value.okWide Try.prog W .any base t v)
    (hW : DataW.Whole enc Try.prog Try.f6.params.toList Rows.randomChooseSpec.vars false W args.toList ds gs before) :
    Calls Try.prog 6 args W fun e W' => ∃ v, e = .returned v ∧ Rows.randomChooseSpec.post enc Try.prog Try.f6 false true false false W args v W' := by
  have hW' := hW
  obtain ⟨p, q, hA0, hV, rfl, hfz, hnd⟩ := hW
  have hA : DataW.TrodAll enc Try.prog W 0 (fun _ => true) true Try.f6.params.toList args.toList ds p := hA0
  rw [Try.params6] at hA hval
  obtain ⟨v0, vs0, d0, ds0, p0, q0, hargs, rfl, rfl, h0, r0⟩ := trodAll_cons hA
  obtain ⟨v1, vs1, d1, ds1, p1, q1, rfl, rfl, rfl, h1, r1⟩ := trodAll_cons r0
  obtain ⟨rfl, rfl, rfl⟩ := trodAll_nil r1
  obtain rfl : args = #[v0, v1] := by cases args; simp_all
  obtain ⟨rfl, rfl⟩ := trodVars_none hV
  have k0 := h0
  have lt0 : ∀ x ∈ p0, x.block < W.heap.size := by obtain ⟨m, hm⟩ := k0; exact DataW.trod_lt m _ _ _ hm
  obtain ⟨n0, rfl, -, -, z0⟩ := open_int Try.underlying3 (hval 0 3 v0 rfl rfl) h0
  have k1 := h1
  have lt1 : ∀ x ∈ p1, x.block < W.heap.size := by obtain ⟨m, hm⟩ := k1; exact DataW.trod_lt m _ _ _ hm
  obtain ⟨n1, rfl, -, -, z1⟩ := open_int Try.underlying3 (hval 1 3 v1 rfl rfl) h1
  clear hA0
  refine (walk W n0 (bounds_i64 z0) n1 (bounds_i64 z1)).mono fun e W' ⟨he, bel⟩ => ?_
  subst he
  exact ⟨_, rfl, _, _, _, [], _, [], hW', trodAll_mk1 (shut_bool Try.underlying4 _), (trodAll_cons_mk (Below.trod laidOut (by kernel_rfl) (of_decide_eq_true (by kernel_rfl)) k0 bel lt0) (trodAll_cons_mk (Below.trod laidOut (by kernel_rfl) (of_decide_eq_true (by kernel_rfl)) k1 bel lt1) trodAll_mk0)), rfl, bel.frame _, fun h => by cases h⟩
set_option maxRecDepth 100000 in
theorem lifted (os : Os) (started : os.Started) (H : Type) (enc : TypeId × Value → H) :
    ReturnsInHanded {} Try.checked os 6 .any (Rows.randomChooseSpec.pre6 enc Try.prog Try.f6 Rows.randomChooseRow.domain false) (Rows.randomChooseSpec.post enc Try.prog Try.f6 false true false false) := by
  refine returnsInHanded_of_change (C := Try.checked) own started (by kernel_rfl) Try.func6
    (ChangeSpec.witness6 (enc := enc) (C := Try.checked) false ⟨#[], #[.int .i64 0, .int .i64 0], []⟩ 8 (by kernel_rfl) (by kernel_rfl) (by kernel_rfl) (by kernel_rfl)) ?_
  intro W base args ds gs before hval hW _ _
  exact contract H enc W base args ds gs before hval hW
theorem said : Rows.RandomChooseSaid :=
  OpenClaim.holds_of_wide 6 Try.f6 rfl rfl rfl rfl rfl rfl rfl ⟨rfl, rfl, rfl, rfl, rfl⟩ rfl rfl rfl rfl rfl (by kernel_rfl) Try.func6 (by kernel_rfl)
    (of_decide_eq_true (by kernel_rfl)) (by unfold Func.isWrapper; first | (rw [if_pos (by decide +kernel)]; kernel_rfl) | (rw [if_neg (by decide +kernel)]; exact ⟨rfl, rfl⟩))
    (fun os started H enc _ => lifted os started H enc)
#print axioms said
end Go.Proofs.Ytgbeljgpnhpphaa.randomChoose
