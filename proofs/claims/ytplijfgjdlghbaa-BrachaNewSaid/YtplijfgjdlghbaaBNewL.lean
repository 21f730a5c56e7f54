/-
  New accepts exactly the documented numbers, and Faults returns the greatest number f with 3f < n.
-/
import Derived.Test.YtplijfgjdlghbaaBHd
namespace Go.Proofs.Ytplijfgjdlghbaa.brachaNew
open Go.ChangeShapes Go.WideShapes Go.ChangeAt Go.RowKit Go.Pl
set_option maxRecDepth 100000 in
set_option maxHeartbeats 1000000 in
theorem walk_yes (w : World) (n self : Nat) (h1 : 1 ≤ n) (h2 : n ≤ 64) (h3 : self < n) :
    Calls Try.prog 9 #[.int .i64 n, .int .i64 self] w fun e w' => e = .returned (.bool true) ∧ Below w.heap.size w w' := by
  have f1 : 0 ≤ ((Bra.faults n : Nat) : Int) := by omega
  have f2 : ((Bra.faults n : Nat) : Int) ≤ (n : Int) / 3 := by unfold Bra.faults; omega
  have f3 : 1 ≤ (n : Int) - 3 * ((Bra.faults n : Nat) : Int) := by unfold Bra.faults; omega
  have f4 : (n : Int) - 3 * ((Bra.faults n : Nat) : Int) ≤ 3 := by unfold Bra.faults; omega
  have hN : (n : Int).toNat = n := Int.toNat_natCast n
  obtain ⟨fl, hfl⟩ : ∃ fl, Bra.faults n = fl := ⟨_, rfl⟩
  rw [hfl] at f1 f2 f3 f4
  have hfl' := Lib.hid hfl
  have hN' := Lib.hid hN
  clear hfl hN
  have e1 : (1 : Int) ≤ (n : Int) := by omega
  have e2 : (n : Int) ≤ 64 := by omega
  have e3 : 0 ≤ (self : Int) := by omega
  have e4 : (self : Int) < (n : Int) := by omega
  go_enter Try.func9, Try.ntmps9
  go_wp2_with fail
  refine (awake_any _).mono ?_
  rintro e w1 ⟨rfl, hb1⟩
  go_wp2_with fail
  refine (new_any _ n self h1 h2 h3).mono ?_
  rintro e w2 ⟨G, L, rfl, hp, hl, hb2'⟩
  have hb2 := hb1.trans (hb2'.mono hb1.size)
  clear hl hb2'
  go_wp2_with fail
  refine (delivered_any hp).mono ?_
  rintro e w3 ⟨A, k, c, rfl, hd, hb3'⟩
  have hb3 := hb2.trans (hb3'.mono hb2.size)
  obtain rfl : k = 0 := hd.len
  clear hd hb3' hp
  go_wp2_with fail
  refine (faults_any _ n ⟨by omega, by omega⟩).mono ?_
  rw [hN'.out, hfl'.out]
  rintro e w4 ⟨rfl, rfl⟩
  go_wp2_with fail
  go_ret
  exact ⟨rfl, hb3⟩
set_option maxRecDepth 100000 in
set_option maxHeartbeats 1000000 in
theorem walk_no (w : World) (n self : Int) (hn : I64 n) (h : ¬ (1 ≤ n ∧ n ≤ 64 ∧ 0 ≤ self ∧ self < n)) :
    Calls Try.prog 9 #[.int .i64 n, .int .i64 self] w fun e w' => e = .returned (.bool true) ∧ Below w.heap.size w w' := by
  have hlo := hn.1
  have hhi := hn.2
  have f0 : n < 1 → ((Bra.faults n.toNat : Nat) : Int) = 0 := fun h => by unfold Bra.faults; omega
  have f1 : 0 ≤ ((Bra.faults n.toNat : Nat) : Int) := by omega
  have f2 : 1 ≤ n → ((Bra.faults n.toNat : Nat) : Int) ≤ n / 3 := fun h => by unfold Bra.faults; omega
  have f3 : 1 ≤ n → 1 ≤ n - 3 * ((Bra.faults n.toNat : Nat) : Int) := fun h => by unfold Bra.faults; omega
  have f4 : 1 ≤ n → n - 3 * ((Bra.faults n.toNat : Nat) : Int) ≤ 3 := fun h => by unfold Bra.faults; omega
  have hfa := fun w => faults_any w n ⟨hlo, hhi⟩
  obtain ⟨fl, hfl⟩ : ∃ fl, Bra.faults n.toNat = fl := ⟨_, rfl⟩
  rw [hfl] at f0 f1 f2 f3 f4 hfa
  have hfa' := Lib.hid hfa
  have hnew := Lib.hid (fun w => new_no w n self h)
  clear hfl hfa
  by_cases c1 : 1 ≤ n
  · have g2 := f2 c1
    have g3 := f3 c1
    have g4 := f4 c1
    clear f0 f2 f3 f4
    by_cases c2 : n ≤ 64
    · by_cases c3 : 0 ≤ self
      · have c4 : ¬ self < n := by omega
        clear h
        go_enter Try.func9, Try.ntmps9
        go_wp2_with fail
        refine (awake_any _).mono ?_
        rintro e w1 ⟨rfl, hb1⟩
        go_wp2_with fail
        refine (hnew.out _).mono ?_
        rintro e w2 ⟨rfl, rfl⟩
        go_wp2_with fail
        refine (hfa'.out _).mono ?_
        rintro e w3 ⟨rfl, rfl⟩
        go_wp2_with fail
        go_ret
        exact ⟨rfl, hb1⟩
      · clear h
        go_enter Try.func9, Try.ntmps9
        go_wp2_with fail
        refine (awake_any _).mono ?_
        rintro e w1 ⟨rfl, hb1⟩
        go_wp2_with fail
        refine (hnew.out _).mono ?_
        rintro e w2 ⟨rfl, rfl⟩
        go_wp2_with fail
        refine (hfa'.out _).mono ?_
        rintro e w3 ⟨rfl, rfl⟩
        go_wp2_with fail
        go_ret
        exact ⟨rfl, hb1⟩
    · clear h
      go_enter Try.func9, Try.ntmps9
      go_wp2_with fail
      refine (awake_any _).mono ?_
      rintro e w1 ⟨rfl, hb1⟩
      go_wp2_with fail
      refine (hnew.out _).mono ?_
      rintro e w2 ⟨rfl, rfl⟩
      go_wp2_with fail
      refine (hfa'.out _).mono ?_
      rintro e w3 ⟨rfl, rfl⟩
      go_wp2_with fail
      go_ret
      exact ⟨rfl, hb1⟩
  · have g0 := f0 (by omega)
    clear f0 f2 f3 f4 h f1
    have hfz : Hid (fl = 0) := by show _ = _; omega
    rw [hfz.out] at hfa'
    clear g0
    go_enter Try.func9, Try.ntmps9
    go_wp2_with fail
    refine (awake_any _).mono ?_
    rintro e w1 ⟨rfl, hb1⟩
    go_wp2_with fail
    refine (hnew.out _).mono ?_
    rintro e w2 ⟨rfl, rfl⟩
    go_wp2_with fail
    refine (hfa'.out _).mono ?_
    rintro e w3 ⟨rfl, rfl⟩
    go_wp2_with fail
    go_ret
    exact ⟨rfl, hb1⟩
theorem walk (w : World) (n : Int) (hn : -9223372036854775808 ≤ n ∧ n ≤ 9223372036854775807) (self : Int) (_hs : -9223372036854775808 ≤ self ∧ self ≤ 9223372036854775807) :
    Calls Try.prog 9 #[.int .i64 n, .int .i64 self] w fun e w' => e = .returned (.bool true) ∧ Below w.heap.size w w' := by
  by_cases h : 1 ≤ n ∧ n ≤ 64 ∧ 0 ≤ self ∧ self < n
  · obtain ⟨N, rfl⟩ : ∃ N : Nat, n = (N : Int) := ⟨n.toNat, by omega⟩
    obtain ⟨S, rfl⟩ : ∃ S : Nat, self = (S : Int) := ⟨self.toNat, by omega⟩
    exact walk_yes w N S (by omega) (by omega) (by omega)
  · exact walk_no w n self hn h
theorem contract (H : Type) (enc : TypeId × Value → H) (W : World) (base : Nat) (args : Array Value) (ds gs : List (DataW H)) (before : List MemPlace)
    (hval : ∀ (j : Nat) t v, Try.f9.params[j]? = some t → args[j]? = some v → Value.okWide Try.prog W .any base t v)
    (hW : DataW.Whole enc Try.prog Try.f9.params.toList Rows.brachaNewSpec.vars false W args.toList ds gs before) :
    Calls Try.prog 9 args W fun e W' => ∃ v, e = .returned v ∧ Rows.brachaNewSpec.post enc Try.prog Try.f9 false true false false W args v W' := by
  have hW' := hW
  obtain ⟨p, q, hA0, hV, rfl, hfz, hnd⟩ := hW
  have hA : DataW.TrodAll enc Try.prog W 0 (fun _ => true) true Try.f9.params.toList args.toList ds p := hA0
  rw [Try.params9] at hA hval
  obtain ⟨v0, vs0, d0, ds0, p0, q0, hargs, rfl, rfl, h0, r0⟩ := trodAll_cons hA
  obtain ⟨v1, vs1, d1, ds1, p1, q1, rfl, rfl, rfl, h1, r1⟩ := trodAll_cons r0
  obtain ⟨rfl, rfl, rfl⟩ := trodAll_nil r1
  obtain rfl : args = #[v0, v1] := by cases args; simp_all
  obtain ⟨rfl, rfl⟩ := trodVars_none hV
  have k0 := h0
  have lt0 : ∀ x ∈ p0, x.block < W.heap.size := by obtain ⟨m, hm⟩ := k0; exact DataW.trod_lt m _ _ _ hm
  obtain ⟨n0, rfl, -, -, z0⟩ := open_int Try.underlying3 (hval 0 3 v0 rfl rfl) h0
  have k1 := h1
  have lt1 : ∀ x ∈ p1, x.block < W.heap.size := by obtain ⟨m, hm⟩ := k1; exact DataW.trod_lt m _ _ _ hm
  obtain ⟨n1, rfl, -, -, z1⟩ := open_int Try.underlying3 (hval 1 3 v1 rfl rfl) h1
  clear hA0
  refine (walk W n0 (bounds_i64 z0) n1 (bounds_i64 z1)).mono fun e W' ⟨he, bel⟩ => ?_
  subst he
  exact ⟨_, rfl, _, _, _, [], _, [], hW', trodAll_mk1 (shut_bool Try.underlying4 _), (trodAll_cons_mk (Below.trod laidOut (by kernel_rfl) (of_decide_eq_true (by kernel_rfl)) k0 bel lt0) (trodAll_cons_mk (Below.trod laidOut (by kernel_rfl) (of_decide_eq_true (by kernel_rfl)) k1 bel lt1) trodAll_mk0)), rfl, bel.frame _, fun h => by cases h⟩
set_option maxRecDepth 100000 in
theorem lifted (os : Os) (started : os.Started) (H : Type) (enc : TypeId × Value → H) :
    ReturnsInHanded {} Try.checked os 9 .any (Rows.brachaNewSpec.pre6 enc Try.prog Try.f9 Rows.brachaNewRow.domain false) (Rows.brachaNewSpec.post enc Try.prog Try.f9 false true false false) := by
  refine returnsInHanded_of_change (C := Try.checked) own started (by kernel_rfl) Try.func9
    (ChangeSpec.witness6 (enc := enc) (C := Try.checked) false ⟨#[], #[.int .i64 0, .int .i64 0], []⟩ 8 (by kernel_rfl) (by kernel_rfl) (by kernel_rfl) (by kernel_rfl)) ?_
  intro W base args ds gs before hval hW _ _
  exact contract H enc W base args ds gs before hval hW
theorem said : Rows.BrachaNewSaid :=
  OpenClaim.holds_of_wide 9 Try.f9 rfl rfl rfl rfl rfl rfl rfl ⟨rfl, rfl, rfl, rfl, rfl⟩ rfl rfl rfl rfl rfl (by kernel_rfl) Try.func9 (by kernel_rfl)
    (of_decide_eq_true (by kernel_rfl)) (by unfold Func.isWrapper; first | (rw [if_pos (by decide +kernel)]; kernel_rfl) | (rw [if_neg (by decide +kernel)]; exact ⟨rfl, rfl⟩))
    (fun os started H enc _ => lifted os started H enc)
#print axioms said
end Go.Proofs.Ytplijfgjdlghbaa.brachaNew
