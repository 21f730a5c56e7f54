/-
  With at most f liars that send anything, and messages that arrive in any order, some repeatedly, honest processes never deliver different payloads for one broadcast, nothing twice, and nothing else of an honest origin than what it broadcast.
-/
import Derived.Test.YtplijfgjdlghbaaBAgr
import Derived.Test.YtplijfgjdlghbaaBRunNo
import Derived.Test.YtplijfgjdlghbaaBHd
namespace Go.Proofs.Ytplijfgjdlghbaa.brachaAgrees
open Go.ChangeShapes Go.WideShapes Go.ChangeAt Go.RowKit Go.Pl
set_option maxRecDepth 100000 in
set_option maxHeartbeats 4000000 in
theorem walk (w : World) (n : Int) (_hn : -9223372036854775808 ≤ n ∧ n ≤ 9223372036854775807) {LA : Option Addr} {ln lc : Nat} {bs : List Bool} (hls : Row w (fun _ => True) 1 LA ln lc (bs.map bv)) {A : Option Addr} {len c : Nat} {xs : List Bra.Act} (hr : RdA w (fun _ => True) A len c xs) (hq : ∀ x ∈ xs, ActOk x) :
    Calls Try.prog 4 #[.int .i64 n, .slice LA ln lc, .slice A len c] w fun e w' => e = .returned (.bool true) ∧ Below w.heap.size w w' := by
  have hlsd := Lib.hid hls
  have hrd := Lib.hid hr
  have hqd := Lib.hid hq
  clear hls hr hq
  go_enter Try.func4, Try.ntmps4
  go_wp2_with fail
  refine (awake_any _).mono ?_
  rintro e w1 ⟨rfl, hb1⟩
  have hb1d := Lib.hid hb1
  by_cases hno : n < 1 ∨ 7 < n ∨ 80 < len
  · go_wp2_with fail
    refine (run_no w1 n LA ln lc A len c hno).mono ?_
    rintro e w2 ⟨g, rfl, hb2⟩
    clear hno
    go_wp2_with fail
    go_ret
    exact ⟨rfl, hb1d.out.trans (hb2.mono hb1d.out.size)⟩
  · obtain ⟨N, rfl⟩ : ∃ N : Nat, n = (N : Int) := ⟨n.toNat, by omega⟩
    have h1 : 1 ≤ N := by omega
    have h7 : N ≤ 7 := by omega
    have h80 : len ≤ 80 := by omega
    clear hno
    have hls1 := Lib.hid (hlsd.out.fr (Fr.of_below (F := fun _ => False) hb1) (fun _ _ h => h))
    have hr1 := Lib.hid (hrd.out.fr (Fr.of_below (F := fun _ => False) hb1) (fun _ _ h => h))
    clear hlsd hb1
    obtain ⟨liar, hliar⟩ : ∃ liar : Nat → Bool, ∀ i, liar i = bs.getD i false := ⟨fun i => bs.getD i false, fun _ => rfl⟩
    have hlid := Lib.hid hliar
    clear hliar
    go_wp2_with fail
    refine (run_any w1 N h1 h7 hls1.out hr1.out hqd.out h80 liar hlid.out).mono ?_
    intro e w2 hran
    by_cases hf : (Bra.bads N liar).length ≤ Bra.faults N
    · obtain ⟨g, K, rfl, hG, hb2, -⟩ := hran.1 hf
      have hlen : xs.length = len := hrd.out.1
      have hfine := Bra.fine_run h7 liar (xs := xs) (by omega) (fun x hx => ⟨(hqd.out x hx).2.2.2.2.2.2.2, (hqd.out x hx).2.2.2.2.2.2.1.2⟩)
      have hag := Lib.hid ((Bra.Hold.run hf xs).agree h1 hf)
      have hall := Lib.hid hfine.all
      have hcs := Lib.hid hfine.casts
      have hdl : Hid (∀ (j : Nat) (p : Bra.Proc), (xs.foldl (Bra.Grp.act N (Bra.bads N liar)) (Bra.Grp.start N liar)).all[j]? = some (some p) → p.done.length ≤ 1000000) := fun j p hp => by have := hfine.proc j p hp; omega
      have hGd := Lib.hid hG
      have hb2d := Lib.hid hb2
      clear hran hf hG hb2 hfine hlen
      go_wp2_with fail
      refine (agree_yes hGd.out hag.out (by rw [hall.out]; exact h7) (by rw [hall.out, hcs.out]) hdl.out).mono ?_
      rintro e w3 ⟨rfl, hb3⟩
      go_wp2_with fail
      go_ret
      exact ⟨rfl, (hb1d.out.trans (hb2d.out.mono hb1d.out.size)).trans (hb3.mono (Nat.le_trans hb1d.out.size hb2d.out.size))⟩
    · obtain ⟨g, rfl, hb2⟩ := hran.2 hf
      clear hran hf
      go_wp2_with fail
      go_ret
      exact ⟨rfl, hb1d.out.trans (hb2.mono hb1d.out.size)⟩
theorem contract (H : Type) (enc : TypeId × Value → H) (W : World) (base : Nat) (args : Array Value) (ds gs : List (DataW H)) (before : List MemPlace)
    (hval : ∀ (j : Nat) t v, Try.f4.params[j]? = some t → args[j]? = some v → Value.okWide Try.prog W .any base t v)
    (hW : DataW.Whole enc Try.prog Try.f4.params.toList Rows.brachaAgreesSpec.vars false W args.toList ds gs before) (hsz : (DataW.weightsEach Try.prog (Try.f4.params.toList ++ Rows.brachaAgreesSpec.plain.varTypes Try.prog) (ds ++ gs)).all (· ≤ reachBytes) = true) :
    Calls Try.prog 4 args W fun e W' => ∃ v, e = .returned v ∧ Rows.brachaAgreesSpec.post enc Try.prog Try.f4 false true false false W args v W' := by
  have hW' := hW
  obtain ⟨p, q, hA0, hV, rfl, hfz, hnd⟩ := hW
  have hA : DataW.TrodAll enc Try.prog W 0 (fun _ => true) true Try.f4.params.toList args.toList ds p := hA0
  rw [Try.params4] at hA hval hsz
  obtain ⟨v0, vs0, d0, ds0, p0, q0, hargs, rfl, rfl, h0, r0⟩ := trodAll_cons hA
  obtain ⟨v1, vs1, d1, ds1, p1, q1, rfl, rfl, rfl, h1, r1⟩ := trodAll_cons r0
  obtain ⟨v2, vs2, d2, ds2, p2, q2, rfl, rfl, rfl, h2, r2⟩ := trodAll_cons r1
  obtain ⟨rfl, rfl, rfl⟩ := trodAll_nil r2
  obtain rfl : args = #[v0, v1, v2] := by cases args; simp_all
  obtain ⟨rfl, rfl⟩ := trodVars_none hV
  obtain ⟨a1, len1, cap1, rfl⟩ := okWide_slice Try.underlying42 (hval 1 42 v1 rfl rfl)
  obtain ⟨a2, len2, cap2, rfl⟩ := okWide_slice Try.underlying43 (hval 2 43 v2 rfl rfl)
  have k0 := h0
  have lt0 : ∀ x ∈ p0, x.block < W.heap.size := by obtain ⟨m, hm⟩ := k0; exact DataW.trod_lt m _ _ _ hm
  obtain ⟨n0, rfl, -, -, z0⟩ := open_int Try.underlying3 (hval 0 3 v0 rfl rfl) h0
  have k1 := h1
  have lt1 : ∀ x ∈ p1, x.block < W.heap.size := by obtain ⟨m, hm⟩ := k1; exact DataW.trod_lt m _ _ _ hm
  obtain ⟨bs1, hrb1⟩ := bools_of_trod Try.underlying42 Try.underlying4 (by kernel_rfl) h1
  have k2 := h2
  have lt2 : ∀ x ∈ p2, x.block < W.heap.size := by obtain ⟨m, hm⟩ := k2; exact DataW.trod_lt m _ _ _ hm
  obtain ⟨xs2, hra2, hqa2⟩ := acts_of_trod Try.underlying43 Try.underlying94 (by kernel_rfl) rfl rfl rfl rfl rfl rfl rfl rfl rfl rfl Try.underlying35 (by kernel_rfl) rfl rfl rfl rfl rfl rfl rfl rfl rfl rfl rfl rfl rfl rfl rfl rfl rfl rfl rfl Try.underlying3 (by kernel_rfl) (by kernel_rfl) Try.underlying33 Try.underlying5 (by kernel_rfl) (by kernel_rfl) h2 (fun k hk => of_decide_eq_true (List.all_eq_true.1 hsz _ (DataW.weights_mem_each (j := 2) rfl rfl k hk)))
  clear hA0
  refine (walk W n0 (bounds_i64 z0) hrb1 hra2 hqa2).mono fun e W' ⟨he, bel⟩ => ?_
  subst he
  exact ⟨_, rfl, _, _, _, [], _, [], hW', trodAll_mk1 (shut_bool Try.underlying4 _), (trodAll_cons_mk (Below.trod laidOut (by kernel_rfl) (of_decide_eq_true (by kernel_rfl)) k0 bel lt0) (trodAll_cons_mk (Below.trod laidOut (by kernel_rfl) (of_decide_eq_true (by kernel_rfl)) k1 bel lt1) (trodAll_cons_mk (Below.trod laidOut (by kernel_rfl) (of_decide_eq_true (by kernel_rfl)) k2 bel lt2) trodAll_mk0))), rfl, bel.frame _, fun h => by cases h⟩
set_option maxRecDepth 100000 in
theorem lifted (os : Os) (started : os.Started) (H : Type) (enc : TypeId × Value → H) :
    ReturnsInHanded {} Try.checked os 4 .any (Rows.brachaAgreesSpec.pre6 enc Try.prog Try.f4 Rows.brachaAgreesRow.domain false) (Rows.brachaAgreesSpec.post enc Try.prog Try.f4 false true false false) := by
  refine returnsInHanded_of_change_sized (C := Try.checked) own started (by kernel_rfl) Try.func4
    (ChangeSpec.witness6 (enc := enc) (C := Try.checked) false ⟨#[], #[.int .i64 0, .slice none 0 0, .slice none 0 0], []⟩ 8 (by kernel_rfl) (by kernel_rfl) (by kernel_rfl) (by kernel_rfl)) ?_
  intro W base args ds gs before hval hW _ hsz _
  exact contract H enc W base args ds gs before hval hW hsz
theorem said : Rows.BrachaAgreesSaid :=
  OpenClaim.holds_of_wide 4 Try.f4 rfl rfl rfl rfl rfl rfl rfl ⟨rfl, rfl, rfl, rfl, rfl⟩ rfl rfl rfl rfl rfl (by kernel_rfl) Try.func4 (by kernel_rfl)
    (of_decide_eq_true (by kernel_rfl)) (by unfold Func.isWrapper; first | (rw [if_pos (by decide +kernel)]; kernel_rfl) | (rw [if_neg (by decide +kernel)]; exact ⟨rfl, rfl⟩))
    (fun os started H enc _ => lifted os started H enc)
#print axioms said
end Go.Proofs.Ytplijfgjdlghbaa.brachaAgrees
