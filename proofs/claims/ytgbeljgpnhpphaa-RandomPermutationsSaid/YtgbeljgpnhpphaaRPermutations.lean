/-
  The permutation of a rank has this rank; lists that are no permutations, and ranks from the factorial on, are refused.
-/
import Derived.Test.YtgbeljgpnhpphaaAwk
import Derived.Test.YtgbeljgpnhpphaaHd
import Derived.Test.YtgbeljgpnhpphaaUnrP
import Derived.Test.YtgbeljgpnhpphaaRefRankP
namespace Rnd
theorem castL_i64 {ns : List Nat} {n : Nat} (h : ns.Perm (List.range n)) (hn : n ≤ 20) : Go.Pl.I64s (castL ns) := by
  intro z hz
  simp only [castL, List.mem_map] at hz
  obtain ⟨j, hj, rfl⟩ := hz
  have := List.mem_range.1 (h.subset hj)
  omega
end Rnd
namespace Go.Proofs.Ytgbeljgpnhpphaa.randomPermutations
open Go.ChangeShapes Go.WideShapes Go.ChangeAt Go.RowKit Go.Pl
theorem long {A : Option Addr} {l c : Nat} (w : World) (n : Int) (u : BitVec 64) (hl : 40 < l) : Calls Try.prog 12 #[.slice A l c, .int .i64 n, .int .u64 (n64 u)] w fun e w' => e = .returned (.bool true) ∧ Below w.heap.size w w' := by
  go_enter Try.func12, Try.ntmps12
  go_wp2_with fail
  refine (awake_any _).mono ?_
  rintro e w2 ⟨rfl, hb2⟩
  go_wp2_with fail
  go_ret
  exact ⟨rfl, hb2⟩
set_option maxRecDepth 100000 in
set_option maxHeartbeats 2000000 in
theorem refused {A : Option Addr} {l c : Nat} {zs : List Int} (w : World) (hA : Row w (fun _ => True) 1 A l c (zs.map iv)) (hz : I64s zs) (hl : l ≤ 40) (n : Int) (hn : -9223372036854775808 ≤ n ∧ n ≤ 9223372036854775807) (u : BitVec 64)
    (hr : Rnd.rankP zs = none) : Calls Try.prog 12 #[.slice A l c, .int .i64 n, .int .u64 (n64 u)] w fun e w' => e = .returned (.bool true) ∧ Below w.heap.size w w' := by
  have hA' : Row w (fun i => i < w.heap.size) 1 A l c (zs.map iv) := hA.mono (fun i hi _ => hi)
  have hre : Hid (rankEnd (Rnd.rankP zs) = .returned (.tuple #[.int .u64 0, .int .i64 1])) := by show _ = _; rw [hr]; rfl
  have hz' := Lib.hid hz
  have hnn : (n < 0 ∨ 20 < n) ∨ (0 ≤ n ∧ n ≤ 20) := by omega
  have hnn' := Lib.hid hnn
  clear hr hz hnn
  go_enter Try.func12, Try.ntmps12
  go_wp2_with fail
  refine (rankp_any _ hA hz'.out).mono ?_
  rw [hre.out]
  rintro e w1 ⟨rfl, hb1⟩
  go_wp2_with fail
  refine (refrankp_any _ ((hA'.up hb1).mono (T := fun _ => True) (fun _ _ _ => trivial)) hz'.out (by omega)).mono ?_
  rw [hre.out]
  rintro e w4 ⟨rfl, hb4'⟩
  have hb4 := hb1.trans (hb4'.mono hb1.size)
  have hnn := hnn'.out
  clear hA hA' hb4' hb1 hnn'
  rcases hnn with hnn | ⟨hn0, hn1⟩
  · -- out of range
    have hnn' := Lib.hid hnn
    rcases hnn with hnn | hnn
    all_goals
      go_wp2_with fail
      refine (unrp_no _ n u hnn'.out).mono ?_
      rintro e w5 ⟨rfl, hb5'⟩
      have hb5 := hb4.trans (hb5'.mono hb4.size)
      go_wp2_with fail
      refine (awake_any _).mono ?_
      rintro e w6 ⟨rfl, hb6'⟩
      go_wp2_with fail
      go_ret
      exact ⟨rfl, hb5.trans (hb6'.mono hb5.size)⟩
  · obtain ⟨N, rfl⟩ : ∃ N : Nat, n = (N : Int) := ⟨n.toNat, by omega⟩
    have hN : N ≤ 20 := by omega
    have hfn := Rnd.fw_toNat N hN
    clear hn0 hn1 hn
    by_cases hbig : Rnd.fact N ≤ u.toNat
    · have hge : n64 (Rnd.fw N) ≤ n64 u := by unfold n64; omega
      have hbig' := Lib.hid hbig
      clear hbig hfn
      go_wp2_with fail
      refine (unrp_big _ N u hN hbig'.out).mono ?_
      rintro e w5 ⟨rfl, hb5'⟩
      have hb5 := hb4.trans (hb5'.mono hb4.size)
      go_wp2_with fail
      refine (reffactorial_any N hN _).mono ?_
      rintro e w6 ⟨rfl, rfl⟩
      go_wp2_with fail
      refine (awake_any _).mono ?_
      rintro e w6 ⟨rfl, hb6'⟩
      go_wp2_with fail
      go_ret
      exact ⟨rfl, hb5.trans (hb6'.mono hb5.size)⟩
    · have hlt : u.toNat < Rnd.fact N := by omega
      have hge : n64 u < n64 (Rnd.fw N) := by unfold n64; omega
      have hpm := Rnd.unrankN_perm N (List.range N) u.toNat List.length_range hlt
      have hln := Rnd.length_unrankN N (List.range N) u.toNat
      have hrk := Rnd.rankN_unrankN N (List.range N) u.toNat (Rnd.sorted_range N) List.length_range hlt
      have hlt' := Lib.hid hlt
      clear hbig hfn hlt
      go_wp2_with fail
      refine (unrp_any _ N u hN hlt'.out).mono ?_
      obtain ⟨R, hR⟩ : ∃ R, Rnd.unrankN N (List.range N) u.toNat = R := ⟨_, rfl⟩
      rw [hR] at hpm hln hrk ⊢
      have hres : Hid (rankEnd (Rnd.rankP (Rnd.castL R)) = .returned (.tuple #[.int .u64 (n64 u), .int .i64 0])) := by
        show _ = _
        rw [Rnd.rankP_castL (by rw [hln]; exact hpm) (by omega), hrk, BitVec.ofNat_toNat, BitVec.setWidth_eq]
        rfl
      have hI : Hid (I64s (Rnd.castL R)) := Rnd.castL_i64 hpm hN
      have hln' := Lib.hid hln
      clear hR hpm hrk hln
      rintro e w5 ⟨A5, c5, rfl, ho5, hb5'⟩
      rw [hln'.out] at ho5 ⊢
      have hb5 := hb4.trans (hb5'.mono hb4.size)
      have hr5 := (own_row ho5).mono (T := fun i => i < w5.heap.size) (fun _ h _ => h)
      go_wp2_with fail
      refine (reffactorial_any N hN _).mono ?_
      rintro e w6 ⟨rfl, rfl⟩
      go_wp2_with fail
      refine (rankp_any _ (hr5.mono (T := fun _ => True) (fun _ _ _ => trivial)) hI.out).mono ?_
      rw [hres.out]
      rintro e w6 ⟨rfl, hb6'⟩
      have hb6 := hb5.trans (hb6'.mono hb5.size)
      go_wp2_with fail
      refine (awake_any _).mono ?_
      rintro e w7 ⟨rfl, hb7'⟩
      go_wp2_with fail
      go_ret
      exact ⟨rfl, hb6.trans (hb7'.mono hb6.size)⟩
set_option maxRecDepth 100000 in
set_option maxHeartbeats 2000000 in
theorem accepted {A : Option Addr} {l c : Nat} (ns : List Nat) (w : World) (hA : Row w (fun _ => True) 1 A l c ((Rnd.castL ns).map iv)) (hl : l ≤ 20) (hp : ns.Perm (List.range ns.length)) (n : Int) (hn : -9223372036854775808 ≤ n ∧ n ≤ 9223372036854775807) (u : BitVec 64) :
    Calls Try.prog 12 #[.slice A l c, .int .i64 n, .int .u64 (n64 u)] w fun e w' => e = .returned (.bool true) ∧ Below w.heap.size w w' := by
  have hA' : Row w (fun i => i < w.heap.size) 1 A l c ((Rnd.castL ns).map iv) := hA.mono (fun i hi _ => hi)
  have hnl : l = ns.length := by have := hA.ints; rw [Rnd.length_castL] at this; exact this
  have hlt := Rnd.rankN_lt ns.length ns _ (Rnd.sorted_range _) hp (by simp)
  have hrt := Rnd.rank_toNat hp (by omega)
  have hun := Rnd.unrankN_rankN ns.length ns _ (Rnd.sorted_range _) hp (by simp)
  have hr := Rnd.rankP_castL hp (by omega)
  have hI' : Hid (I64s (Rnd.castL ns)) := Rnd.castL_i64 hp (by omega)
  obtain ⟨x, hx⟩ : ∃ x, BitVec.ofNat 64 (Rnd.rankN ns) = x := ⟨_, rfl⟩
  rw [hx] at hrt hr
  have hre : Hid (rankEnd (Rnd.rankP (Rnd.castL ns)) = .returned (.tuple #[.int .u64 (n64 x), .int .i64 0])) := by show _ = _; rw [hr]; rfl
  have hfl := Rnd.fw_toNat l hl
  have hxf : n64 x < n64 (Rnd.fw l) := by unfold n64; rw [hnl] at hfl ⊢; omega
  have hxl : Hid (x.toNat < Rnd.fact l) := by show _ < _; rw [hnl, hrt]; exact hlt
  have hunr : Hid (Rnd.unrankN l (List.range l) x.toNat = ns) := by show _ = _; rw [hrt, hnl]; exact hun
  have hnl' := Lib.hid hnl
  have hnn : (n < 0 ∨ 20 < n) ∨ (0 ≤ n ∧ n ≤ 20) := by omega
  have hnn' := Lib.hid hnn
  have hl9 : l ≤ 9223372036854775807 := by omega
  clear hr hlt hrt hun hx hfl hp hnn hnl
  go_enter Try.func12, Try.ntmps12
  go_wp2_with fail
  refine (rankp_any _ hA hI'.out).mono ?_
  rw [hre.out]
  rintro e w1 ⟨rfl, hb1⟩
  go_wp2_with fail
  have hA1 := hA'.up hb1
  refine (refrankp_any _ (hA1.mono (T := fun _ => True) (fun _ _ _ => trivial)) hI'.out hl9).mono ?_
  rw [hre.out]
  rintro e w2 ⟨rfl, hb2'⟩
  have hb2 := hb1.trans (hb2'.mono hb1.size)
  have hA2 := hA1.up hb2'
  go_wp2_with fail
  refine (unrp_any _ l x hl hxl.out).mono ?_
  rw [hunr.out]
  rintro e w3 ⟨A3, c3, rfl, ho3, hb3'⟩
  rw [← hnl'.out] at ho3 ⊢
  have hb3 := hb2.trans (hb3'.mono hb2.size)
  have hA3 := hA2.up hb3'
  have hr3 := (own_row ho3).mono (T := fun _ => True) (fun _ _ _ => trivial)
  go_wp2_with fail
  refine (same_any _ (hA3.mono (T := fun _ => True) (fun _ _ _ => trivial)) hr3 hl9).mono ?_
  rw [decide_eq_true (rfl : Rnd.castL ns = Rnd.castL ns)]
  rintro e w4 ⟨rfl, hb4'⟩
  have hb4 := hb3.trans (hb4'.mono hb3.size)
  go_wp2_with fail
  refine (reffactorial_any l hl _).mono ?_
  rintro e w5 ⟨rfl, rfl⟩
  have hnn := hnn'.out
  clear hA hA' hA1 hA2 hA3 hb2' hb3' hb4' hb1 hb2 hb3 hnn' ho3 hr3
  rcases hnn with hnn | ⟨hn0, hn1⟩
  · -- out of range
    have hnn' := Lib.hid hnn
    rcases hnn with hnn | hnn
    all_goals
      go_wp2_with fail
      refine (unrp_no _ n u hnn'.out).mono ?_
      rintro e w5 ⟨rfl, hb5'⟩
      have hb5 := hb4.trans (hb5'.mono hb4.size)
      go_wp2_with fail
      refine (awake_any _).mono ?_
      rintro e w6 ⟨rfl, hb6'⟩
      go_wp2_with fail
      go_ret
      exact ⟨rfl, hb5.trans (hb6'.mono hb5.size)⟩
  · obtain ⟨N, rfl⟩ : ∃ N : Nat, n = (N : Int) := ⟨n.toNat, by omega⟩
    have hN : N ≤ 20 := by omega
    have hfn := Rnd.fw_toNat N hN
    clear hn0 hn1 hn
    by_cases hbig : Rnd.fact N ≤ u.toNat
    · have hge : n64 (Rnd.fw N) ≤ n64 u := by unfold n64; omega
      have hbig' := Lib.hid hbig
      clear hbig hfn
      go_wp2_with fail
      refine (unrp_big _ N u hN hbig'.out).mono ?_
      rintro e w5 ⟨rfl, hb5'⟩
      have hb5 := hb4.trans (hb5'.mono hb4.size)
      go_wp2_with fail
      refine (reffactorial_any N hN _).mono ?_
      rintro e w6 ⟨rfl, rfl⟩
      go_wp2_with fail
      refine (awake_any _).mono ?_
      rintro e w6 ⟨rfl, hb6'⟩
      go_wp2_with fail
      go_ret
      exact ⟨rfl, hb5.trans (hb6'.mono hb5.size)⟩
    · have hlt : u.toNat < Rnd.fact N := by omega
      have hge : n64 u < n64 (Rnd.fw N) := by unfold n64; omega
      have hpm := Rnd.unrankN_perm N (List.range N) u.toNat List.length_range hlt
      have hln := Rnd.length_unrankN N (List.range N) u.toNat
      have hrk := Rnd.rankN_unrankN N (List.range N) u.toNat (Rnd.sorted_range N) List.length_range hlt
      have hlt' := Lib.hid hlt
      clear hbig hfn hlt
      go_wp2_with fail
      refine (unrp_any _ N u hN hlt'.out).mono ?_
      obtain ⟨R, hR⟩ : ∃ R, Rnd.unrankN N (List.range N) u.toNat = R := ⟨_, rfl⟩
      rw [hR] at hpm hln hrk ⊢
      have hres : Hid (rankEnd (Rnd.rankP (Rnd.castL R)) = .returned (.tuple #[.int .u64 (n64 u), .int .i64 0])) := by
        show _ = _
        rw [Rnd.rankP_castL (by rw [hln]; exact hpm) (by omega), hrk, BitVec.ofNat_toNat, BitVec.setWidth_eq]
        rfl
      have hI : Hid (I64s (Rnd.castL R)) := Rnd.castL_i64 hpm hN
      have hln' := Lib.hid hln
      clear hR hpm hrk hln
      rintro e w5 ⟨A5, c5, rfl, ho5, hb5'⟩
      rw [hln'.out] at ho5 ⊢
      have hb5 := hb4.trans (hb5'.mono hb4.size)
      have hr5 := (own_row ho5).mono (T := fun i => i < w5.heap.size) (fun _ h _ => h)
      go_wp2_with fail
      refine (reffactorial_any N hN _).mono ?_
      rintro e w6 ⟨rfl, rfl⟩
      go_wp2_with fail
      refine (rankp_any _ (hr5.mono (T := fun _ => True) (fun _ _ _ => trivial)) hI.out).mono ?_
      rw [hres.out]
      rintro e w6 ⟨rfl, hb6'⟩
      have hb6 := hb5.trans (hb6'.mono hb5.size)
      go_wp2_with fail
      refine (awake_any _).mono ?_
      rintro e w7 ⟨rfl, hb7'⟩
      go_wp2_with fail
      go_ret
      exact ⟨rfl, hb6.trans (hb7'.mono hb6.size)⟩
theorem walk {A : Option Addr} {l c : Nat} {zs : List Int} (w : World) (hA : Row w (fun _ => True) 1 A l c (zs.map iv)) (hz : I64s zs) (_hl9 : l ≤ 9223372036854775807) (n : Int) (hn : -9223372036854775808 ≤ n ∧ n ≤ 9223372036854775807) (u : BitVec 64) :
    Calls Try.prog 12 #[.slice A l c, .int .i64 n, .int .u64 (n64 u)] w fun e w' => e = .returned (.bool true) ∧ Below w.heap.size w w' := by
  by_cases hl : 40 < l
  · exact long w n u hl
  · cases hr : Rnd.rankP zs with
    | none => exact refused w hA hz (by omega) n hn u hr
    | some x =>
      obtain ⟨ns, rfl, hp, hl20, _⟩ := Rnd.rankP_some hr
      have hnl := hA.ints
      rw [Rnd.length_castL] at hnl
      exact accepted ns w hA (by omega) hp n hn u
theorem contract (H : Type) (enc : TypeId × Value → H) (W : World) (base : Nat) (args : Array Value) (ds gs : List (DataW H)) (before : List MemPlace)
    (hval : ∀ (j : Nat) t v, Try.f12.params[j]? = some t → args[j]? = some v → Value.okWide Try.prog W .any base t v)
    (hW : DataW.Whole enc Try.prog Try.f12.params.toList Rows.randomPermutationsSpec.vars false W args.toList ds gs before) :
    Calls Try.prog 12 args W fun e W' => ∃ v, e = .returned v ∧ Rows.randomPermutationsSpec.post enc Try.prog Try.f12 false true false false W args v W' := by
  have hW' := hW
  obtain ⟨p, q, hA0, hV, rfl, hfz, hnd⟩ := hW
  have hA : DataW.TrodAll enc Try.prog W 0 (fun _ => true) true Try.f12.params.toList args.toList ds p := hA0
  rw [Try.params12] at hA hval
  obtain ⟨v0, vs0, d0, ds0, p0, q0, hargs, rfl, rfl, h0, r0⟩ := trodAll_cons hA
  obtain ⟨v1, vs1, d1, ds1, p1, q1, rfl, rfl, rfl, h1, r1⟩ := trodAll_cons r0
  obtain ⟨v2, vs2, d2, ds2, p2, q2, rfl, rfl, rfl, h2, r2⟩ := trodAll_cons r1
  obtain ⟨rfl, rfl, rfl⟩ := trodAll_nil r2
  obtain rfl : args = #[v0, v1, v2] := by cases args; simp_all
  obtain ⟨rfl, rfl⟩ := trodVars_none hV
  obtain ⟨a0, len0, cap0, rfl⟩ := okWide_slice Try.underlying31 (hval 0 31 v0 rfl rfl)
  have k0 := h0
  have lt0 : ∀ x ∈ p0, x.block < W.heap.size := by obtain ⟨m, hm⟩ := k0; exact DataW.trod_lt m _ _ _ hm
  obtain ⟨zs0, w0, y0, x0⟩ := ints_of_trod Try.underlying31 Try.underlying3 (by kernel_rfl) h0
  have k1 := h1
  have lt1 : ∀ x ∈ p1, x.block < W.heap.size := by obtain ⟨m, hm⟩ := k1; exact DataW.trod_lt m _ _ _ hm
  obtain ⟨n1, rfl, -, -, z1⟩ := open_int Try.underlying3 (hval 1 3 v1 rfl rfl) h1
  have k2 := h2
  have lt2 : ∀ x ∈ p2, x.block < W.heap.size := by obtain ⟨m, hm⟩ := k2; exact DataW.trod_lt m _ _ _ hm
  obtain ⟨n2, rfl, -, -, z2⟩ := open_int Try.underlying22 (hval 2 22 v2 rfl rfl) h2
  obtain ⟨u2, rfl⟩ := u64_bv z2
  clear hA0
  refine (walk W w0 y0 x0 n1 (bounds_i64 z1) u2).mono fun e W' ⟨he, bel⟩ => ?_
  subst he
  exact ⟨_, rfl, _, _, _, [], _, [], hW', trodAll_mk1 (shut_bool Try.underlying4 _), (trodAll_cons_mk (Below.trod laidOut (by kernel_rfl) (of_decide_eq_true (by kernel_rfl)) k0 bel lt0) (trodAll_cons_mk (Below.trod laidOut (by kernel_rfl) (of_decide_eq_true (by kernel_rfl)) k1 bel lt1) (trodAll_cons_mk (Below.trod laidOut (by kernel_rfl) (of_decide_eq_true (by kernel_rfl)) k2 bel lt2) trodAll_mk0))), rfl, bel.frame _, fun h => by cases h⟩
set_option maxRecDepth 100000 in
theorem lifted (os : Os) (started : os.Started) (H : Type) (enc : TypeId × Value → H) :
    ReturnsInHanded {} Try.checked os 12 .any (Rows.randomPermutationsSpec.pre6 enc Try.prog Try.f12 Rows.randomPermutationsRow.domain false) (Rows.randomPermutationsSpec.post enc Try.prog Try.f12 false true false false) := by
  refine returnsInHanded_of_change (C := Try.checked) own started (by kernel_rfl) Try.func12
    (ChangeSpec.witness6 (enc := enc) (C := Try.checked) false ⟨#[], #[.slice none 0 0, .int .i64 0, .int .u64 0], []⟩ 8 (by kernel_rfl) (by kernel_rfl) (by kernel_rfl) (by kernel_rfl)) ?_
  intro W base args ds gs before hval hW _ _
  exact contract H enc W base args ds gs before hval hW
theorem said : Rows.RandomPermutationsSaid :=
  OpenClaim.holds_of_wide 12 Try.f12 rfl rfl rfl rfl rfl rfl rfl ⟨rfl, rfl, rfl, rfl, rfl⟩ rfl rfl rfl rfl rfl (by kernel_rfl) Try.func12 (by kernel_rfl)
    (of_decide_eq_true (by kernel_rfl)) (by unfold Func.isWrapper; first | (rw [if_pos (by decide +kernel)]; kernel_rfl) | (rw [if_neg (by decide +kernel)]; exact ⟨rfl, rfl⟩))
    (fun os started H enc _ => lifted os started H enc)
#print axioms said
end Go.Proofs.Ytgbeljgpnhpphaa.randomPermutations
