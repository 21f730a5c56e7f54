/-
  The increasing list of a rank has this rank, and ranks are below the number of the lists.
-/
import Derived.Test.YtgbeljgpnhpphaaAwk
import Derived.Test.YtgbeljgpnhpphaaHd
import Derived.Test.YtgbeljgpnhpphaaUnrS
import Derived.Test.YtgbeljgpnhpphaaRefRankS
namespace Go.Proofs.Ytgbeljgpnhpphaa.randomSubsets
open Go.ChangeShapes Go.WideShapes Go.ChangeAt Go.RowKit Go.Pl
theorem unrs_any_v (w : World) (n k : Int) (N K : Nat) (hN : n = (N : Int)) (hK : k = (K : Int)) (r : BitVec 64) (hn : N ≤ 60) (hk : K ≤ N) (h : r.toNat < Rnd.binom N K) :
    Calls Try.prog 31 #[.int .i64 n, .int .i64 k, .int .u64 (n64 r)] w fun e w' => Unranked w (some (Rnd.unrS N 0 K r.toNat)) e w' := by
  subst hN hK; exact unrs_any w N K r hn hk h
theorem unrs_big_v (w : World) (n k : Int) (N K : Nat) (hN : n = (N : Int)) (hK : k = (K : Int)) (r : BitVec 64) (hn : N ≤ 60) (hk : K ≤ N) (h : Rnd.binom N K ≤ r.toNat) :
    Calls Try.prog 31 #[.int .i64 n, .int .i64 k, .int .u64 (n64 r)] w fun e w' => Unranked w none e w' := by
  subst hN hK; exact unrs_big w N K r hn hk h
theorem long {A : Option Addr} {l c : Nat} (w : World) (n k : Int) (u : BitVec 64) (hl : 100 < l) : Calls Try.prog 10 #[.int .i64 n, .int .i64 k, .slice A l c, .int .u64 (n64 u)] w fun e w' => e = .returned (.bool true) ∧ Below w.heap.size w w' := by
  go_enter Try.func10, Try.ntmps10
  go_wp2_with fail
  refine (awake_any _).mono ?_
  rintro e w2 ⟨rfl, hb2⟩
  go_wp2_with fail
  go_ret
  exact ⟨rfl, hb2⟩
set_option maxRecDepth 100000 in
set_option maxHeartbeats 2000000 in
theorem refused {A : Option Addr} {l c : Nat} {zs : List Int} (w : World) (n : Int) (hn : -9223372036854775808 ≤ n ∧ n ≤ 9223372036854775807) (k : Int) (hk : -9223372036854775808 ≤ k ∧ k ≤ 9223372036854775807) (hA : Row w (fun _ => True) 1 A l c (zs.map iv)) (hz : I64s zs) (hl : l ≤ 100) (u : BitVec 64)
    (hr : Rnd.rankS n zs = none) : Calls Try.prog 10 #[.int .i64 n, .int .i64 k, .slice A l c, .int .u64 (n64 u)] w fun e w' => e = .returned (.bool true) ∧ Below w.heap.size w w' := by
  have hA' : Row w (fun i => i < w.heap.size) 1 A l c (zs.map iv) := hA.mono (fun i hi _ => hi)
  have hre : Hid (rankEnd (Rnd.rankS n zs) = .returned (.tuple #[.int .u64 0, .int .i64 1])) := by show _ = _; rw [hr]; rfl
  have hz' := Lib.hid hz
  have hnn : (n < 0 ∨ 0 ≤ n ∧ (60 < n ∨ n ≤ 60 ∧ (k < 0 ∨ 0 ≤ k ∧ n < k))) ∨ (0 ≤ n ∧ n ≤ 60 ∧ 0 ≤ k ∧ k ≤ n) := by omega
  have hnn' := Lib.hid hnn
  clear hnn
  clear hr hz
  go_enter Try.func10, Try.ntmps10
  go_wp2_with fail
  refine (ranks_any _ n hn hA hz'.out).mono ?_
  rw [hre.out]
  rintro e w1 ⟨rfl, hb1⟩
  go_wp2_with fail
  refine (refranks_any _ n hn ((hA'.up hb1).mono (T := fun _ => True) (fun _ _ _ => trivial)) hz'.out).mono ?_
  rw [hre.out]
  rintro e w4 ⟨rfl, hb4'⟩
  have hb4 := hb1.trans (hb4'.mono hb1.size)
  have hnn := hnn'.out
  clear hA hA' hb4' hb1 hnn'
  rcases hnn with hnn | ⟨hn0, hn1, hk0, hk1⟩
  · have hnn' := Lib.hid hnn
    rcases hnn with hnn | ⟨hn0, hnn | ⟨hn1, hnn | ⟨hk0, hnn⟩⟩⟩
    all_goals (try (exfalso; omega))
    all_goals
      go_wp2_with fail
      refine (unrs_no _ n k u hnn'.out).mono ?_
      rintro e w5 ⟨rfl, hb5'⟩
      have hb5 := hb4.trans (hb5'.mono hb4.size)
      go_wp2_with fail
      refine (awake_any _).mono ?_
      rintro e w6 ⟨rfl, hb6'⟩
      go_wp2_with fail
      go_ret
      exact ⟨rfl, hb5.trans (hb6'.mono hb5.size)⟩
  · obtain ⟨N, hN⟩ : ∃ N : Nat, n = (N : Int) := ⟨n.toNat, by omega⟩
    obtain ⟨K, hK⟩ : ∃ K : Nat, k = (K : Int) := ⟨k.toNat, by omega⟩
    have hN60 : N ≤ 60 := by omega
    have hKN : K ≤ N := by omega
    have hbt := Rnd.bn_toNat N K hN60
    have hch : Hid (Rnd.chooseI n k = Rnd.bn N K) := by show _ = _; rw [hN, hK, Rnd.chooseI_nat]
    have hN' := Lib.hid hN
    have hK' := Lib.hid hK
    clear hN hK
    by_cases hbig : Rnd.binom N K ≤ u.toNat
    · have hge : n64 (Rnd.bn N K) ≤ n64 u := by unfold n64; omega
      have hbig' := Lib.hid hbig
      clear hbig hbt
      go_wp2_with fail
      refine (unrs_big_v _ n k N K hN'.out hK'.out u hN60 hKN hbig'.out).mono ?_
      rintro e w5 ⟨rfl, hb5'⟩
      have hb5 := hb4.trans (hb5'.mono hb4.size)
      go_wp2_with fail
      refine (refchoose_any n k hn0 hn1 _).mono ?_
      rw [hch.out]
      rintro e w6 ⟨rfl, hb6'⟩
      have hb6 := hb5.trans (hb6'.mono hb5.size)
      go_wp2_with fail
      refine (awake_any _).mono ?_
      rintro e w7 ⟨rfl, hb7'⟩
      go_wp2_with fail
      go_ret
      exact ⟨rfl, hb6.trans (hb7'.mono hb6.size)⟩
    · have hlt : u.toNat < Rnd.binom N K := by omega
      have hge : n64 u < n64 (Rnd.bn N K) := by unfold n64; omega
      obtain ⟨hinc, hln, hrk⟩ := Rnd.unrS_spec N N 0 K u.toNat (by omega) hlt
      have hlt' := Lib.hid hlt
      clear hbig hbt hlt
      go_wp2_with fail
      refine (unrs_any_v _ n k N K hN'.out hK'.out u hN60 hKN hlt'.out).mono ?_
      obtain ⟨R, hR⟩ : ∃ R, Rnd.unrS N 0 K u.toNat = R := ⟨_, rfl⟩
      rw [hR] at hinc hln hrk ⊢
      have hres : Hid (rankEnd (Rnd.rankS n (Rnd.castL R)) = .returned (.tuple #[.int .u64 (n64 u), .int .i64 0])) := by
        show _ = _
        rw [hN'.out, Rnd.rankS_castL hN60 hinc, hrk, BitVec.ofNat_toNat, BitVec.setWidth_eq]
        rfl
      have hI : Hid (I64s (Rnd.castL R)) := Rnd.inc_i64 hN60 hinc
      have hln' := Lib.hid hln
      have hRk : Hid ((R.length : Int) = k) := by show _ = _; rw [hln, hK'.out]
      clear hR hinc hrk hln
      rintro e w5 ⟨A5, c5, rfl, ho5, hb5'⟩
      have hb5 := hb4.trans (hb5'.mono hb4.size)
      have hr5 := (own_row ho5).mono (T := fun i => i < w5.heap.size) (fun _ h _ => h)
      go_wp2_with fail
      refine (refchoose_any n k hn0 hn1 _).mono ?_
      rw [hch.out]
      rintro e w6 ⟨rfl, hb6'⟩
      have hb6 := hb5.trans (hb6'.mono hb5.size)
      have hr6 := hr5.up hb6'
      have hRk1 := hRk.out
      go_wp2_with fail
      refine (ranks_any _ n hn (hr6.mono (T := fun _ => True) (fun _ _ _ => trivial)) hI.out).mono ?_
      rw [hres.out]
      rintro e w7 ⟨rfl, hb7'⟩
      have hb7 := hb6.trans (hb7'.mono hb6.size)
      go_wp2_with fail
      refine (awake_any _).mono ?_
      rintro e w8 ⟨rfl, hb8'⟩
      go_wp2_with fail
      go_ret
      exact ⟨rfl, hb7.trans (hb8'.mono hb7.size)⟩
set_option maxRecDepth 100000 in
set_option maxHeartbeats 2000000 in
theorem accepted {A : Option Addr} {l c : Nat} (ns : List Nat) (M : Nat) (w : World) (n : Int) (hn : -9223372036854775808 ≤ n ∧ n ≤ 9223372036854775807) (k : Int) (hk : -9223372036854775808 ≤ k ∧ k ≤ 9223372036854775807) (hA : Row w (fun _ => True) 1 A l c ((Rnd.castL ns).map iv)) (u : BitVec 64)
    (hM0 : n = (M : Int)) (hM60 : M ≤ 60) (hi : Rnd.Inc M 0 ns) : Calls Try.prog 10 #[.int .i64 n, .int .i64 k, .slice A l c, .int .u64 (n64 u)] w fun e w' => e = .returned (.bool true) ∧ Below w.heap.size w w' := by
  have hA' : Row w (fun i => i < w.heap.size) 1 A l c ((Rnd.castL ns).map iv) := hA.mono (fun i hi _ => hi)
  have hnl : l = ns.length := by have := hA.ints; rw [Rnd.length_castL] at this; exact this
  have hlM : l ≤ M := by have := Rnd.inc_length hi; omega
  have hlt := Rnd.rankSN_lt M ns 0 hi
  have hrt := Rnd.rankS_toNat hM60 hi
  have hun := Rnd.unrS_rank M M 0 ns (by omega) hi
  have hr : Rnd.rankS n (Rnd.castL ns) = some (BitVec.ofNat 64 (Rnd.rankSN M 0 ns)) := by rw [hM0]; exact Rnd.rankS_castL hM60 hi
  have hI' : Hid (I64s (Rnd.castL ns)) := Rnd.inc_i64 hM60 hi
  obtain ⟨x, hx⟩ : ∃ x, BitVec.ofNat 64 (Rnd.rankSN M 0 ns) = x := ⟨_, rfl⟩
  rw [hx] at hrt hr
  have hre : Hid (rankEnd (Rnd.rankS n (Rnd.castL ns)) = .returned (.tuple #[.int .u64 (n64 x), .int .i64 0])) := by show _ = _; rw [hr]; rfl
  have hfl := Rnd.bn_toNat M l hM60
  have hxf : n64 x < n64 (Rnd.bn M l) := by unfold n64; rw [hnl] at hfl ⊢; rw [Nat.sub_zero] at hlt; omega
  have hxl : Hid (x.toNat < Rnd.binom M l) := by show _ < _; rw [hnl, hrt]; exact hlt
  have hunr : Hid (Rnd.unrS M 0 l x.toNat = ns) := by show _ = _; rw [hrt, hnl]; exact hun
  have hchl : Hid (Rnd.chooseI n (l : Int) = Rnd.bn M l) := by show _ = _; rw [hM0, Rnd.chooseI_nat]
  have hnl' := Lib.hid hnl
  have hM0' := Lib.hid hM0
  have hnl0 : 0 ≤ n := by omega
  have hnl1 : n ≤ 60 := by omega
  have hl9 : l ≤ 60 := by omega
  have hnn : (n < 0 ∨ 0 ≤ n ∧ (60 < n ∨ n ≤ 60 ∧ (k < 0 ∨ 0 ≤ k ∧ n < k))) ∨ (0 ≤ n ∧ n ≤ 60 ∧ 0 ≤ k ∧ k ≤ n) := by omega
  have hnn' := Lib.hid hnn
  clear hnn
  clear hr hlt hrt hun hx hfl hnl hi hM0
  go_enter Try.func10, Try.ntmps10
  go_wp2_with fail
  refine (ranks_any _ n hn hA hI'.out).mono ?_
  rw [hre.out]
  rintro e w1 ⟨rfl, hb1⟩
  go_wp2_with fail
  have hA1 := hA'.up hb1
  refine (refranks_any _ n hn (hA1.mono (T := fun _ => True) (fun _ _ _ => trivial)) hI'.out).mono ?_
  rw [hre.out]
  rintro e w2 ⟨rfl, hb2'⟩
  have hb2 := hb1.trans (hb2'.mono hb1.size)
  have hA2 := hA1.up hb2'
  go_wp2_with fail
  refine (unrs_any_v _ n (l : Int) M l hM0'.out rfl x hM60 hlM hxl.out).mono ?_
  rw [hunr.out]
  rintro e w3 ⟨A3, c3, rfl, ho3, hb3'⟩
  rw [← hnl'.out] at ho3 ⊢
  have hb3 := hb2.trans (hb3'.mono hb2.size)
  have hA3 := hA2.up hb3'
  have hr3 := (own_row ho3).mono (T := fun _ => True) (fun _ _ _ => trivial)
  go_wp2_with fail
  refine (same_any _ hr3 (hA3.mono (T := fun _ => True) (fun _ _ _ => trivial)) (by omega)).mono ?_
  rw [decide_eq_true (rfl : Rnd.castL ns = Rnd.castL ns)]
  rintro e w4 ⟨rfl, hb4'⟩
  have hb4 := hb3.trans (hb4'.mono hb3.size)
  go_wp2_with fail
  refine (refchoose_any n (l : Int) hnl0 hnl1 _).mono ?_
  rw [hchl.out]
  rintro e w5 ⟨rfl, hb5'⟩
  have hb4 := hb4.trans (hb5'.mono hb4.size)
  have hnn := hnn'.out
  clear hA hA' hA1 hA2 hA3 hb2' hb3' hb4' hb5' hb1 hb2 hb3 hnn' ho3 hr3
  rcases hnn with hnn | ⟨hn0, hn1, hk0, hk1⟩
  · have hnn' := Lib.hid hnn
    rcases hnn with hnn | ⟨hn0, hnn | ⟨hn1, hnn | ⟨hk0, hnn⟩⟩⟩
    all_goals (try (exfalso; omega))
    all_goals
      go_wp2_with fail
      refine (unrs_no _ n k u hnn'.out).mono ?_
      rintro e w5 ⟨rfl, hb5'⟩
      have hb5 := hb4.trans (hb5'.mono hb4.size)
      go_wp2_with fail
      refine (awake_any _).mono ?_
      rintro e w6 ⟨rfl, hb6'⟩
      go_wp2_with fail
      go_ret
      exact ⟨rfl, hb5.trans (hb6'.mono hb5.size)⟩
  · obtain ⟨N, hN⟩ : ∃ N : Nat, n = (N : Int) := ⟨n.toNat, by omega⟩
    obtain ⟨K, hK⟩ : ∃ K : Nat, k = (K : Int) := ⟨k.toNat, by omega⟩
    have hN60 : N ≤ 60 := by omega
    have hKN : K ≤ N := by omega
    have hbt := Rnd.bn_toNat N K hN60
    have hch : Hid (Rnd.chooseI n k = Rnd.bn N K) := by show _ = _; rw [hN, hK, Rnd.chooseI_nat]
    have hN' := Lib.hid hN
    have hK' := Lib.hid hK
    clear hN hK
    by_cases hbig : Rnd.binom N K ≤ u.toNat
    · have hge : n64 (Rnd.bn N K) ≤ n64 u := by unfold n64; omega
      have hbig' := Lib.hid hbig
      clear hbig hbt
      go_wp2_with fail
      refine (unrs_big_v _ n k N K hN'.out hK'.out u hN60 hKN hbig'.out).mono ?_
      rintro e w5 ⟨rfl, hb5'⟩
      have hb5 := hb4.trans (hb5'.mono hb4.size)
      go_wp2_with fail
      refine (refchoose_any n k hn0 hn1 _).mono ?_
      rw [hch.out]
      rintro e w6 ⟨rfl, hb6'⟩
      have hb6 := hb5.trans (hb6'.mono hb5.size)
      go_wp2_with fail
      refine (awake_any _).mono ?_
      rintro e w7 ⟨rfl, hb7'⟩
      go_wp2_with fail
      go_ret
      exact ⟨rfl, hb6.trans (hb7'.mono hb6.size)⟩
    · have hlt : u.toNat < Rnd.binom N K := by omega
      have hge : n64 u < n64 (Rnd.bn N K) := by unfold n64; omega
      obtain ⟨hinc, hln, hrk⟩ := Rnd.unrS_spec N N 0 K u.toNat (by omega) hlt
      have hlt' := Lib.hid hlt
      clear hbig hbt hlt
      go_wp2_with fail
      refine (unrs_any_v _ n k N K hN'.out hK'.out u hN60 hKN hlt'.out).mono ?_
      obtain ⟨R, hR⟩ : ∃ R, Rnd.unrS N 0 K u.toNat = R := ⟨_, rfl⟩
      rw [hR] at hinc hln hrk ⊢
      have hres : Hid (rankEnd (Rnd.rankS n (Rnd.castL R)) = .returned (.tuple #[.int .u64 (n64 u), .int .i64 0])) := by
        show _ = _
        rw [hN'.out, Rnd.rankS_castL hN60 hinc, hrk, BitVec.ofNat_toNat, BitVec.setWidth_eq]
        rfl
      have hI : Hid (I64s (Rnd.castL R)) := Rnd.inc_i64 hN60 hinc
      have hln' := Lib.hid hln
      have hRk : Hid ((R.length : Int) = k) := by show _ = _; rw [hln, hK'.out]
      clear hR hinc hrk hln
      rintro e w5 ⟨A5, c5, rfl, ho5, hb5'⟩
      have hb5 := hb4.trans (hb5'.mono hb4.size)
      have hr5 := (own_row ho5).mono (T := fun i => i < w5.heap.size) (fun _ h _ => h)
      go_wp2_with fail
      refine (refchoose_any n k hn0 hn1 _).mono ?_
      rw [hch.out]
      rintro e w6 ⟨rfl, hb6'⟩
      have hb6 := hb5.trans (hb6'.mono hb5.size)
      have hr6 := hr5.up hb6'
      have hRk1 := hRk.out
      go_wp2_with fail
      refine (ranks_any _ n hn (hr6.mono (T := fun _ => True) (fun _ _ _ => trivial)) hI.out).mono ?_
      rw [hres.out]
      rintro e w7 ⟨rfl, hb7'⟩
      have hb7 := hb6.trans (hb7'.mono hb6.size)
      go_wp2_with fail
      refine (awake_any _).mono ?_
      rintro e w8 ⟨rfl, hb8'⟩
      go_wp2_with fail
      go_ret
      exact ⟨rfl, hb7.trans (hb8'.mono hb7.size)⟩
theorem walk {A : Option Addr} {l c : Nat} {zs : List Int} (w : World) (n : Int) (hn : -9223372036854775808 ≤ n ∧ n ≤ 9223372036854775807) (k : Int) (hk : -9223372036854775808 ≤ k ∧ k ≤ 9223372036854775807) (hA : Row w (fun _ => True) 1 A l c (zs.map iv)) (hz : I64s zs) (_hl9 : l ≤ 9223372036854775807) (u : BitVec 64) :
    Calls Try.prog 10 #[.int .i64 n, .int .i64 k, .slice A l c, .int .u64 (n64 u)] w fun e w' => e = .returned (.bool true) ∧ Below w.heap.size w w' := by
  by_cases hl : 100 < l
  · exact long w n k u hl
  · cases hr : Rnd.rankS n zs with
    | none => exact refused w n hn k hk hA hz (by omega) u hr
    | some x =>
      obtain ⟨M, ns, hM, hM60, rfl, hi, _⟩ := Rnd.rankS_some hr
      exact accepted ns M w n hn k hk hA u hM hM60 hi
theorem contract (H : Type) (enc : TypeId × Value → H) (W : World) (base : Nat) (args : Array Value) (ds gs : List (DataW H)) (before : List MemPlace)
    (hval : ∀ (j : Nat) t v, Try.f10.params[j]? = some t → args[j]? = some v → Value.okWide Try.prog W .any base t v)
    (hW : DataW.Whole enc Try.prog Try.f10.params.toList Rows.randomSubsetsSpec.vars false W args.toList ds gs before) :
    Calls Try.prog 10 args W fun e W' => ∃ v, e = .returned v ∧ Rows.randomSubsetsSpec.post enc Try.prog Try.f10 false true false false W args v W' := by
  have hW' := hW
  obtain ⟨p, q, hA0, hV, rfl, hfz, hnd⟩ := hW
  have hA : DataW.TrodAll enc Try.prog W 0 (fun _ => true) true Try.f10.params.toList args.toList ds p := hA0
  rw [Try.params10] at hA hval
  obtain ⟨v0, vs0, d0, ds0, p0, q0, hargs, rfl, rfl, h0, r0⟩ := trodAll_cons hA
  obtain ⟨v1, vs1, d1, ds1, p1, q1, rfl, rfl, rfl, h1, r1⟩ := trodAll_cons r0
  obtain ⟨v2, vs2, d2, ds2, p2, q2, rfl, rfl, rfl, h2, r2⟩ := trodAll_cons r1
  obtain ⟨v3, vs3, d3, ds3, p3, q3, rfl, rfl, rfl, h3, r3⟩ := trodAll_cons r2
  obtain ⟨rfl, rfl, rfl⟩ := trodAll_nil r3
  obtain rfl : args = #[v0, v1, v2, v3] := by cases args; simp_all
  obtain ⟨rfl, rfl⟩ := trodVars_none hV
  obtain ⟨a2, len2, cap2, rfl⟩ := okWide_slice Try.underlying31 (hval 2 31 v2 rfl rfl)
  have k0 := h0
  have lt0 : ∀ x ∈ p0, x.block < W.heap.size := by obtain ⟨m, hm⟩ := k0; exact DataW.trod_lt m _ _ _ hm
  obtain ⟨n0, rfl, -, -, z0⟩ := open_int Try.underlying3 (hval 0 3 v0 rfl rfl) h0
  have k1 := h1
  have lt1 : ∀ x ∈ p1, x.block < W.heap.size := by obtain ⟨m, hm⟩ := k1; exact DataW.trod_lt m _ _ _ hm
  obtain ⟨n1, rfl, -, -, z1⟩ := open_int Try.underlying3 (hval 1 3 v1 rfl rfl) h1
  have k2 := h2
  have lt2 : ∀ x ∈ p2, x.block < W.heap.size := by obtain ⟨m, hm⟩ := k2; exact DataW.trod_lt m _ _ _ hm
  obtain ⟨zs2, w2, y2, x2⟩ := ints_of_trod Try.underlying31 Try.underlying3 (by kernel_rfl) h2
  have k3 := h3
  have lt3 : ∀ x ∈ p3, x.block < W.heap.size := by obtain ⟨m, hm⟩ := k3; exact DataW.trod_lt m _ _ _ hm
  obtain ⟨n3, rfl, -, -, z3⟩ := open_int Try.underlying22 (hval 3 22 v3 rfl rfl) h3
  obtain ⟨u3, rfl⟩ := u64_bv z3
  clear hA0
  refine (walk W n0 (bounds_i64 z0) n1 (bounds_i64 z1) w2 y2 x2 u3).mono fun e W' ⟨he, bel⟩ => ?_
  subst he
  exact ⟨_, rfl, _, _, _, [], _, [], hW', trodAll_mk1 (shut_bool Try.underlying4 _), (trodAll_cons_mk (Below.trod laidOut (by kernel_rfl) (of_decide_eq_true (by kernel_rfl)) k0 bel lt0) (trodAll_cons_mk (Below.trod laidOut (by kernel_rfl) (of_decide_eq_true (by kernel_rfl)) k1 bel lt1) (trodAll_cons_mk (Below.trod laidOut (by kernel_rfl) (of_decide_eq_true (by kernel_rfl)) k2 bel lt2) (trodAll_cons_mk (Below.trod laidOut (by kernel_rfl) (of_decide_eq_true (by kernel_rfl)) k3 bel lt3) trodAll_mk0)))), rfl, bel.frame _, fun h => by cases h⟩
set_option maxRecDepth 100000 in
theorem lifted (os : Os) (started : os.Started) (H : Type) (enc : TypeId × Value → H) :
    ReturnsInHanded {} Try.checked os 10 .any (Rows.randomSubsetsSpec.pre6 enc Try.prog Try.f10 Rows.randomSubsetsRow.domain false) (Rows.randomSubsetsSpec.post enc Try.prog Try.f10 false true false false) := by
  refine returnsInHanded_of_change (C := Try.checked) own started (by kernel_rfl) Try.func10
    (ChangeSpec.witness6 (enc := enc) (C := Try.checked) false ⟨#[], #[.int .i64 0, .int .i64 0, .slice none 0 0, .int .u64 0], []⟩ 8 (by kernel_rfl) (by kernel_rfl) (by kernel_rfl) (by kernel_rfl)) ?_
  intro W base args ds gs before hval hW _ _
  exact contract H enc W base args ds gs before hval hW
theorem said : Rows.RandomSubsetsSaid :=
  OpenClaim.holds_of_wide 10 Try.f10 rfl rfl rfl rfl rfl rfl rfl ⟨rfl, rfl, rfl, rfl, rfl⟩ rfl rfl rfl rfl rfl (by kernel_rfl) Try.func10 (by kernel_rfl)
    (of_decide_eq_true (by kernel_rfl)) (by unfold Func.isWrapper; first | (rw [if_pos (by decide +kernel)]; kernel_rfl) | (rw [if_neg (by decide +kernel)]; exact ⟨rfl, rfl⟩))
    (fun os started H enc _ => lifted os started H enc)
#print axioms said
end Go.Proofs.Ytgbeljgpnhpphaa.randomSubsets
