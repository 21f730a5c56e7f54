/-
  Of two permutations, or two increasing lists, of one kind the lesser one has the lesser rank.
-/
import Derived.Test.YtgbeljgpnhpphaaAwk
import Derived.Test.YtgbeljgpnhpphaaHd
import Derived.Test.YtgbeljgpnhpphaaSubLaw
namespace Go.Proofs.Ytgbeljgpnhpphaa.randomLexicographic
open Go.ChangeShapes Go.WideShapes Go.ChangeAt Go.RowKit Go.Pl
theorem rankEnd_any (r : Option (BitVec 64)) : ∃ x i, rankEnd r = .returned (.tuple #[.int .u64 (n64 x), .int .i64 i]) := by
  cases r with
  | none => exact ⟨0#64, 1, rfl⟩
  | some x => exact ⟨x, 0, rfl⟩
/-- What can be said of the two increasing lists. -/
theorem subs_cases {za zb : List Int} (n : Int) {la lb : Nat} (ha : la = za.length) (hb : lb = zb.length) :
    la ≠ lb ∨ la = lb ∧ (Rnd.rankS n za = none ∨ ∃ x, Rnd.rankS n za = some x ∧ (Rnd.rankS n zb = none ∨ ∃ y, Rnd.rankS n zb = some y ∧ Rnd.lessL za zb = decide (n64 x < n64 y))) := by
  by_cases h : la = lb
  · refine .inr ⟨h, ?_⟩
    cases hx : Rnd.rankS n za with
    | none => exact .inl rfl
    | some x =>
      refine .inr ⟨x, rfl, ?_⟩
      cases hy : Rnd.rankS n zb with
      | none => exact .inl rfl
      | some y =>
        refine .inr ⟨y, rfl, ?_⟩
        obtain ⟨N, ns, rfl, hN, rfl, hi, rfl⟩ := Rnd.rankS_some hx
        obtain ⟨N', ms, hNN, _, rfl, hi', rfl⟩ := Rnd.rankS_some hy
        obtain rfl : N' = N := by omega
        rw [Rnd.length_castL] at ha hb
        rw [Rnd.less_rankS N' ns ms 0 hi hi' (by omega)]
        unfold n64
        rw [Rnd.rankS_toNat hN hi, Rnd.rankS_toNat hN hi', Bool.eq_iff_iff]
        simp
  · exact .inl h
theorem perms_less {zp zq : List Int} {x y : BitVec 64} (hl : zp.length = zq.length) (hx : Rnd.rankP zp = some x) (hy : Rnd.rankP zq = some y) : Rnd.lessL zp zq = decide (n64 x < n64 y) := by
  obtain ⟨ns, rfl, hp, h20, rfl⟩ := Rnd.rankP_some hx
  obtain ⟨ms, rfl, hq, h20', rfl⟩ := Rnd.rankP_some hy
  rw [Rnd.length_castL, Rnd.length_castL] at hl
  rw [Rnd.less_rank ns.length ns ms (List.range ns.length) (Rnd.sorted_range _) hp (by rw [hl]; exact hq) List.length_range]
  unfold n64
  rw [Rnd.rank_toNat hp h20, Rnd.rank_toNat hq h20', Bool.eq_iff_iff]
  simp
set_option maxRecDepth 100000 in
set_option maxHeartbeats 2000000 in
theorem apart {Ap Aq Aa Ab : Option Addr} {lp cp lq cq la ca lb cb : Nat} {zp zq za zb : List Int} (w : World) (n : Int) (hn : -9223372036854775808 ≤ n ∧ n ≤ 9223372036854775807)
    (hp : Row w (fun _ => True) 1 Ap lp cp (zp.map iv)) (hIp : I64s zp) (hlp : lp ≤ 40) (hq : Row w (fun _ => True) 1 Aq lq cq (zq.map iv)) (hIq : I64s zq) (hlq : lq ≤ 40)
    (ha : Row w (fun _ => True) 1 Aa la ca (za.map iv)) (hIa0 : I64s za) (hla : la ≤ 100) (hb : Row w (fun _ => True) 1 Ab lb cb (zb.map iv)) (hIb0 : I64s zb) (hlb : lb ≤ 100)
    (hne : lp ≠ lq) :
    Calls Try.prog 7 #[.int .i64 n, .slice Ap lp cp, .slice Aq lq cq, .slice Aa la ca, .slice Ab lb cb] w fun e w' => e = .returned (.bool true) ∧ Below w.heap.size w w' := by
  have hp0 : Row w (fun i => i < w.heap.size) 1 Ap lp cp (zp.map iv) := hp.mono (fun i hi _ => hi)
  have hq0 : Row w (fun i => i < w.heap.size) 1 Aq lq cq (zq.map iv) := hq.mono (fun i hi _ => hi)
  have ha0 : Row w (fun i => i < w.heap.size) 1 Aa la ca (za.map iv) := ha.mono (fun i hi _ => hi)
  have hb0 : Row w (fun i => i < w.heap.size) 1 Ab lb cb (zb.map iv) := hb.mono (fun i hi _ => hi)
  have hIp' := Lib.hid hIp
  have hIq' := Lib.hid hIq
  have hIa := Lib.hid hIa0
  have hIb := Lib.hid hIb0
  have hsub' := Lib.hid (subs_cases n (la := la) (lb := lb) ha.ints hb.ints)
  clear hIp hIq hIa0 hIb0 ha hb
  obtain ⟨xR3, iR3, hR3⟩ := rankEnd_any (Rnd.rankP zp)
  have hP := Lib.hid hR3
  clear hR3
  obtain ⟨xR4, iR4, hR4⟩ := rankEnd_any (Rnd.rankP zq)
  have hQ := Lib.hid hR4
  clear hR4
  have h3 : ((lp : Int) == (lq : Int)) = false := by rw [beq_eq_false_iff_ne]; omega
  have h4 : ((lp : Int) != (lq : Int)) = true := by simp; omega
  clear hne
  go_enter Try.func7, Try.ntmps7
  go_wp2_with fail
  refine (rankp_any _ hp hIp'.out).mono ?_
  rw [hP.out]
  rintro e w1 ⟨rfl, hb1⟩
  go_wp2_with fail
  refine (rankp_any _ ((hq0.up hb1).mono (T := fun _ => True) (fun _ _ _ => trivial)) hIq'.out).mono ?_
  rw [hQ.out]
  rintro e w2 ⟨rfl, hb2'⟩
  have hb2 := hb1.trans (hb2'.mono hb1.size)
  have hb4 := hb2
  have hra := (ha0.up hb1).up hb2'
  have hrb := (hb0.up hb1).up hb2'

  have hsub := hsub'.out
  clear hp hq hp0 hq0 hb2' hb1 hsub'
  rcases hsub with hne | ⟨heq, hno | ⟨x, hx, hno | ⟨y, hy, hless⟩⟩⟩
  · have h1 : ((la : Int) == (lb : Int)) = false := by rw [beq_eq_false_iff_ne]; omega
    have h2 : ((la : Int) != (lb : Int)) = true := by simp; omega
    obtain ⟨xR1, iR1, hR1⟩ := rankEnd_any (Rnd.rankS n za)
    obtain ⟨xR2, iR2, hR2⟩ := rankEnd_any (Rnd.rankS n zb)
    have hR1' := Lib.hid hR1
    have hR2' := Lib.hid hR2
    clear hR1 hR2 hne
    go_wp2_with fail
    refine (ranks_any _ n hn (hra.mono (T := fun _ => True) (fun _ _ _ => trivial)) hIa.out).mono ?_
    rw [hR1'.out]
    rintro e w5 ⟨rfl, hb5'⟩
    have hb5 := hb4.trans (hb5'.mono hb4.size)
    go_wp2_with fail
    refine (ranks_any _ n hn ((hrb.up hb5').mono (T := fun _ => True) (fun _ _ _ => trivial)) hIb.out).mono ?_
    rw [hR2'.out]
    rintro e w6 ⟨rfl, hb6'⟩
    have hb6 := hb5.trans (hb6'.mono hb5.size)
    go_wp2_with fail
    refine (awake_any _).mono ?_
    rintro e w7 ⟨rfl, hb7'⟩
    go_wp2_with fail
    go_ret
    exact ⟨rfl, hb6.trans (hb7'.mono hb6.size)⟩
  · subst heq
    have hR1' : Hid (rankEnd (Rnd.rankS n za) = .returned (.tuple #[.int .u64 0, .int .i64 1])) := by show _ = _; rw [hno]; rfl
    obtain ⟨xR2, iR2, hR2⟩ := rankEnd_any (Rnd.rankS n zb)
    have hR2' := Lib.hid hR2
    clear hR2 hno
    go_wp2_with fail
    refine (ranks_any _ n hn (hra.mono (T := fun _ => True) (fun _ _ _ => trivial)) hIa.out).mono ?_
    rw [hR1'.out]
    rintro e w5 ⟨rfl, hb5'⟩
    have hb5 := hb4.trans (hb5'.mono hb4.size)
    go_wp2_with fail
    refine (ranks_any _ n hn ((hrb.up hb5').mono (T := fun _ => True) (fun _ _ _ => trivial)) hIb.out).mono ?_
    rw [hR2'.out]
    rintro e w6 ⟨rfl, hb6'⟩
    have hb6 := hb5.trans (hb6'.mono hb5.size)
    go_wp2_with fail
    refine (awake_any _).mono ?_
    rintro e w7 ⟨rfl, hb7'⟩
    go_wp2_with fail
    go_ret
    exact ⟨rfl, hb6.trans (hb7'.mono hb6.size)⟩
  · subst heq
    have hR1' : Hid (rankEnd (Rnd.rankS n za) = .returned (.tuple #[.int .u64 (n64 x), .int .i64 0])) := by show _ = _; rw [hx]; rfl
    have hR2' : Hid (rankEnd (Rnd.rankS n zb) = .returned (.tuple #[.int .u64 0, .int .i64 1])) := by show _ = _; rw [hno]; rfl
    clear hno hx
    go_wp2_with fail
    refine (ranks_any _ n hn (hra.mono (T := fun _ => True) (fun _ _ _ => trivial)) hIa.out).mono ?_
    rw [hR1'.out]
    rintro e w5 ⟨rfl, hb5'⟩
    have hb5 := hb4.trans (hb5'.mono hb4.size)
    go_wp2_with fail
    refine (ranks_any _ n hn ((hrb.up hb5').mono (T := fun _ => True) (fun _ _ _ => trivial)) hIb.out).mono ?_
    rw [hR2'.out]
    rintro e w6 ⟨rfl, hb6'⟩
    have hb6 := hb5.trans (hb6'.mono hb5.size)
    go_wp2_with fail
    refine (awake_any _).mono ?_
    rintro e w7 ⟨rfl, hb7'⟩
    go_wp2_with fail
    go_ret
    exact ⟨rfl, hb6.trans (hb7'.mono hb6.size)⟩
  · subst heq
    have hR1' : Hid (rankEnd (Rnd.rankS n za) = .returned (.tuple #[.int .u64 (n64 x), .int .i64 0])) := by show _ = _; rw [hx]; rfl
    have hR2' : Hid (rankEnd (Rnd.rankS n zb) = .returned (.tuple #[.int .u64 (n64 y), .int .i64 0])) := by show _ = _; rw [hy]; rfl
    have hless' := Lib.hid hless
    clear hy hx hless
    go_wp2_with fail
    refine (ranks_any _ n hn (hra.mono (T := fun _ => True) (fun _ _ _ => trivial)) hIa.out).mono ?_
    rw [hR1'.out]
    rintro e w5 ⟨rfl, hb5'⟩
    have hra5 := hra.up hb5'
    have hrb5 := hrb.up hb5'
    have hb5 := hb4.trans (hb5'.mono hb4.size)
    go_wp2_with fail
    refine (ranks_any _ n hn (hrb5.mono (T := fun _ => True) (fun _ _ _ => trivial)) hIb.out).mono ?_
    rw [hR2'.out]
    rintro e w6 ⟨rfl, hb6'⟩
    have hra6 := hra5.up hb6'
    have hrb6 := hrb5.up hb6'
    have hb6 := hb5.trans (hb6'.mono hb5.size)
    go_wp2_with fail
    refine (awake_any _).mono ?_
    rintro e w7 ⟨rfl, hb7'⟩
    have hra7 := hra6.up hb7'
    have hrb7 := hrb6.up hb7'
    have hb7 := hb6.trans (hb7'.mono hb6.size)
    go_wp2_with fail
    refine (less_any _ (hra7.mono (T := fun _ => True) (fun _ _ _ => trivial)) (hrb7.mono (T := fun _ => True) (fun _ _ _ => trivial)) (by omega) (by omega)).mono ?_
    rw [hless'.out]
    rintro e w8 ⟨rfl, hb8'⟩
    go_wp2_with fail
    go_ret
    exact ⟨rfl, hb7.trans (hb8'.mono hb7.size)⟩
set_option maxRecDepth 100000 in
set_option maxHeartbeats 2000000 in
theorem first_no {Ap Aq Aa Ab : Option Addr} {lp cp lq cq la ca lb cb : Nat} {zp zq za zb : List Int} (w : World) (n : Int) (hn : -9223372036854775808 ≤ n ∧ n ≤ 9223372036854775807)
    (hp : Row w (fun _ => True) 1 Ap lp cp (zp.map iv)) (hIp : I64s zp) (hlp : lp ≤ 40) (hq : Row w (fun _ => True) 1 Aq lq cq (zq.map iv)) (hIq : I64s zq) (hlq : lq ≤ 40)
    (ha : Row w (fun _ => True) 1 Aa la ca (za.map iv)) (hIa0 : I64s za) (hla : la ≤ 100) (hb : Row w (fun _ => True) 1 Ab lb cb (zb.map iv)) (hIb0 : I64s zb) (hlb : lb ≤ 100)
    (heqp : lp = lq) (hno1 : Rnd.rankP zp = none) :
    Calls Try.prog 7 #[.int .i64 n, .slice Ap lp cp, .slice Aq lq cq, .slice Aa la ca, .slice Ab lb cb] w fun e w' => e = .returned (.bool true) ∧ Below w.heap.size w w' := by
  have hp0 : Row w (fun i => i < w.heap.size) 1 Ap lp cp (zp.map iv) := hp.mono (fun i hi _ => hi)
  have hq0 : Row w (fun i => i < w.heap.size) 1 Aq lq cq (zq.map iv) := hq.mono (fun i hi _ => hi)
  have ha0 : Row w (fun i => i < w.heap.size) 1 Aa la ca (za.map iv) := ha.mono (fun i hi _ => hi)
  have hb0 : Row w (fun i => i < w.heap.size) 1 Ab lb cb (zb.map iv) := hb.mono (fun i hi _ => hi)
  have hIp' := Lib.hid hIp
  have hIq' := Lib.hid hIq
  have hIa := Lib.hid hIa0
  have hIb := Lib.hid hIb0
  have hsub' := Lib.hid (subs_cases n (la := la) (lb := lb) ha.ints hb.ints)
  clear hIp hIq hIa0 hIb0 ha hb
  subst heqp
  have hP : Hid (rankEnd (Rnd.rankP zp) = .returned (.tuple #[.int .u64 0, .int .i64 1])) := by show _ = _; rw [hno1]; rfl
  clear hno1
  obtain ⟨xR4, iR4, hR4⟩ := rankEnd_any (Rnd.rankP zq)
  have hQ := Lib.hid hR4
  clear hR4

  go_enter Try.func7, Try.ntmps7
  go_wp2_with fail
  refine (rankp_any _ hp hIp'.out).mono ?_
  rw [hP.out]
  rintro e w1 ⟨rfl, hb1⟩
  go_wp2_with fail
  refine (rankp_any _ ((hq0.up hb1).mono (T := fun _ => True) (fun _ _ _ => trivial)) hIq'.out).mono ?_
  rw [hQ.out]
  rintro e w2 ⟨rfl, hb2'⟩
  have hb2 := hb1.trans (hb2'.mono hb1.size)
  have hb4 := hb2
  have hra := (ha0.up hb1).up hb2'
  have hrb := (hb0.up hb1).up hb2'

  have hsub := hsub'.out
  clear hp hq hp0 hq0 hb2' hb1 hsub'
  rcases hsub with hne | ⟨heq, hno | ⟨x, hx, hno | ⟨y, hy, hless⟩⟩⟩
  · have h1 : ((la : Int) == (lb : Int)) = false := by rw [beq_eq_false_iff_ne]; omega
    have h2 : ((la : Int) != (lb : Int)) = true := by simp; omega
    obtain ⟨xR1, iR1, hR1⟩ := rankEnd_any (Rnd.rankS n za)
    obtain ⟨xR2, iR2, hR2⟩ := rankEnd_any (Rnd.rankS n zb)
    have hR1' := Lib.hid hR1
    have hR2' := Lib.hid hR2
    clear hR1 hR2 hne
    go_wp2_with fail
    refine (ranks_any _ n hn (hra.mono (T := fun _ => True) (fun _ _ _ => trivial)) hIa.out).mono ?_
    rw [hR1'.out]
    rintro e w5 ⟨rfl, hb5'⟩
    have hb5 := hb4.trans (hb5'.mono hb4.size)
    go_wp2_with fail
    refine (ranks_any _ n hn ((hrb.up hb5').mono (T := fun _ => True) (fun _ _ _ => trivial)) hIb.out).mono ?_
    rw [hR2'.out]
    rintro e w6 ⟨rfl, hb6'⟩
    have hb6 := hb5.trans (hb6'.mono hb5.size)
    go_wp2_with fail
    refine (awake_any _).mono ?_
    rintro e w7 ⟨rfl, hb7'⟩
    go_wp2_with fail
    go_ret
    exact ⟨rfl, hb6.trans (hb7'.mono hb6.size)⟩
  · subst heq
    have hR1' : Hid (rankEnd (Rnd.rankS n za) = .returned (.tuple #[.int .u64 0, .int .i64 1])) := by show _ = _; rw [hno]; rfl
    obtain ⟨xR2, iR2, hR2⟩ := rankEnd_any (Rnd.rankS n zb)
    have hR2' := Lib.hid hR2
    clear hR2 hno
    go_wp2_with fail
    refine (ranks_any _ n hn (hra.mono (T := fun _ => True) (fun _ _ _ => trivial)) hIa.out).mono ?_
    rw [hR1'.out]
    rintro e w5 ⟨rfl, hb5'⟩
    have hb5 := hb4.trans (hb5'.mono hb4.size)
    go_wp2_with fail
    refine (ranks_any _ n hn ((hrb.up hb5').mono (T := fun _ => True) (fun _ _ _ => trivial)) hIb.out).mono ?_
    rw [hR2'.out]
    rintro e w6 ⟨rfl, hb6'⟩
    have hb6 := hb5.trans (hb6'.mono hb5.size)
    go_wp2_with fail
    refine (awake_any _).mono ?_
    rintro e w7 ⟨rfl, hb7'⟩
    go_wp2_with fail
    go_ret
    exact ⟨rfl, hb6.trans (hb7'.mono hb6.size)⟩
  · subst heq
    have hR1' : Hid (rankEnd (Rnd.rankS n za) = .returned (.tuple #[.int .u64 (n64 x), .int .i64 0])) := by show _ = _; rw [hx]; rfl
    have hR2' : Hid (rankEnd (Rnd.rankS n zb) = .returned (.tuple #[.int .u64 0, .int .i64 1])) := by show _ = _; rw [hno]; rfl
    clear hno hx
    go_wp2_with fail
    refine (ranks_any _ n hn (hra.mono (T := fun _ => True) (fun _ _ _ => trivial)) hIa.out).mono ?_
    rw [hR1'.out]
    rintro e w5 ⟨rfl, hb5'⟩
    have hb5 := hb4.trans (hb5'.mono hb4.size)
    go_wp2_with fail
    refine (ranks_any _ n hn ((hrb.up hb5').mono (T := fun _ => True) (fun _ _ _ => trivial)) hIb.out).mono ?_
    rw [hR2'.out]
    rintro e w6 ⟨rfl, hb6'⟩
    have hb6 := hb5.trans (hb6'.mono hb5.size)
    go_wp2_with fail
    refine (awake_any _).mono ?_
    rintro e w7 ⟨rfl, hb7'⟩
    go_wp2_with fail
    go_ret
    exact ⟨rfl, hb6.trans (hb7'.mono hb6.size)⟩
  · subst heq
    have hR1' : Hid (rankEnd (Rnd.rankS n za) = .returned (.tuple #[.int .u64 (n64 x), .int .i64 0])) := by show _ = _; rw [hx]; rfl
    have hR2' : Hid (rankEnd (Rnd.rankS n zb) = .returned (.tuple #[.int .u64 (n64 y), .int .i64 0])) := by show _ = _; rw [hy]; rfl
    have hless' := Lib.hid hless
    clear hy hx hless
    go_wp2_with fail
    refine (ranks_any _ n hn (hra.mono (T := fun _ => True) (fun _ _ _ => trivial)) hIa.out).mono ?_
    rw [hR1'.out]
    rintro e w5 ⟨rfl, hb5'⟩
    have hra5 := hra.up hb5'
    have hrb5 := hrb.up hb5'
    have hb5 := hb4.trans (hb5'.mono hb4.size)
    go_wp2_with fail
    refine (ranks_any _ n hn (hrb5.mono (T := fun _ => True) (fun _ _ _ => trivial)) hIb.out).mono ?_
    rw [hR2'.out]
    rintro e w6 ⟨rfl, hb6'⟩
    have hra6 := hra5.up hb6'
    have hrb6 := hrb5.up hb6'
    have hb6 := hb5.trans (hb6'.mono hb5.size)
    go_wp2_with fail
    refine (awake_any _).mono ?_
    rintro e w7 ⟨rfl, hb7'⟩
    have hra7 := hra6.up hb7'
    have hrb7 := hrb6.up hb7'
    have hb7 := hb6.trans (hb7'.mono hb6.size)
    go_wp2_with fail
    refine (less_any _ (hra7.mono (T := fun _ => True) (fun _ _ _ => trivial)) (hrb7.mono (T := fun _ => True) (fun _ _ _ => trivial)) (by omega) (by omega)).mono ?_
    rw [hless'.out]
    rintro e w8 ⟨rfl, hb8'⟩
    go_wp2_with fail
    go_ret
    exact ⟨rfl, hb7.trans (hb8'.mono hb7.size)⟩
set_option maxRecDepth 100000 in
set_option maxHeartbeats 2000000 in
theorem second_no {Ap Aq Aa Ab : Option Addr} {lp cp lq cq la ca lb cb : Nat} {zp zq za zb : List Int} (w : World) (n : Int) (hn : -9223372036854775808 ≤ n ∧ n ≤ 9223372036854775807)
    (hp : Row w (fun _ => True) 1 Ap lp cp (zp.map iv)) (hIp : I64s zp) (hlp : lp ≤ 40) (hq : Row w (fun _ => True) 1 Aq lq cq (zq.map iv)) (hIq : I64s zq) (hlq : lq ≤ 40)
    (ha : Row w (fun _ => True) 1 Aa la ca (za.map iv)) (hIa0 : I64s za) (hla : la ≤ 100) (hb : Row w (fun _ => True) 1 Ab lb cb (zb.map iv)) (hIb0 : I64s zb) (hlb : lb ≤ 100)
    (heqp : lp = lq) (x0 : BitVec 64) (hx0 : Rnd.rankP zp = some x0) (hno1 : Rnd.rankP zq = none) :
    Calls Try.prog 7 #[.int .i64 n, .slice Ap lp cp, .slice Aq lq cq, .slice Aa la ca, .slice Ab lb cb] w fun e w' => e = .returned (.bool true) ∧ Below w.heap.size w w' := by
  have hp0 : Row w (fun i => i < w.heap.size) 1 Ap lp cp (zp.map iv) := hp.mono (fun i hi _ => hi)
  have hq0 : Row w (fun i => i < w.heap.size) 1 Aq lq cq (zq.map iv) := hq.mono (fun i hi _ => hi)
  have ha0 : Row w (fun i => i < w.heap.size) 1 Aa la ca (za.map iv) := ha.mono (fun i hi _ => hi)
  have hb0 : Row w (fun i => i < w.heap.size) 1 Ab lb cb (zb.map iv) := hb.mono (fun i hi _ => hi)
  have hIp' := Lib.hid hIp
  have hIq' := Lib.hid hIq
  have hIa := Lib.hid hIa0
  have hIb := Lib.hid hIb0
  have hsub' := Lib.hid (subs_cases n (la := la) (lb := lb) ha.ints hb.ints)
  clear hIp hIq hIa0 hIb0 ha hb
  subst heqp
  have hP : Hid (rankEnd (Rnd.rankP zp) = .returned (.tuple #[.int .u64 (n64 x0), .int .i64 0])) := by show _ = _; rw [hx0]; rfl
  have hQ : Hid (rankEnd (Rnd.rankP zq) = .returned (.tuple #[.int .u64 0, .int .i64 1])) := by show _ = _; rw [hno1]; rfl
  clear hno1 hx0

  go_enter Try.func7, Try.ntmps7
  go_wp2_with fail
  refine (rankp_any _ hp hIp'.out).mono ?_
  rw [hP.out]
  rintro e w1 ⟨rfl, hb1⟩
  go_wp2_with fail
  refine (rankp_any _ ((hq0.up hb1).mono (T := fun _ => True) (fun _ _ _ => trivial)) hIq'.out).mono ?_
  rw [hQ.out]
  rintro e w2 ⟨rfl, hb2'⟩
  have hb2 := hb1.trans (hb2'.mono hb1.size)
  have hb4 := hb2
  have hra := (ha0.up hb1).up hb2'
  have hrb := (hb0.up hb1).up hb2'

  have hsub := hsub'.out
  clear hp hq hp0 hq0 hb2' hb1 hsub'
  rcases hsub with hne | ⟨heq, hno | ⟨x, hx, hno | ⟨y, hy, hless⟩⟩⟩
  · have h1 : ((la : Int) == (lb : Int)) = false := by rw [beq_eq_false_iff_ne]; omega
    have h2 : ((la : Int) != (lb : Int)) = true := by simp; omega
    obtain ⟨xR1, iR1, hR1⟩ := rankEnd_any (Rnd.rankS n za)
    obtain ⟨xR2, iR2, hR2⟩ := rankEnd_any (Rnd.rankS n zb)
    have hR1' := Lib.hid hR1
    have hR2' := Lib.hid hR2
    clear hR1 hR2 hne
    go_wp2_with fail
    refine (ranks_any _ n hn (hra.mono (T := fun _ => True) (fun _ _ _ => trivial)) hIa.out).mono ?_
    rw [hR1'.out]
    rintro e w5 ⟨rfl, hb5'⟩
    have hb5 := hb4.trans (hb5'.mono hb4.size)
    go_wp2_with fail
    refine (ranks_any _ n hn ((hrb.up hb5').mono (T := fun _ => True) (fun _ _ _ => trivial)) hIb.out).mono ?_
    rw [hR2'.out]
    rintro e w6 ⟨rfl, hb6'⟩
    have hb6 := hb5.trans (hb6'.mono hb5.size)
    go_wp2_with fail
    refine (awake_any _).mono ?_
    rintro e w7 ⟨rfl, hb7'⟩
    go_wp2_with fail
    go_ret
    exact ⟨rfl, hb6.trans (hb7'.mono hb6.size)⟩
  · subst heq
    have hR1' : Hid (rankEnd (Rnd.rankS n za) = .returned (.tuple #[.int .u64 0, .int .i64 1])) := by show _ = _; rw [hno]; rfl
    obtain ⟨xR2, iR2, hR2⟩ := rankEnd_any (Rnd.rankS n zb)
    have hR2' := Lib.hid hR2
    clear hR2 hno
    go_wp2_with fail
    refine (ranks_any _ n hn (hra.mono (T := fun _ => True) (fun _ _ _ => trivial)) hIa.out).mono ?_
    rw [hR1'.out]
    rintro e w5 ⟨rfl, hb5'⟩
    have hb5 := hb4.trans (hb5'.mono hb4.size)
    go_wp2_with fail
    refine (ranks_any _ n hn ((hrb.up hb5').mono (T := fun _ => True) (fun _ _ _ => trivial)) hIb.out).mono ?_
    rw [hR2'.out]
    rintro e w6 ⟨rfl, hb6'⟩
    have hb6 := hb5.trans (hb6'.mono hb5.size)
    go_wp2_with fail
    refine (awake_any _).mono ?_
    rintro e w7 ⟨rfl, hb7'⟩
    go_wp2_with fail
    go_ret
    exact ⟨rfl, hb6.trans (hb7'.mono hb6.size)⟩
  · subst heq
    have hR1' : Hid (rankEnd (Rnd.rankS n za) = .returned (.tuple #[.int .u64 (n64 x), .int .i64 0])) := by show _ = _; rw [hx]; rfl
    have hR2' : Hid (rankEnd (Rnd.rankS n zb) = .returned (.tuple #[.int .u64 0, .int .i64 1])) := by show _ = _; rw [hno]; rfl
    clear hno hx
    go_wp2_with fail
    refine (ranks_any _ n hn (hra.mono (T := fun _ => True) (fun _ _ _ => trivial)) hIa.out).mono ?_
    rw [hR1'.out]
    rintro e w5 ⟨rfl, hb5'⟩
    have hb5 := hb4.trans (hb5'.mono hb4.size)
    go_wp2_with fail
    refine (ranks_any _ n hn ((hrb.up hb5').mono (T := fun _ => True) (fun _ _ _ => trivial)) hIb.out).mono ?_
    rw [hR2'.out]
    rintro e w6 ⟨rfl, hb6'⟩
    have hb6 := hb5.trans (hb6'.mono hb5.size)
    go_wp2_with fail
    refine (awake_any _).mono ?_
    rintro e w7 ⟨rfl, hb7'⟩
    go_wp2_with fail
    go_ret
    exact ⟨rfl, hb6.trans (hb7'.mono hb6.size)⟩
  · subst heq
    have hR1' : Hid (rankEnd (Rnd.rankS n za) = .returned (.tuple #[.int .u64 (n64 x), .int .i64 0])) := by show _ = _; rw [hx]; rfl
    have hR2' : Hid (rankEnd (Rnd.rankS n zb) = .returned (.tuple #[.int .u64 (n64 y), .int .i64 0])) := by show _ = _; rw [hy]; rfl
    have hless' := Lib.hid hless
    clear hy hx hless
    go_wp2_with fail
    refine (ranks_any _ n hn (hra.mono (T := fun _ => True) (fun _ _ _ => trivial)) hIa.out).mono ?_
    rw [hR1'.out]
    rintro e w5 ⟨rfl, hb5'⟩
    have hra5 := hra.up hb5'
    have hrb5 := hrb.up hb5'
    have hb5 := hb4.trans (hb5'.mono hb4.size)
    go_wp2_with fail
    refine (ranks_any _ n hn (hrb5.mono (T := fun _ => True) (fun _ _ _ => trivial)) hIb.out).mono ?_
    rw [hR2'.out]
    rintro e w6 ⟨rfl, hb6'⟩
    have hra6 := hra5.up hb6'
    have hrb6 := hrb5.up hb6'
    have hb6 := hb5.trans (hb6'.mono hb5.size)
    go_wp2_with fail
    refine (awake_any _).mono ?_
    rintro e w7 ⟨rfl, hb7'⟩
    have hra7 := hra6.up hb7'
    have hrb7 := hrb6.up hb7'
    have hb7 := hb6.trans (hb7'.mono hb6.size)
    go_wp2_with fail
    refine (less_any _ (hra7.mono (T := fun _ => True) (fun _ _ _ => trivial)) (hrb7.mono (T := fun _ => True) (fun _ _ _ => trivial)) (by omega) (by omega)).mono ?_
    rw [hless'.out]
    rintro e w8 ⟨rfl, hb8'⟩
    go_wp2_with fail
    go_ret
    exact ⟨rfl, hb7.trans (hb8'.mono hb7.size)⟩
set_option maxRecDepth 100000 in
set_option maxHeartbeats 2000000 in
theorem both {Ap Aq Aa Ab : Option Addr} {lp cp lq cq la ca lb cb : Nat} {zp zq za zb : List Int} (w : World) (n : Int) (hn : -9223372036854775808 ≤ n ∧ n ≤ 9223372036854775807)
    (hp : Row w (fun _ => True) 1 Ap lp cp (zp.map iv)) (hIp : I64s zp) (hlp : lp ≤ 40) (hq : Row w (fun _ => True) 1 Aq lq cq (zq.map iv)) (hIq : I64s zq) (hlq : lq ≤ 40)
    (ha : Row w (fun _ => True) 1 Aa la ca (za.map iv)) (hIa0 : I64s za) (hla : la ≤ 100) (hb : Row w (fun _ => True) 1 Ab lb cb (zb.map iv)) (hIb0 : I64s zb) (hlb : lb ≤ 100)
    (heqp : lp = lq) (x0 : BitVec 64) (hx0 : Rnd.rankP zp = some x0) (y0 : BitVec 64) (hy0 : Rnd.rankP zq = some y0) :
    Calls Try.prog 7 #[.int .i64 n, .slice Ap lp cp, .slice Aq lq cq, .slice Aa la ca, .slice Ab lb cb] w fun e w' => e = .returned (.bool true) ∧ Below w.heap.size w w' := by
  have hp0 : Row w (fun i => i < w.heap.size) 1 Ap lp cp (zp.map iv) := hp.mono (fun i hi _ => hi)
  have hq0 : Row w (fun i => i < w.heap.size) 1 Aq lq cq (zq.map iv) := hq.mono (fun i hi _ => hi)
  have ha0 : Row w (fun i => i < w.heap.size) 1 Aa la ca (za.map iv) := ha.mono (fun i hi _ => hi)
  have hb0 : Row w (fun i => i < w.heap.size) 1 Ab lb cb (zb.map iv) := hb.mono (fun i hi _ => hi)
  have hIp' := Lib.hid hIp
  have hIq' := Lib.hid hIq
  have hIa := Lib.hid hIa0
  have hIb := Lib.hid hIb0
  have hsub' := Lib.hid (subs_cases n (la := la) (lb := lb) ha.ints hb.ints)
  clear hIp hIq hIa0 hIb0 ha hb
  have hlss : Hid (Rnd.lessL zp zq = decide (n64 x0 < n64 y0)) := perms_less (by have := hp.ints; have := hq.ints; omega) hx0 hy0
  subst heqp
  have hP : Hid (rankEnd (Rnd.rankP zp) = .returned (.tuple #[.int .u64 (n64 x0), .int .i64 0])) := by show _ = _; rw [hx0]; rfl
  have hQ : Hid (rankEnd (Rnd.rankP zq) = .returned (.tuple #[.int .u64 (n64 y0), .int .i64 0])) := by show _ = _; rw [hy0]; rfl
  clear hx0 hy0

  go_enter Try.func7, Try.ntmps7
  go_wp2_with fail
  refine (rankp_any _ hp hIp'.out).mono ?_
  rw [hP.out]
  rintro e w1 ⟨rfl, hb1⟩
  go_wp2_with fail
  refine (rankp_any _ ((hq0.up hb1).mono (T := fun _ => True) (fun _ _ _ => trivial)) hIq'.out).mono ?_
  rw [hQ.out]
  rintro e w2 ⟨rfl, hb2'⟩
  have hb2 := hb1.trans (hb2'.mono hb1.size)
  have hp2 := ((hp0.up hb1).up hb2').mono (T := fun _ => True) (fun _ _ _ => trivial)
  have hq2 := ((hq0.up hb1).up hb2').mono (T := fun _ => True) (fun _ _ _ => trivial)
  have hra2 := (ha0.up hb1).up hb2'
  have hrb2 := (hb0.up hb1).up hb2'
  go_wp2_with fail
  refine (less_any _ hp2 hq2 (by omega) (by omega)).mono ?_
  rw [hlss.out]
  rintro e w4 ⟨rfl, hb4'⟩
  have hb4 := hb2.trans (hb4'.mono hb2.size)
  have hra := hra2.up hb4'
  have hrb := hrb2.up hb4'
  clear hp2 hq2 hra2 hrb2 hb4' hb2
  have hsub := hsub'.out
  clear hp hq hp0 hq0 hb2' hb1 hsub'
  rcases hsub with hne | ⟨heq, hno | ⟨x, hx, hno | ⟨y, hy, hless⟩⟩⟩
  · have h1 : ((la : Int) == (lb : Int)) = false := by rw [beq_eq_false_iff_ne]; omega
    have h2 : ((la : Int) != (lb : Int)) = true := by simp; omega
    obtain ⟨xR1, iR1, hR1⟩ := rankEnd_any (Rnd.rankS n za)
    obtain ⟨xR2, iR2, hR2⟩ := rankEnd_any (Rnd.rankS n zb)
    have hR1' := Lib.hid hR1
    have hR2' := Lib.hid hR2
    clear hR1 hR2 hne
    go_wp2_with fail
    refine (ranks_any _ n hn (hra.mono (T := fun _ => True) (fun _ _ _ => trivial)) hIa.out).mono ?_
    rw [hR1'.out]
    rintro e w5 ⟨rfl, hb5'⟩
    have hb5 := hb4.trans (hb5'.mono hb4.size)
    go_wp2_with fail
    refine (ranks_any _ n hn ((hrb.up hb5').mono (T := fun _ => True) (fun _ _ _ => trivial)) hIb.out).mono ?_
    rw [hR2'.out]
    rintro e w6 ⟨rfl, hb6'⟩
    have hb6 := hb5.trans (hb6'.mono hb5.size)
    go_wp2_with fail
    refine (awake_any _).mono ?_
    rintro e w7 ⟨rfl, hb7'⟩
    go_wp2_with fail
    go_ret
    exact ⟨rfl, hb6.trans (hb7'.mono hb6.size)⟩
  · subst heq
    have hR1' : Hid (rankEnd (Rnd.rankS n za) = .returned (.tuple #[.int .u64 0, .int .i64 1])) := by show _ = _; rw [hno]; rfl
    obtain ⟨xR2, iR2, hR2⟩ := rankEnd_any (Rnd.rankS n zb)
    have hR2' := Lib.hid hR2
    clear hR2 hno
    go_wp2_with fail
    refine (ranks_any _ n hn (hra.mono (T := fun _ => True) (fun _ _ _ => trivial)) hIa.out).mono ?_
    rw [hR1'.out]
    rintro e w5 ⟨rfl, hb5'⟩
    have hb5 := hb4.trans (hb5'.mono hb4.size)
    go_wp2_with fail
    refine (ranks_any _ n hn ((hrb.up hb5').mono (T := fun _ => True) (fun _ _ _ => trivial)) hIb.out).mono ?_
    rw [hR2'.out]
    rintro e w6 ⟨rfl, hb6'⟩
    have hb6 := hb5.trans (hb6'.mono hb5.size)
    go_wp2_with fail
    refine (awake_any _).mono ?_
    rintro e w7 ⟨rfl, hb7'⟩
    go_wp2_with fail
    go_ret
    exact ⟨rfl, hb6.trans (hb7'.mono hb6.size)⟩
  · subst heq
    have hR1' : Hid (rankEnd (Rnd.rankS n za) = .returned (.tuple #[.int .u64 (n64 x), .int .i64 0])) := by show _ = _; rw [hx]; rfl
    have hR2' : Hid (rankEnd (Rnd.rankS n zb) = .returned (.tuple #[.int .u64 0, .int .i64 1])) := by show _ = _; rw [hno]; rfl
    clear hno hx
    go_wp2_with fail
    refine (ranks_any _ n hn (hra.mono (T := fun _ => True) (fun _ _ _ => trivial)) hIa.out).mono ?_
    rw [hR1'.out]
    rintro e w5 ⟨rfl, hb5'⟩
    have hb5 := hb4.trans (hb5'.mono hb4.size)
    go_wp2_with fail
    refine (ranks_any _ n hn ((hrb.up hb5').mono (T := fun _ => True) (fun _ _ _ => trivial)) hIb.out).mono ?_
    rw [hR2'.out]
    rintro e w6 ⟨rfl, hb6'⟩
    have hb6 := hb5.trans (hb6'.mono hb5.size)
    go_wp2_with fail
    refine (awake_any _).mono ?_
    rintro e w7 ⟨rfl, hb7'⟩
    go_wp2_with fail
    go_ret
    exact ⟨rfl, hb6.trans (hb7'.mono hb6.size)⟩
  · subst heq
    have hR1' : Hid (rankEnd (Rnd.rankS n za) = .returned (.tuple #[.int .u64 (n64 x), .int .i64 0])) := by show _ = _; rw [hx]; rfl
    have hR2' : Hid (rankEnd (Rnd.rankS n zb) = .returned (.tuple #[.int .u64 (n64 y), .int .i64 0])) := by show _ = _; rw [hy]; rfl
    have hless' := Lib.hid hless
    clear hy hx hless
    go_wp2_with fail
    refine (ranks_any _ n hn (hra.mono (T := fun _ => True) (fun _ _ _ => trivial)) hIa.out).mono ?_
    rw [hR1'.out]
    rintro e w5 ⟨rfl, hb5'⟩
    have hra5 := hra.up hb5'
    have hrb5 := hrb.up hb5'
    have hb5 := hb4.trans (hb5'.mono hb4.size)
    go_wp2_with fail
    refine (ranks_any _ n hn (hrb5.mono (T := fun _ => True) (fun _ _ _ => trivial)) hIb.out).mono ?_
    rw [hR2'.out]
    rintro e w6 ⟨rfl, hb6'⟩
    have hra6 := hra5.up hb6'
    have hrb6 := hrb5.up hb6'
    have hb6 := hb5.trans (hb6'.mono hb5.size)
    go_wp2_with fail
    refine (awake_any _).mono ?_
    rintro e w7 ⟨rfl, hb7'⟩
    have hra7 := hra6.up hb7'
    have hrb7 := hrb6.up hb7'
    have hb7 := hb6.trans (hb7'.mono hb6.size)
    go_wp2_with fail
    refine (less_any _ (hra7.mono (T := fun _ => True) (fun _ _ _ => trivial)) (hrb7.mono (T := fun _ => True) (fun _ _ _ => trivial)) (by omega) (by omega)).mono ?_
    rw [hless'.out]
    rintro e w8 ⟨rfl, hb8'⟩
    go_wp2_with fail
    go_ret
    exact ⟨rfl, hb7.trans (hb8'.mono hb7.size)⟩
theorem long {Ap Aq Aa Ab : Option Addr} {lp cp lq cq la ca lb cb : Nat} (w : World) (n : Int) (h : 40 < lp ∨ lp ≤ 40 ∧ (40 < lq ∨ lq ≤ 40 ∧ (100 < la ∨ la ≤ 100 ∧ 100 < lb))) :
    Calls Try.prog 7 #[.int .i64 n, .slice Ap lp cp, .slice Aq lq cq, .slice Aa la ca, .slice Ab lb cb] w fun e w' => e = .returned (.bool true) ∧ Below w.heap.size w w' := by
  rcases h with h1 | ⟨h0, h1 | ⟨h2, h1 | ⟨h3, h1⟩⟩⟩
  all_goals
    go_enter Try.func7, Try.ntmps7
    go_wp2_with fail
    refine (awake_any _).mono ?_
    rintro e w2 ⟨rfl, hb2⟩
    go_wp2_with fail
    go_ret
    exact ⟨rfl, hb2⟩
theorem walk {Ap Aq Aa Ab : Option Addr} {lp cp lq cq la ca lb cb : Nat} {zp zq za zb : List Int} (w : World) (n : Int) (hn : -9223372036854775808 ≤ n ∧ n ≤ 9223372036854775807)
    (hp : Row w (fun _ => True) 1 Ap lp cp (zp.map iv)) (hIp : I64s zp) (_ : lp ≤ 9223372036854775807) (hq : Row w (fun _ => True) 1 Aq lq cq (zq.map iv)) (hIq : I64s zq) (_ : lq ≤ 9223372036854775807)
    (ha : Row w (fun _ => True) 1 Aa la ca (za.map iv)) (hIa : I64s za) (_ : la ≤ 9223372036854775807) (hb : Row w (fun _ => True) 1 Ab lb cb (zb.map iv)) (hIb : I64s zb) (_ : lb ≤ 9223372036854775807) :
    Calls Try.prog 7 #[.int .i64 n, .slice Ap lp cp, .slice Aq lq cq, .slice Aa la ca, .slice Ab lb cb] w fun e w' => e = .returned (.bool true) ∧ Below w.heap.size w w' := by
  by_cases h : lp ≤ 40 ∧ lq ≤ 40 ∧ la ≤ 100 ∧ lb ≤ 100
  · obtain ⟨h1, h2, h3, h4⟩ := h
    by_cases hl : lp = lq
    · cases hx : Rnd.rankP zp with
      | none => exact first_no w n hn hp hIp h1 hq hIq h2 ha hIa h3 hb hIb h4 hl hx
      | some x =>
        cases hy : Rnd.rankP zq with
        | none => exact second_no w n hn hp hIp h1 hq hIq h2 ha hIa h3 hb hIb h4 hl x hx hy
        | some y => exact both w n hn hp hIp h1 hq hIq h2 ha hIa h3 hb hIb h4 hl x hx y hy
    · exact apart w n hn hp hIp h1 hq hIq h2 ha hIa h3 hb hIb h4 hl
  · exact long w n (by omega)
theorem contract (H : Type) (enc : TypeId × Value → H) (W : World) (base : Nat) (args : Array Value) (ds gs : List (DataW H)) (before : List MemPlace)
    (hval : ∀ (j : Nat) t v, Try.f7.params[j]? = some t → args[j]? = some v → Value.okWide Try.prog W .any base t v)
    (hW : DataW.Whole enc Try.prog Try.f7.params.toList Rows.randomLexicographicSpec.vars false W args.toList ds gs before) :
    Calls Try.prog 7 args W fun e W' => ∃ v, e = .returned v ∧ Rows.randomLexicographicSpec.post enc Try.prog Try.f7 false true false false W args v W' := by
  have hW' := hW
  obtain ⟨p, q, hA0, hV, rfl, hfz, hnd⟩ := hW
  have hA : DataW.TrodAll enc Try.prog W 0 (fun _ => true) true Try.f7.params.toList args.toList ds p := hA0
  rw [Try.params7] at hA hval
  obtain ⟨v0, vs0, d0, ds0, p0, q0, hargs, rfl, rfl, h0, r0⟩ := trodAll_cons hA
  obtain ⟨v1, vs1, d1, ds1, p1, q1, rfl, rfl, rfl, h1, r1⟩ := trodAll_cons r0
  obtain ⟨v2, vs2, d2, ds2, p2, q2, rfl, rfl, rfl, h2, r2⟩ := trodAll_cons r1
  obtain ⟨v3, vs3, d3, ds3, p3, q3, rfl, rfl, rfl, h3, r3⟩ := trodAll_cons r2
  obtain ⟨v4, vs4, d4, ds4, p4, q4, rfl, rfl, rfl, h4, r4⟩ := trodAll_cons r3
  obtain ⟨rfl, rfl, rfl⟩ := trodAll_nil r4
  obtain rfl : args = #[v0, v1, v2, v3, v4] := by cases args; simp_all
  obtain ⟨rfl, rfl⟩ := trodVars_none hV
  obtain ⟨a1, len1, cap1, rfl⟩ := okWide_slice Try.underlying31 (hval 1 31 v1 rfl rfl)
  obtain ⟨a2, len2, cap2, rfl⟩ := okWide_slice Try.underlying31 (hval 2 31 v2 rfl rfl)
  obtain ⟨a3, len3, cap3, rfl⟩ := okWide_slice Try.underlying31 (hval 3 31 v3 rfl rfl)
  obtain ⟨a4, len4, cap4, rfl⟩ := okWide_slice Try.underlying31 (hval 4 31 v4 rfl rfl)
  have k0 := h0
  have lt0 : ∀ x ∈ p0, x.block < W.heap.size := by obtain ⟨m, hm⟩ := k0; exact DataW.trod_lt m _ _ _ hm
  obtain ⟨n0, rfl, -, -, z0⟩ := open_int Try.underlying3 (hval 0 3 v0 rfl rfl) h0
  have k1 := h1
  have lt1 : ∀ x ∈ p1, x.block < W.heap.size := by obtain ⟨m, hm⟩ := k1; exact DataW.trod_lt m _ _ _ hm
  obtain ⟨zs1, w1, y1, x1⟩ := ints_of_trod Try.underlying31 Try.underlying3 (by kernel_rfl) h1
  have k2 := h2
  have lt2 : ∀ x ∈ p2, x.block < W.heap.size := by obtain ⟨m, hm⟩ := k2; exact DataW.trod_lt m _ _ _ hm
  obtain ⟨zs2, w2, y2, x2⟩ := ints_of_trod Try.underlying31 Try.underlying3 (by kernel_rfl) h2
  have k3 := h3
  have lt3 : ∀ x ∈ p3, x.block < W.heap.size := by obtain ⟨m, hm⟩ := k3; exact DataW.trod_lt m _ _ _ hm
  obtain ⟨zs3, w3, y3, x3⟩ := ints_of_trod Try.underlying31 Try.underlying3 (by kernel_rfl) h3
  have k4 := h4
  have lt4 : ∀ x ∈ p4, x.block < W.heap.size := by obtain ⟨m, hm⟩ := k4; exact DataW.trod_lt m _ _ _ hm
  obtain ⟨zs4, w4, y4, x4⟩ := ints_of_trod Try.underlying31 Try.underlying3 (by kernel_rfl) h4
  clear hA0
  refine (walk W n0 (bounds_i64 z0) w1 y1 x1 w2 y2 x2 w3 y3 x3 w4 y4 x4).mono fun e W' ⟨he, bel⟩ => ?_
  subst he
  exact ⟨_, rfl, _, _, _, [], _, [], hW', trodAll_mk1 (shut_bool Try.underlying4 _), (trodAll_cons_mk (Below.trod laidOut (by kernel_rfl) (of_decide_eq_true (by kernel_rfl)) k0 bel lt0) (trodAll_cons_mk (Below.trod laidOut (by kernel_rfl) (of_decide_eq_true (by kernel_rfl)) k1 bel lt1) (trodAll_cons_mk (Below.trod laidOut (by kernel_rfl) (of_decide_eq_true (by kernel_rfl)) k2 bel lt2) (trodAll_cons_mk (Below.trod laidOut (by kernel_rfl) (of_decide_eq_true (by kernel_rfl)) k3 bel lt3) (trodAll_cons_mk (Below.trod laidOut (by kernel_rfl) (of_decide_eq_true (by kernel_rfl)) k4 bel lt4) trodAll_mk0))))), rfl, bel.frame _, fun h => by cases h⟩
set_option maxRecDepth 100000 in
theorem lifted (os : Os) (started : os.Started) (H : Type) (enc : TypeId × Value → H) :
    ReturnsInHanded {} Try.checked os 7 .any (Rows.randomLexicographicSpec.pre6 enc Try.prog Try.f7 Rows.randomLexicographicRow.domain false) (Rows.randomLexicographicSpec.post enc Try.prog Try.f7 false true false false) := by
  refine returnsInHanded_of_change (C := Try.checked) own started (by kernel_rfl) Try.func7
    (ChangeSpec.witness6 (enc := enc) (C := Try.checked) false ⟨#[], #[.int .i64 0, .slice none 0 0, .slice none 0 0, .slice none 0 0, .slice none 0 0], []⟩ 8 (by kernel_rfl) (by kernel_rfl) (by kernel_rfl) (by kernel_rfl)) ?_
  intro W base args ds gs before hval hW _ _
  exact contract H enc W base args ds gs before hval hW
theorem said : Rows.RandomLexicographicSaid :=
  OpenClaim.holds_of_wide 7 Try.f7 rfl rfl rfl rfl rfl rfl rfl ⟨rfl, rfl, rfl, rfl, rfl⟩ rfl rfl rfl rfl rfl (by kernel_rfl) Try.func7 (by kernel_rfl)
    (of_decide_eq_true (by kernel_rfl)) (by unfold Func.isWrapper; first | (rw [if_pos (by decide +kernel)]; kernel_rfl) | (rw [if_neg (by decide +kernel)]; exact ⟨rfl, rfl⟩))
    (fun os started H enc _ => lifted os started H enc)
#print axioms said
end Go.Proofs.Ytgbeljgpnhpphaa.randomLexicographic
