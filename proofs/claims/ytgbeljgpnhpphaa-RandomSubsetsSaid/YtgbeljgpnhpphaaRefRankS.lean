/-
  The reference's RankSubset.
-/
import Derived.Test.YtgbeljgpnhpphaaSubLaw
namespace Rnd
theorem fromAt_nonneg {n : Int} {zs : List Int} : ∀ {k : Nat}, (∀ i, i < k → goodAtS n zs i = true) → 0 ≤ fromAt zs k
  | 0, _ => by simp [fromAt]
  | k + 1, h => by
    have h1 := fromAt_nonneg (k := k) (fun i hi => h i (by omega))
    have h2 := h k (by omega)
    unfold goodAtS at h2
    rw [Bool.and_eq_true, decide_eq_true_eq, decide_eq_true_eq] at h2
    show 0 ≤ zs.getD k 0 + 1
    omega
end Rnd
namespace Go.Proofs.Ytgbeljgpnhpphaa
open Go.RowKit Go.Pl
set_option maxRecDepth 100000 in
set_option maxHeartbeats 4000000 in
theorem refranks_any {A : Option Addr} {l c : Nat} {zs : List Int} (w : World) (n : Int) (hnl : -9223372036854775808 ≤ n ∧ n ≤ 9223372036854775807) (hA : Row w (fun _ => True) 1 A l c (zs.map iv)) (hz : I64s zs) :
    Calls Try.prog 30 #[.int .i64 n, .slice A l c] w fun e w' => e = rankEnd (Rnd.rankS n zs) ∧ Below w.heap.size w w' := by
  have hl := hA.ints
  have hA' : Row w (fun i => i < w.heap.size) 1 A l c (zs.map iv) := hA.mono (fun i hi _ => hi)
  have hmax : l ≤ 9223372036854775807 := by have := hA.le; have := hA.max; simp only [maxLen] at this; omega
  clear hA
  by_cases hn : 0 ≤ n ∧ n ≤ 60
  · obtain ⟨N, rfl⟩ : ∃ N : Nat, n = (N : Int) := ⟨n.toNat, by omega⟩
    have hN : N ≤ 60 := by omega
    have hl' : Hid (l = zs.length) := hl
    have hbad : Hid (∀ i, i < l → Rnd.goodAtS N zs i = false → Rnd.rankS N zs = none) := fun i hi h => by
      unfold Rnd.rankS
      rw [Rnd.goodS_bad (by omega) h, if_neg (by simp)]
    have hgood : Hid ((∀ i, i < l → Rnd.goodAtS N zs i = true) → Rnd.rankS N zs = some (Rnd.accS N zs l)) := fun h => by
      unfold Rnd.rankS Rnd.goodS
      rw [if_pos, hl]
      · rfl
      · rw [Bool.and_eq_true, Bool.and_eq_true, decide_eq_true_eq, decide_eq_true_eq, List.all_eq_true]
        exact ⟨⟨by omega, by omega⟩, fun i hi => h i (by rw [hl]; simpa using hi)⟩
    have hz' := Lib.hid hz
    clear hl hz hn hnl
    have d1 : decide ((N : Int) < 0) = false := decide_eq_false (by omega)
    have d2 : decide (60 < (N : Int)) = false := decide_eq_false (by omega)
    go_enter Try.func30, Try.ntmps30
    go_wp2_with fail
    go_loopw [6] (fun t6 wr => ∃ k : Nat, k ≤ l ∧ t6 = .int .i64 (k : Int) ∧ Hid (∀ i, i < k → Rnd.goodAtS N zs i = true) ∧ Fr (fun _ => False) w wr) (fun t6 _ => l - (intOf t6).toNat)
    case atStart => exact ⟨0, Nat.zero_le _, rfl, fun i hi => by omega, Fr.refl _ _⟩
    case round =>
      obtain ⟨k, hk, rfl, hok, hfr⟩ := hrel
      by_cases hlt : k < l
      · obtain ⟨b, o, rfl, hSb, hbl, hc⟩ := (hA'.fr hfr (fun _ _ h => h)).intAt (by omega)
        have hc1 := hc k hlt
        have hzk := hz'.out.get (i := k) (by have := hl'.out; omega)
        have hfn := Rnd.fromAt_nonneg hok.out
        have hat : Rnd.goodAtS N zs k = (decide (Rnd.fromAt zs k ≤ zs.getD k 0) && decide (zs.getD k 0 < (N : Int))) := rfl
        obtain ⟨z, hzz⟩ : ∃ z, zs.getD k 0 = z := ⟨_, rfl⟩
        rw [hzz] at hat hc1 hzk
        have hat' := Lib.hid hat
        clear hzz hat
        by_cases hz0 : z < 0
        · have hres := Lib.hid (hbad.out k hlt (by rw [hat'.out, decide_eq_false (by omega)]; rfl))
          have e1 : decide (z < 0) = true := decide_eq_true hz0
          clear hc hfn hzk
          go_wp2_with fail
          refine wp_region_quiet_lit (by kernel_rfl) (by kernel_rfl) ?_
          repeat (go_big_quiet_step (fail))
          refine wpQuiet_nil ?_
          intro _ hw'
          obtain ⟨nq, hw''⟩ := hw'
          subst hw''
          go_wp2_with fail
          go_ret2
          rw [hres.out]
          exact ⟨rfl, (hfr.drewN nq).below (fun _ h => h.elim) (Nat.le_refl _)⟩
        · have hz0' : 0 ≤ z := by omega
          have e1 : decide (z < 0) = false := decide_eq_false hz0
          by_cases hzN : (N : Int) ≤ z
          · have hres := Lib.hid (hbad.out k hlt (by rw [hat'.out, decide_eq_false (p := z < (N : Int)) (by omega)]; simp))
            have e2 : decide ((N : Int) ≤ z) = true := decide_eq_true hzN
            clear hc hfn hzk hz0
            go_wp2_with fail
            refine wp_region_quiet_lit (by kernel_rfl) (by kernel_rfl) ?_
            repeat (go_big_quiet_step (fail))
            refine wpQuiet_nil ?_
            intro _ hw'
            obtain ⟨nq, hw''⟩ := hw'
            subst hw''
            go_wp2_with fail
            go_ret2
            rw [hres.out]
            exact ⟨rfl, (hfr.drewN nq).below (fun _ h => h.elim) (Nat.le_refl _)⟩
          · have e2 : decide ((N : Int) ≤ z) = false := decide_eq_false hzN
            have hzN' : z < (N : Int) := by omega
            by_cases hk0 : k = 0
            · subst hk0
              rw [Nat.add_zero] at hc1
              have hgk : Rnd.goodAtS N zs 0 = true := by
                rw [hat'.out, decide_eq_true (show Rnd.fromAt zs 0 ≤ z by simpa [Rnd.fromAt] using hz0'), decide_eq_true hzN']; rfl
              clear hc hfn hzk hz0 hzN
              go_wp2_with fail
              refine wp_region_quiet_lit (by kernel_rfl) (by kernel_rfl) ?_
              repeat (go_big_quiet_step (fail))
              refine wpQuiet_nil ?_
              intro _ hw'
              obtain ⟨nq, hw''⟩ := hw'
              subst hw''
              go_wp2_with fail
              go_roundw
              case rel => exact ⟨1, hlt, rfl, fun i hi => by
                obtain rfl : i = 0 := by omega
                exact hgk, hfr.drewN nq⟩
              case measure => simp [intOf]; omega
            · obtain ⟨j, rfl⟩ : ∃ j, k = j + 1 := ⟨k - 1, by omega⟩
              have hc0 := hc j (by omega)
              have hfa : Rnd.fromAt zs (j + 1) = zs.getD j 0 + 1 := rfl
              have hzj := hz'.out.get (i := j) (by have := hl'.out; omega)
              obtain ⟨y, hy⟩ : ∃ y, zs.getD j 0 = y := ⟨_, rfl⟩
              rw [hy] at hc0 hfa hzj
              have e3 : decide (0 < ((j + 1 : Nat) : Int)) = true := decide_eq_true (by omega)
              by_cases hyz : z ≤ y
              · have hres := Lib.hid (hbad.out (j + 1) hlt (by rw [hat'.out, hfa, decide_eq_false (by omega)]; rfl))
                have e4 : decide (z ≤ y) = true := decide_eq_true hyz
                clear hc hfn hzk hz0 hzN hy hfa hk0
                go_wp2_with fail
                refine wp_region_quiet_lit (by kernel_rfl) (by kernel_rfl) ?_
                repeat (go_big_quiet_step (fail))
                refine wpQuiet_nil ?_
                intro _ hw'
                obtain ⟨nq, hw''⟩ := hw'
                subst hw''
                go_wp2_with fail
                go_ret2
                rw [hres.out]
                exact ⟨rfl, (hfr.drewN nq).below (fun _ h => h.elim) (Nat.le_refl _)⟩
              · have e4 : decide (z ≤ y) = false := decide_eq_false hyz
                have hgk : Rnd.goodAtS N zs (j + 1) = true := by rw [hat'.out, hfa, decide_eq_true (by omega), decide_eq_true hzN']; rfl
                clear hc hfn hzk hz0 hzN hy hfa hk0
                go_wp2_with fail
                refine wp_region_quiet_lit (by kernel_rfl) (by kernel_rfl) ?_
                repeat (go_big_quiet_step (fail))
                refine wpQuiet_nil ?_
                intro _ hw'
                obtain ⟨nq, hw''⟩ := hw'
                subst hw''
                go_wp2_with fail
                go_roundw
                case rel => exact ⟨j + 1 + 1, hlt, by go_num, fun i hi => by
                  by_cases h : i = j + 1
                  · subst h; exact hgk
                  · exact hok.out i (by omega), hfr.drewN nq⟩
                case measure => simp [intOf]; omega
      · obtain rfl : k = l := by omega
        have hres := Lib.hid (hgood.out hok.out)
        have hb0 : Below w.heap.size w wr := hfr.below (fun _ h => h.elim) (Nat.le_refl _)
        go_wp2_with fail
        go_loopw [7, 8, 9] (fun t7 t8 t9 wi => ∃ (i f : Nat), i ≤ k ∧ t9 = .int .i64 (i : Int) ∧ t7 = .int .u64 (n64 (Rnd.accS N zs i)) ∧ t8 = .int .i64 (f : Int) ∧ f ≤ N ∧ Hid ((f : Int) = Rnd.fromAt zs i) ∧ Below w.heap.size w wi) (fun _ _ t9 _ => k - (intOf t9).toNat)
        case atStart => exact ⟨0, 0, Nat.zero_le _, rfl, rfl, rfl, Nat.zero_le _, rfl, hb0⟩
        case round =>
          obtain ⟨i, f, hi, rfl, rfl, rfl, hf, hfa, hbi⟩ := hrel
          by_cases hik : i < k
          · have hgi := hok.out i hik
            rw [Rnd.goodAtS, ← hfa.out, Bool.and_eq_true, decide_eq_true_eq, decide_eq_true_eq] at hgi
            have hacc : Rnd.accS N zs (i + 1) = Rnd.accS N zs i + Rnd.sumB N (k - 1 - i) f ((zs.getD i 0).toNat - f) := by
              rw [Rnd.accS, ← hl'.out, ← hfa.out]; rfl
            have hnext : Rnd.fromAt zs (i + 1) = zs.getD i 0 + 1 := rfl
            have hcx : Hid (∀ w2 : World, Below w.heap.size w w2 → ∃ b o, A = some ⟨b, o, none⟩ ∧ w2.cell? ⟨b, o + i, none⟩ = some (.int .i64 (zs.getD i 0))) := fun w2 hb2 => by
              obtain ⟨b, o, hA2, -, -, hc⟩ := (hA'.up hb2).intAt (by omega)
              exact ⟨b, o, hA2, hc i hik⟩
            obtain ⟨z, hzz⟩ : ∃ z, zs.getD i 0 = z := ⟨_, rfl⟩
            rw [hzz] at hgi hacc hnext hcx
            obtain ⟨x, rfl⟩ : ∃ x : Nat, z = (x : Int) := ⟨z.toNat, by omega⟩
            have hfx : f ≤ x := by omega
            have hxN : x < N := by omega
            have hacc' := Lib.hid hacc
            have hnext' := Lib.hid hnext
            obtain ⟨b, o, rfl, -⟩ := hcx.out _ hbi
            clear hzz hacc hnext hgi
            go_wp2_with fail
            go_loopw [7, 10] (fun t7 t10 wj => ∃ m : Nat, m ≤ x ∧ f ≤ m ∧ t10 = .int .i64 (m : Int) ∧ t7 = .int .u64 (n64 (Rnd.accS N zs i + Rnd.sumB N (k - 1 - i) f (m - f))) ∧ Below w.heap.size w wj) (fun _ t10 _ => x - (intOf t10).toNat)
            case atStart => exact ⟨f, hfx, Nat.le_refl _, rfl, by rw [Nat.sub_self, Rnd.sumB, BitVec.add_zero], hbi⟩
            case round =>
              obtain ⟨m, hm, hfm, rfl, rfl, hbj⟩ := hrel
              have cx : wr.cell? ⟨b, o + i, none⟩ = some (.int .i64 (x : Int)) := by
                obtain ⟨b', o', he, hc⟩ := hcx.out _ hbj
                cases he
                exact hc
              by_cases hmx : m < x
              · have h1 : Hid (((N : Int) - 1 - (m : Int)) = ((N - 1 - m : Nat) : Int)) := by show _ = _; omega
                have h2 : Hid (((k : Int) - 1 - (i : Int)) = ((k - 1 - i : Nat) : Int)) := by show _ = _; omega
                have hs : Hid (Rnd.accS N zs i + Rnd.sumB N (k - 1 - i) f (m - f) + Rnd.bn (N - 1 - m) (k - 1 - i) = Rnd.accS N zs i + Rnd.sumB N (k - 1 - i) f (m + 1 - f)) := by
                  show _ = _
                  rw [show m + 1 - f = (m - f) + 1 by omega, Rnd.sumB, show f + (m - f) = m by omega, BitVec.add_assoc]
                obtain ⟨R, hR⟩ : ∃ R, Rnd.accS N zs i + Rnd.sumB N (k - 1 - i) f (m - f) = R := ⟨_, rfl⟩
                rw [hR] at hs
                rw [hR]
                clear hR
                go_wp2_with fail
                rw [h1.out, h2.out]
                refine (refchoose_any _ _ (by omega) (by omega) _).mono ?_
                rw [Rnd.chooseI_nat]
                rintro e w2 ⟨rfl, hb2⟩
                go_wp2_with fail
                go_roundw
                case rel => exact ⟨m + 1, hmx, by omega, by go_num, by rw [hs.out], hbj.trans (hb2.mono hbj.size)⟩
                case measure => simp [intOf]; omega
              · obtain rfl : m = x := by omega
                go_wp2_with fail
                go_roundw
                case rel => exact ⟨i + 1, m + 1, hik, by go_num, by rw [hacc'.out]; rfl, by go_num, by omega, by show _ = _; rw [hnext'.out]; rfl, hbj⟩
                case measure => simp [intOf]; omega
          · obtain rfl : i = k := by omega
            go_wp2_with fail
            go_ret2
            rw [hres.out]
            exact ⟨rfl, hbi⟩
  · have hres : Hid (Rnd.rankS n zs = none) := by
      show _ = _
      unfold Rnd.rankS
      rw [Rnd.goodS_n hn, if_neg (by simp)]
    by_cases h0 : n < 0
    · clear hn
      go_enter Try.func30, Try.ntmps30
      go_wp2_with fail
      go_ret2
      rw [hres.out]
      exact ⟨rfl, Below.refl _ _⟩
    · have h1 : 60 < n := by omega
      have h0' : 0 ≤ n := by omega
      clear hn h0
      go_enter Try.func30, Try.ntmps30
      go_wp2_with fail
      go_ret2
      rw [hres.out]
      exact ⟨rfl, Below.refl _ _⟩
end Go.Proofs.Ytgbeljgpnhpphaa
