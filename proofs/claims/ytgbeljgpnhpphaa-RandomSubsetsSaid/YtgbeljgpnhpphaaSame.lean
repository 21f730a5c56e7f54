/-
  Two lists of numbers compared: Same, Less; is a list a permutation.
-/
import Derived.Test.YtgbeljgpnhpphaaRankP
namespace Rnd
def lessL : List Int → List Int → Bool
  | [], [] => false
  | [], _ :: _ => true
  | _ :: _, [] => false
  | x :: a, y :: b => if x = y then lessL a b else decide (x < y)
theorem drop_cons (zs : List Int) (k : Nat) (h : k < zs.length) : zs.drop k = zs.getD k 0 :: zs.drop (k + 1) := by
  rw [List.drop_eq_getElem_cons h]
  simp [h]
def permB (zs : List Int) : Bool := (List.range zs.length).all (goodAt zs)
theorem permB_bad {zs : List Int} {i : Nat} (hi : i < zs.length) (h : goodAt zs i = false) : permB zs = false := by
  rw [permB, List.all_eq_false]
  exact ⟨i, by simpa using hi, by simp [h]⟩
theorem permB_good {zs : List Int} (h : ∀ i, i < zs.length → goodAt zs i = true) : permB zs = true := by
  rw [permB, List.all_eq_true]
  exact fun i hi => h i (by simpa using hi)
end Rnd
namespace Go.Pl
open Go.RowKit
theorem drewN_fr (w : World) (n : Nat) : Fr (fun _ => False) w (w.drewN n) := (Fr.refl _ w).drewN n
end Go.Pl
namespace Go.Proofs.Ytgbeljgpnhpphaa
open Go.RowKit Go.Pl
set_option maxRecDepth 100000 in
theorem same_any {A B : Option Addr} {n c m d : Nat} {zs ys : List Int} (w : World) (hA : Row w (fun _ => True) 1 A n c (zs.map iv)) (hB : Row w (fun _ => True) 1 B m d (ys.map iv)) (hn : n ≤ 9223372036854775807) :
    Calls Try.prog 21 #[.slice A n c, .slice B m d] w fun e w' => e = .returned (.bool (decide (zs = ys))) ∧ Below w.heap.size w w' := by
  have hzl := hA.ints
  have hyl := hB.ints
  by_cases hl : n = m
  · subst hl
    have hzl' := Lib.hid hzl
    have hyl' := Lib.hid hyl
    have hd0 : Hid (decide (zs = ys) = decide (zs.drop 0 = ys.drop 0)) := rfl
    clear hzl hyl
    generalize decide (zs = ys) = D at hd0 ⊢
    go_enter Try.func21, Try.ntmps21
    go_wp2_with fail
    go_loopw [5] (fun t5 wr => ∃ k : Nat, k ≤ n ∧ t5 = .int .i64 (k : Int) ∧ Hid (D = decide (zs.drop k = ys.drop k)) ∧ Fr (fun _ => False) w wr) (fun t5 _ => n - (intOf t5).toNat)
    case atStart => exact ⟨0, Nat.zero_le _, rfl, hd0, Fr.refl _ _⟩
    case round =>
      obtain ⟨k, hk, rfl, hd, hfr⟩ := hrel
      by_cases hlt : k < n
      · obtain ⟨b, o, rfl, -, -, hc⟩ := (hA.fr hfr (fun _ _ h => h)).intAt (by omega)
        obtain ⟨b2, o2, rfl, -, -, hc2⟩ := (hB.fr hfr (fun _ _ h => h)).intAt (by omega)
        have c1 := hc k hlt
        have c2 := hc2 k hlt
        have hd' := hd.out
        rw [Rnd.drop_cons zs k (by have := hzl'.out; omega), Rnd.drop_cons ys k (by have := hyl'.out; omega)] at hd'
        obtain ⟨x, hx⟩ : ∃ x, zs.getD k 0 = x := ⟨_, rfl⟩
        obtain ⟨y, hy⟩ : ∃ y, ys.getD k 0 = y := ⟨_, rfl⟩
        rw [hx] at c1 hd'
        rw [hy] at c2 hd'
        clear hc hc2 hx hy hd
        by_cases hxy : x = y
        · subst hxy
          have hd2 : Hid (D = decide (zs.drop (k + 1) = ys.drop (k + 1))) := by show _ = _; rw [hd']; simp
          clear hd'
          go_wp2_with fail
          refine wp_region_quiet_lit (by kernel_rfl) (by kernel_rfl) ?_
          repeat (go_big_quiet_step (fail))
          refine wpQuiet_nil ?_
          intro _ hw'
          obtain ⟨nq, hw''⟩ := hw'
          subst hw''
          go_wp2_with fail
          go_roundw
          case rel => exact ⟨k + 1, hlt, by go_num, hd2, hfr.drewN nq⟩
          case measure => simp [intOf]; omega
        · have hd2 : Hid (D = false) := by show _ = _; rw [hd']; simp [hxy]
          have hne : (x == y) = false := by simp [hxy]
          have hne2 : (x != y) = true := by simp [hxy]
          clear hd' hxy
          go_wp2_with fail
          refine wp_region_quiet_lit (by kernel_rfl) (by kernel_rfl) ?_
          repeat (go_big_quiet_step (fail))
          refine wpQuiet_nil ?_
          intro _ hw'
          obtain ⟨nq, hw''⟩ := hw'
          subst hw''
          go_wp2_with fail
          go_ret
          rw [hd2.out]
          exact ⟨rfl, (hfr.drewN nq).below (fun _ h => h.elim) (Nat.le_refl _)⟩
      · have hd2 : Hid (D = true) := by
          show _ = _
          rw [hd.out, List.drop_of_length_le (by have := hzl'.out; omega), List.drop_of_length_le (by have := hyl'.out; omega)]
          rfl
        clear hd
        go_wp2_with fail
        go_ret
        rw [hd2.out]
        exact ⟨rfl, hfr.below (fun _ h => h.elim) (Nat.le_refl _)⟩
  · have hd : Hid (decide (zs = ys) = false) := by
      show _ = _
      rw [decide_eq_false]
      rintro rfl
      omega
    have hne : ((n : Int) == (m : Int)) = false := by simp; omega
    have hne2 : ((n : Int) != (m : Int)) = true := by simp; omega
    clear hzl hyl hl
    go_enter Try.func21, Try.ntmps21
    go_wp2_with fail
    go_ret
    rw [hd.out]
    exact ⟨rfl, Below.refl _ _⟩
set_option maxRecDepth 100000 in
theorem less_any {A B : Option Addr} {n c m d : Nat} {zs ys : List Int} (w : World) (hA : Row w (fun _ => True) 1 A n c (zs.map iv)) (hB : Row w (fun _ => True) 1 B m d (ys.map iv)) (hn : n ≤ 9223372036854775807) (hm : m ≤ 9223372036854775807) :
    Calls Try.prog 26 #[.slice A n c, .slice B m d] w fun e w' => e = .returned (.bool (Rnd.lessL zs ys)) ∧ Below w.heap.size w w' := by
  have hzl' := Lib.hid hA.ints
  have hyl' := Lib.hid hB.ints
  have hd0 : Hid (Rnd.lessL zs ys = Rnd.lessL (zs.drop 0) (ys.drop 0)) := rfl
  obtain ⟨D, hD⟩ : ∃ D, Rnd.lessL zs ys = D := ⟨_, rfl⟩
  rw [hD] at hd0
  rw [hD]
  clear hD
  go_enter Try.func26, Try.ntmps26
  go_wp2_with fail
  go_loopw [5] (fun t5 wr => ∃ k : Nat, k ≤ n ∧ k ≤ m ∧ t5 = .int .i64 (k : Int) ∧ Hid (D = Rnd.lessL (zs.drop k) (ys.drop k)) ∧ Fr (fun _ => False) w wr) (fun t5 _ => n - (intOf t5).toNat)
  case atStart => exact ⟨0, Nat.zero_le _, Nat.zero_le _, rfl, hd0, Fr.refl _ _⟩
  case round =>
    obtain ⟨k, hk, hkm, rfl, hd, hfr⟩ := hrel
    have hlo : Below w.heap.size w wr := hfr.below (fun _ h => h.elim) (Nat.le_refl _)
    by_cases hlt : k < n
    · by_cases hltm : k < m
      · obtain ⟨b, o, rfl, -, -, hc⟩ := (hA.fr hfr (fun _ _ h => h)).intAt (by omega)
        obtain ⟨b2, o2, rfl, -, -, hc2⟩ := (hB.fr hfr (fun _ _ h => h)).intAt (by omega)
        have c1 := hc k hlt
        have c2 := hc2 k hltm
        have hd' := hd.out
        rw [Rnd.drop_cons zs k (by have := hzl'.out; omega), Rnd.drop_cons ys k (by have := hyl'.out; omega), Rnd.lessL] at hd'
        obtain ⟨x, hx⟩ : ∃ x, zs.getD k 0 = x := ⟨_, rfl⟩
        obtain ⟨y, hy⟩ : ∃ y, ys.getD k 0 = y := ⟨_, rfl⟩
        rw [hx] at c1 hd'
        rw [hy] at c2 hd'
        clear hc hc2 hx hy hd
        by_cases hxy : x = y
        · subst hxy
          have hd2 : Hid (D = Rnd.lessL (zs.drop (k + 1)) (ys.drop (k + 1))) := by show _ = _; rw [hd']; simp
          clear hd'
          go_wp2_with fail
          refine wp_region_quiet_lit (by kernel_rfl) (by kernel_rfl) ?_
          repeat (go_big_quiet_step (fail))
          refine wpQuiet_nil ?_
          intro _ hw'
          obtain ⟨nq, hw''⟩ := hw'
          subst hw''
          go_wp2_with fail
          go_roundw
          case rel => exact ⟨k + 1, hlt, hltm, by go_num, hd2, hfr.drewN nq⟩
          case measure => simp [intOf]; omega
        · have hd2 : Hid (D = decide (x < y)) := by show _ = _; rw [hd', if_neg hxy]
          have hne : (x == y) = false := by simp [hxy]
          have hne2 : (x != y) = true := by simp [hxy]
          clear hd' hxy
          go_wp2_with fail
          refine wp_region_quiet_lit (by kernel_rfl) (by kernel_rfl) ?_
          repeat (go_big_quiet_step (fail))
          refine wpQuiet_nil ?_
          intro _ hw'
          obtain ⟨nq, hw''⟩ := hw'
          subst hw''
          go_wp2_with fail
          refine wp_region_quiet_lit (by kernel_rfl) (by kernel_rfl) ?_
          repeat (go_big_quiet_step (fail))
          refine wpQuiet_nil ?_
          intro _ hw'
          obtain ⟨nq2, hw''⟩ := hw'
          subst hw''
          go_wp2_with fail
          go_ret
          rw [hd2.out]
          exact ⟨rfl, ((hfr.drewN nq).drewN nq2).below (fun _ h => h.elim) (Nat.le_refl _)⟩
      · have hd2 : Hid (D = false) := by
          show _ = _
          rw [hd.out, List.drop_of_length_le (l := ys) (by have := hyl'.out; omega), Rnd.drop_cons zs k (by have := hzl'.out; omega), Rnd.lessL]
        have hnm : ¬ n < m := by omega
        clear hd
        go_wp2_with fail
        go_ret
        rw [hd2.out]
        exact ⟨rfl, hlo⟩
    · have hd2 : Hid (D = decide (n < m)) := by
        show _ = _
        rw [hd.out, List.drop_of_length_le (l := zs) (by have := hzl'.out; omega)]
        by_cases hnm : n < m
        · rw [Rnd.drop_cons ys k (by have := hyl'.out; omega), Rnd.lessL, decide_eq_true hnm]
        · rw [List.drop_of_length_le (by have := hyl'.out; omega), Rnd.lessL, decide_eq_false hnm]
      clear hd
      go_wp2_with fail
      go_ret
      rw [hd2.out]
      exact ⟨rfl, hlo⟩
end Go.Proofs.Ytgbeljgpnhpphaa
