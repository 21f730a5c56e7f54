/-
  RankSubset.
-/
import Derived.Test.YtgbeljgpnhpphaaRankP
import Derived.Test.YtgbeljgpnhpphaaRefChoose
namespace Rnd
/-- The least number that position i may hold. -/
def fromAt (zs : List Int) (i : Nat) : Int := if i = 0 then 0 else zs.getD (i - 1) 0 + 1
def goodAtS (n : Int) (zs : List Int) (i : Nat) : Bool := decide (fromAt zs i ≤ zs.getD i 0) && decide (zs.getD i 0 < n)
def goodS (n : Int) (zs : List Int) : Bool := decide (0 ≤ n) && decide (n ≤ 60) && (List.range zs.length).all (goodAtS n zs)
/-- The numbers of the lists that begin with one of the m numbers from lo on. -/
def sumB (n c lo : Nat) : Nat → BitVec 64
  | 0 => 0#64
  | m + 1 => sumB n c lo m + bn (n - 1 - (lo + m)) c
def accS (n : Nat) (zs : List Int) : Nat → BitVec 64
  | 0 => 0#64
  | i + 1 => accS n zs i + sumB n (zs.length - 1 - i) (fromAt zs i).toNat ((zs.getD i 0).toNat - (fromAt zs i).toNat)
def rankS (n : Int) (zs : List Int) : Option (BitVec 64) := if goodS n zs = true then some (accS n.toNat zs zs.length) else none
theorem goodS_bad {n : Int} {zs : List Int} {i : Nat} (hi : i < zs.length) (h : goodAtS n zs i = false) : goodS n zs = false := by
  rw [goodS, Bool.and_eq_false_iff]
  right
  rw [List.all_eq_false]
  exact ⟨i, by simpa using hi, by simp [h]⟩
theorem goodS_n {n : Int} {zs : List Int} (h : ¬ (0 ≤ n ∧ n ≤ 60)) : goodS n zs = false := by
  rw [goodS, Bool.and_eq_false_iff]
  left
  by_cases h0 : 0 ≤ n
  · rw [decide_eq_false (p := n ≤ 60) (by omega), Bool.and_false]
  · rw [decide_eq_false h0, Bool.false_and]
end Rnd
namespace Go.Proofs.Ytgbeljgpnhpphaa
open Go.RowKit Go.Pl
set_option maxRecDepth 100000 in
set_option maxHeartbeats 2000000 in
theorem ranks_any {A : Option Addr} {l c : Nat} {zs : List Int} (w : World) (n : Int) (hnl : -9223372036854775808 ≤ n ∧ n ≤ 9223372036854775807) (hA : Row w (fun _ => True) 1 A l c (zs.map iv)) (hz : I64s zs) :
    Calls Try.prog 27 #[.int .i64 n, .slice A l c] w fun e w' => e = rankEnd (Rnd.rankS n zs) ∧ Below w.heap.size w w' := by
  have hl := hA.ints
  have hA' : Row w (fun i => i < w.heap.size) 1 A l c (zs.map iv) := hA.mono (fun i hi _ => hi)
  have hmax : l ≤ 9223372036854775807 := by have := hA.le; have := hA.max; simp only [maxLen] at this; omega
  clear hA
  by_cases hn : 0 ≤ n ∧ n ≤ 60
  · obtain ⟨N, rfl⟩ : ∃ N : Nat, n = (N : Int) := ⟨n.toNat, by omega⟩
    have hN : N ≤ 60 := by omega
    have hl' : Hid (l = zs.length) := hl
    have hbad : Hid (∀ i, i < l → Rnd.goodAtS N zs i = false → Rnd.rankS N zs = none) := fun i hi h => by
      unfold Rnd.rankS
      rw [Rnd.goodS_bad (by omega) h, if_neg (by simp)]
    have hgood : Hid ((∀ i, i < l → Rnd.goodAtS N zs i = true) → Rnd.rankS N zs = some (Rnd.accS N zs l)) := fun h => by
      unfold Rnd.rankS Rnd.goodS
      rw [if_pos, hl]
      · rfl
      · rw [Bool.and_eq_true, Bool.and_eq_true, decide_eq_true_eq, decide_eq_true_eq, List.all_eq_true]
        exact ⟨⟨by omega, by omega⟩, fun i hi => h i (by rw [hl]; simpa using hi)⟩
    have hz' := Lib.hid hz
    clear hl hz hn hnl
    have d1 : decide ((N : Int) < 0) = false := decide_eq_false (by omega)
    have d2 : decide (60 < (N : Int)) = false := decide_eq_false (by omega)
    go_enter Try.func27, Try.ntmps27
    go_wp2_with fail
    go_loopw [6, 7, 19] (fun t6 t7 t19 wr => ∃ (k f : Nat), k ≤ l ∧ t19 = .int .i64 (k : Int) ∧ t7 = .int .u64 (n64 (Rnd.accS N zs k)) ∧ t6 = .int .i64 (f : Int) ∧ f ≤ N ∧ Hid ((f : Int) = Rnd.fromAt zs k) ∧ Hid (∀ i, i < k → Rnd.goodAtS N zs i = true) ∧ Below w.heap.size w wr) (fun _ _ t19 _ => l - (intOf t19).toNat)
    case atStart => exact ⟨0, 0, Nat.zero_le _, rfl, rfl, rfl, Nat.zero_le _, rfl, fun i hi => by omega, Below.refl _ _⟩
    case round =>
      obtain ⟨k, f, hk, rfl, rfl, rfl, hf, hfr, hok, hb⟩ := hrel
      by_cases hlt : k < l
      · obtain ⟨b, o, rfl, hSb, hbl, hc⟩ := (hA'.up hb).intAt (by omega)
        have hc1 := hc k hlt
        have hzk := hz'.out.get (i := k) (by have := hl'.out; omega)
        have hat : Rnd.goodAtS N zs k = (decide ((f : Int) ≤ zs.getD k 0) && decide (zs.getD k 0 < (N : Int))) := by rw [Rnd.goodAtS, ← hfr.out]
        have hacc : Rnd.accS N zs (k + 1) = Rnd.accS N zs k + Rnd.sumB N (l - 1 - k) f ((zs.getD k 0).toNat - f) := by
          rw [Rnd.accS, ← hl'.out, ← hfr.out]; rfl
        have hnext : Rnd.fromAt zs (k + 1) = zs.getD k 0 + 1 := rfl
        obtain ⟨z, hzz⟩ : ∃ z, zs.getD k 0 = z := ⟨_, rfl⟩
        rw [hzz] at hat hacc hnext hc1 hzk
        have hacc' := Lib.hid hacc
        have hat' := Lib.hid hat
        have hnext' := Lib.hid hnext
        clear hzz hacc hat hc hnext
        by_cases hlo : z < (f : Int)
        · have hres := Lib.hid (hbad.out k hlt (by rw [hat'.out, decide_eq_false (by omega)]; rfl))
          go_wp2_with fail
          go_ret2
          rw [hres.out]
          exact ⟨rfl, hb⟩
        · have hlo' : (f : Int) ≤ z := by omega
          clear hlo
          by_cases hhi : (N : Int) ≤ z
          · have hres := Lib.hid (hbad.out k hlt (by rw [hat'.out, decide_eq_false (p := z < (N : Int)) (by omega)]; simp))
            go_wp2_with fail
            go_ret2
            rw [hres.out]
            exact ⟨rfl, hb⟩
          · obtain ⟨x, rfl⟩ : ∃ x : Nat, z = (x : Int) := ⟨z.toNat, by omega⟩
            have hgk : Rnd.goodAtS N zs k = true := by rw [hat'.out, decide_eq_true (by omega), decide_eq_true (by omega)]; rfl
            have hfx : f ≤ x := by omega
            have hxN : x < N := by omega
            have d3 : decide (x < f) = false := decide_eq_false (by omega)
            have d4 : decide (N ≤ x) = false := decide_eq_false (by omega)
            have d5 : decide ((x : Int) < (f : Int)) = false := decide_eq_false (by omega)
            have d6 : decide ((N : Int) ≤ (x : Int)) = false := decide_eq_false (by omega)
            clear hhi hlo' hat' hzk
            go_wp2_with fail
            go_loopw [7, 10] (fun t7 t10 wi => ∃ m : Nat, m ≤ x ∧ f ≤ m ∧ t10 = .int .i64 (m : Int) ∧ t7 = .int .u64 (n64 (Rnd.accS N zs k + Rnd.sumB N (l - 1 - k) f (m - f))) ∧ Below w.heap.size w wi) (fun _ t10 _ => x - (intOf t10).toNat)
            case atStart => exact ⟨f, hfx, Nat.le_refl _, rfl, by rw [Nat.sub_self, Rnd.sumB, BitVec.add_zero], hb⟩
            case round =>
              obtain ⟨m, hm, hfm, rfl, rfl, hbi⟩ := hrel
              by_cases hmx : m < x
              · have h1 : Hid (((N : Int) - 1 - (m : Int)) = ((N - 1 - m : Nat) : Int)) := by show _ = _; omega
                have h2 : Hid (((l : Int) - 1 - (k : Int)) = ((l - 1 - k : Nat) : Int)) := by show _ = _; omega
                have hs : Hid (Rnd.accS N zs k + Rnd.sumB N (l - 1 - k) f (m - f) + Rnd.bn (N - 1 - m) (l - 1 - k) = Rnd.accS N zs k + Rnd.sumB N (l - 1 - k) f (m + 1 - f)) := by
                  show _ = _
                  rw [show m + 1 - f = (m - f) + 1 by omega, Rnd.sumB, show f + (m - f) = m by omega, BitVec.add_assoc]
                generalize Rnd.accS N zs k + Rnd.sumB N (l - 1 - k) f (m - f) = R at hs ⊢
                go_wp2_with fail
                rw [h1.out, h2.out]
                refine (choose_any _ _ (by omega) (by omega) _).mono ?_
                rw [Rnd.chooseI_nat]
                rintro e w2 ⟨rfl, hb2⟩
                go_wp2_with fail
                go_roundw
                case rel => exact ⟨m + 1, hmx, by omega, by go_num, by rw [hs.out], hbi.trans (hb2.mono hbi.size)⟩
                case measure => simp [intOf]; omega
              · obtain rfl : m = x := by omega
                go_wp2_with fail
                go_roundw
                case rel => exact ⟨k + 1, m + 1, hlt, by go_num, by rw [hacc'.out]; rfl, by go_num, by omega, by show _ = _; rw [hnext'.out]; rfl, fun i hi => by
                  by_cases h : i = k
                  · subst h; exact hgk
                  · exact hok.out i (by omega), hbi⟩
                case measure => simp [intOf]; omega
      · obtain rfl : k = l := by omega
        have hres := Lib.hid (hgood.out hok.out)
        go_wp2_with fail
        go_ret2
        rw [hres.out]
        exact ⟨rfl, hb⟩
  · have hres : Hid (Rnd.rankS n zs = none) := by
      show _ = _
      unfold Rnd.rankS
      rw [Rnd.goodS_n hn, if_neg (by simp)]
    by_cases h0 : n < 0
    · clear hn
      go_enter Try.func27, Try.ntmps27
      go_wp2_with fail
      go_ret2
      rw [hres.out]
      exact ⟨rfl, Below.refl _ _⟩
    · have h1 : 60 < n := by omega
      have h0' : 0 ≤ n := by omega
      clear hn h0
      go_enter Try.func27, Try.ntmps27
      go_wp2_with fail
      go_ret2
      rw [hres.out]
      exact ⟨rfl, Below.refl _ _⟩
end Go.Proofs.Ytgbeljgpnhpphaa
