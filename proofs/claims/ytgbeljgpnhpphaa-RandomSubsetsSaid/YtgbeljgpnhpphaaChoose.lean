/-
  choose, Choose, and the reference's Choose.
-/
import Derived.Test.YtgbeljgpnhpphaaOwn
import Derived.Test.YtgbeljgpnhpphaaU64
import Derived.Test.YtgbeljgpnhpphaaOrd
import Derived.Test.YtgbeljgpnhpphaaBinom
import Derived.Test.YtgbeljgpnhpphaaProg
import Derived.LoopTactic
namespace Go.Pl
def bv (x : BitVec 64) : Value := .int .u64 (n64 x)
theorem bv_zero : Value.int .u64 0 = bv 0#64 := rfl
theorem bv_one : Value.int .u64 1 = bv 1#64 := rfl
/-- The row of choose: from j > i on it is the next one. -/
def chRow (r i k : Nat) : List Value := (List.range (k + 1)).map fun j => bv (if i < j then Rnd.bn (r + 1) j else Rnd.bn r j)
theorem chRow_len (r i k : Nat) : (chRow r i k).length = k + 1 := by simp [chRow]
theorem chRow_get (r i k j : Nat) (h : j ≤ k) : (chRow r i k)[j]? = some (bv (if i < j then Rnd.bn (r + 1) j else Rnd.bn r j)) := by
  unfold chRow
  rw [List.getElem?_map, List.getElem?_range (by omega)]
  rfl
theorem chRow_start (k : Nat) : (List.replicate (k + 1) (Value.int .u64 0)).set 0 (Value.int .u64 1) = chRow 0 k k := by
  apply List.ext_getElem?
  intro j
  by_cases hj : j ≤ k
  · rw [chRow_get 0 k k j hj, if_neg (by omega), List.getElem?_set]
    by_cases h0 : j = 0
    · subst h0; simp [Rnd.bn_zero, bv_one]
    · rw [if_neg (by omega), List.getElem?_replicate, if_pos (by omega)]
      obtain ⟨m, rfl⟩ : ∃ m, j = m + 1 := ⟨j - 1, by omega⟩
      rfl
  · rw [List.getElem?_eq_none (by simp; omega), List.getElem?_eq_none (by rw [chRow_len]; omega)]
theorem chRow_step (r i k : Nat) (h : i + 1 ≤ k) : (chRow r (i + 1) k).set (i + 1) (bv (Rnd.bn r (i + 1) + Rnd.bn r i)) = chRow r i k := by
  apply List.ext_getElem?
  intro j
  by_cases hj : j ≤ k
  · rw [List.getElem?_set, chRow_get r i k j hj, chRow_get r (i + 1) k j hj, chRow_len]
    by_cases h1 : i + 1 = j
    · subst h1
      rw [if_pos rfl, if_pos (by omega), if_pos (by omega), Rnd.bn_step]
    · rw [if_neg h1]
      by_cases h2 : i + 1 < j
      · rw [if_pos h2, if_pos (by omega)]
      · rw [if_neg h2, if_neg (by omega)]
  · rw [List.getElem?_eq_none (by simp [chRow_len]; omega), List.getElem?_eq_none (by rw [chRow_len]; omega)]
theorem chRow_end (r k : Nat) : chRow r 0 k = chRow (r + 1) k k := by
  apply List.ext_getElem?
  intro j
  by_cases hj : j ≤ k
  · rw [chRow_get r 0 k j hj, chRow_get (r + 1) k k j hj, if_neg (show ¬ k < j by omega)]
    by_cases h0 : j = 0
    · subst h0; rw [if_neg (by omega), Rnd.bn_zero, Rnd.bn_zero]
    · rw [if_pos (by omega)]
  · rw [List.getElem?_eq_none (by rw [chRow_len]; omega), List.getElem?_eq_none (by rw [chRow_len]; omega)]
end Go.Pl
namespace Go.Proofs.Ytgbeljgpnhpphaa
open Go.RowKit Go.Pl
theorem choose_no (n k : Int) (h : k < 0 ∨ n < k) (w : World) :
    Calls Try.prog 39 #[.int .i64 n, .int .i64 k] w fun e w' => e = .returned (.int .u64 0) ∧ w = w' := by
  by_cases h1 : k < 0
  · go_enter Try.func39, Try.ntmps39
    go_wp2
    go_ret
    exact ⟨rfl, rfl⟩
  · have h2 : n < k := by omega
    have h1' : 0 ≤ k := by omega
    clear h h1
    go_enter Try.func39, Try.ntmps39
    go_wp2
    go_ret
    exact ⟨rfl, rfl⟩
set_option maxRecDepth 100000 in
set_option maxHeartbeats 1000000 in
theorem choose_yes (n k : Nat) (hk : k ≤ n) (hn : n ≤ 60) (w : World) :
    Calls Try.prog 39 #[.int .i64 (n : Int), .int .i64 (k : Int)] w fun e w' => e = .returned (.int .u64 (n64 (Rnd.bn n k))) ∧ Below w.heap.size w w' := by
  obtain ⟨N, hN'⟩ : ∃ N, N = k + 1 := ⟨_, rfl⟩
  have hkN : k < N := by omega
  have hN61 : N ≤ 61 := by omega
  have hNk : Hid (((k : Int) + 1) = (N : Int)) := by show _ = _; omega
  have hN : Hid (N = k + 1) := hN'
  clear hN'
  go_enter Try.func39, Try.ntmps39
  obtain ⟨G, hG'⟩ : ∃ G, w.heap.size = G := ⟨_, rfl⟩
  have hG : Hid (w.heap.size = G) := hG'
  clear hG'
  go_wp2_with ((with_reducible refine wpl_make rfl 60 (.tmp 15) (.tmp 15) rfl w.heap.size 22 (.int .u64 0) 8 ?_ ?_ rfl (by omega) .i64 .i64 N ?_ ?_ (by omega) (Nat.le_refl _) ?_); rfl; kernel_rfl; exact congrArg _ hNk.out; exact congrArg _ hNk.out; rw [hG.out]; intro w1 ho1 hg1;
                have hf1 : Fr (fun i => i = G) w w1 := (Fr.refl _ w).grown hg1 (fun g h => (by cases h));
                obtain ⟨-, hgl, hget, hfz, hset⟩ := own_g ho1;
                have c0 : w1.cell? ⟨G, 0, none⟩ = some (.int .u64 0) := (hget 0 (by omega)).trans (by rw [List.getElem?_replicate, if_pos (by omega)]);
                have f0 := hfz 0;
                have s0 := Lib.hid (hset 0 (.int .u64 1) (by omega));
                clear ho1 hget hfz hset hg1)
  have hro : (w1.setCell ⟨G, 0, none⟩ (.int .u64 1)).ownsRow G 22 1 (.slice (some ⟨G, 0, none⟩) N N) N (chRow 0 k k) := by
    have h := s0.out
    rw [show (List.replicate N (Value.int .u64 0)).set 0 (Value.int .u64 1) = chRow 0 k k by rw [hN.out]; exact chRow_start k] at h
    exact h
  have hf2 : Fr (fun i => i = G) w (w1.setCell ⟨G, 0, none⟩ (.int .u64 1)) := hf1.setCell (.inl rfl) _
  clear s0 c0 f0 hf1
  have hN9 : (N : Int) ≤ 61 := by omega
  go_wp2_with fail
  go_loopw [20] (fun t20 wr => ∃ r : Nat, r ≤ n ∧ t20 = .int .i64 (r : Int) ∧ wr.ownsRow G 22 1 (.slice (some ⟨G, 0, none⟩) N N) N (chRow r k k) ∧ Fr (fun i => i = G) w wr) (fun t20 _ => n - (intOf t20).toNat)
  case atStart => exact ⟨0, Nat.zero_le _, rfl, hro, hf2⟩
  case round =>
    obtain ⟨r, hr, rfl, hor, hfr⟩ := hrel
    by_cases hlt : r < n
    · obtain ⟨wo, rfl⟩ : ∃ wo : World, wo = wr := ⟨_, rfl⟩
      go_wp2_with fail
      go_loopw [6] (fun t6 wi => ∃ i : Nat, i ≤ k ∧ t6 = .int .i64 (i : Int) ∧ wi.ownsRow G 22 1 (.slice (some ⟨G, 0, none⟩) N N) N (chRow r i k) ∧ Fr (fun i => i = G) w wi) (fun t6 _ => (intOf t6).toNat)
      case atStart => exact ⟨k, Nat.le_refl _, rfl, hor, hfr⟩
      case round =>
        obtain ⟨i, hi, rfl, hor2, hfr2⟩ := hrel
        by_cases hpos : 0 < i
        · obtain ⟨j, rfl⟩ : ∃ j, i = j + 1 := ⟨i - 1, by omega⟩
          obtain ⟨-, hgl, hget, hfz, hset⟩ := own_g hor2
          have c1 : wr.cell? ⟨G, j + 1, none⟩ = some (.int .u64 (n64 (Rnd.bn r (j + 1)))) := (hget (j + 1) (by omega)).trans (by rw [chRow_get r (j + 1) k (j + 1) hi, if_neg (by omega)]; rfl)
          have c0 : wr.cell? ⟨G, j, none⟩ = some (.int .u64 (n64 (Rnd.bn r j))) := (hget j (by omega)).trans (by rw [chRow_get r (j + 1) k j (by omega), if_neg (by omega)]; rfl)
          have f1 := hfz (j + 1)
          have s1 := hset (j + 1) (.int .u64 (n64 (Rnd.bn r (j + 1) + Rnd.bn r j))) (by omega)
          rw [show (chRow r (j + 1) k).set (j + 1) (.int .u64 (n64 (Rnd.bn r (j + 1) + Rnd.bn r j))) = chRow r j k from chRow_step r j k hi] at s1
          have s1' := Lib.hid s1
          have fr1 := hfr2.setCell (p := ⟨G, j + 1, none⟩) (.inl rfl) (.int .u64 (n64 (Rnd.bn r (j + 1) + Rnd.bn r j)))
          clear hor2 hget hfz hset s1
          go_wp2_with fail
          refine wp_region_ord [0, 1, 2, 4, 5, 6, 7] [3, 8, 9, 10] [11] (by kernel_rfl) (by kernel_rfl) (fun _ _ _ _ _ h => h) ?_
          simp only [ordPick, Option.toList_some, List.cons_append, List.nil_append, List.getElem?_cons_succ, List.getElem?_cons_zero]
          repeat (go_big_quiet_step (fail))
          refine wpQuiet_nil ?_
          repeat (go_big_quiet_step (fail))
          refine wpQuiet_nil ?_
          go_wp2_with fail
          go_roundw
          case rel => exact ⟨j, by omega, by go_num, s1'.out, fr1.drew⟩
          case measure => simp [intOf]
        · obtain rfl : i = 0 := by omega
          rw [chRow_end] at hor2
          go_wp2_with fail
          go_roundw
          case rel => exact ⟨r + 1, hlt, by go_num, hor2, hfr2⟩
          case measure => simp [intOf]; omega
    · obtain rfl : r = n := by omega
      obtain ⟨-, hgl, hget, hfz, hset⟩ := own_g hor
      have c1 : wr.cell? ⟨G, k, none⟩ = some (.int .u64 (n64 (Rnd.bn r k))) := (hget k hkN).trans (by rw [chRow_get r k k k (Nat.le_refl _), if_neg (by omega)]; rfl)
      clear hor hget hfz hset
      go_wp2_with fail
      go_ret
      exact ⟨rfl, hfr.below (fun i h => by have := hG.out; omega) (Nat.le_refl _)⟩
theorem choose_any (n k : Int) (h0 : 0 ≤ n) (h1 : n ≤ 60) (w : World) :
    Calls Try.prog 39 #[.int .i64 n, .int .i64 k] w fun e w' => e = .returned (.int .u64 (n64 (Rnd.chooseI n k))) ∧ Below w.heap.size w w' := by
  unfold Rnd.chooseI
  by_cases h : k < 0 ∨ n < k
  · rw [if_pos h]
    exact (choose_no n k h w).mono fun e w' ⟨he, hw⟩ => ⟨he, by subst hw; exact Below.refl _ _⟩
  · rw [if_neg h]
    obtain ⟨a, rfl⟩ : ∃ a : Nat, n = a := ⟨n.toNat, by omega⟩
    obtain ⟨b, rfl⟩ : ∃ b : Nat, k = b := ⟨k.toNat, by omega⟩
    exact choose_yes a b (by omega) (by omega) w
end Go.Proofs.Ytgbeljgpnhpphaa
