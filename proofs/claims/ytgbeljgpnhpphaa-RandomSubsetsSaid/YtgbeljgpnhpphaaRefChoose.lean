/-
  The reference's binomial coefficients; Choose.
-/
import Derived.Test.YtgbeljgpnhpphaaChoose
namespace Go.Pl
/-- Row r of Pascal's triangle. -/
def pasc (r : Nat) : List Value := (List.range (r + 1)).map fun j => bv (Rnd.bn r j)
theorem pasc_len (r : Nat) : (pasc r).length = r + 1 := by simp [pasc]
theorem pasc_get (r j : Nat) (h : j ≤ r) : (pasc r)[j]? = some (bv (Rnd.bn r j)) := by
  unfold pasc
  rw [List.getElem?_map, List.getElem?_range (by omega)]
  rfl
theorem pasc_take (r m : Nat) (h : m < r) : (pasc (r + 1)).take (m + 1) ++ [bv (Rnd.bn r m + Rnd.bn r (m + 1))] = (pasc (r + 1)).take (m + 1 + 1) := by
  have hl : m + 1 < (pasc (r + 1)).length := by rw [pasc_len]; omega
  rw [List.take_succ_eq_append_getElem hl]
  congr 2
  have := pasc_get (r + 1) (m + 1) (by omega)
  rw [List.getElem?_eq_getElem hl] at this
  rw [Option.some.inj this, BitVec.add_comm, Rnd.bn_step]
theorem pasc_one (r : Nat) : (pasc r).take 1 = [bv 1#64] := by
  have hl : 0 < (pasc r).length := by rw [pasc_len]; omega
  have := pasc_get r 0 (by omega)
  rw [List.getElem?_eq_getElem hl] at this
  rw [List.take_succ_eq_append_getElem hl, Option.some.inj this, Rnd.bn_zero]
  rfl
theorem pasc_full (r : Nat) : (pasc (r + 1)).take (r + 1) ++ [bv 1#64] = pasc (r + 1) := by
  have hl : r + 1 < (pasc (r + 1)).length := by rw [pasc_len]; omega
  have := pasc_get (r + 1) (r + 1) (by omega)
  rw [List.getElem?_eq_getElem hl] at this
  have h1 : (1#64 : BitVec 64) = Rnd.bn (r + 1) (r + 1) := by unfold Rnd.bn; rw [Rnd.binom_self]
  rw [h1, ← Option.some.inj this, ← List.take_succ_eq_append_getElem hl, List.take_of_length_le (by rw [pasc_len]; omega)]
end Go.Pl
namespace Go.Proofs.Ytgbeljgpnhpphaa
open Go.RowKit Go.Pl
theorem refchoose_no (n k : Int) (h : k < 0 ∨ n < k) (w : World) :
    Calls Try.prog 24 #[.int .i64 n, .int .i64 k] w fun e w' => e = .returned (.int .u64 0) ∧ w = w' := by
  by_cases h1 : k < 0
  · go_enter Try.func24, Try.ntmps24
    go_wp2
    go_ret
    exact ⟨rfl, rfl⟩
  · have h2 : n < k := by omega
    have h1' : 0 ≤ k := by omega
    clear h h1
    go_enter Try.func24, Try.ntmps24
    go_wp2
    go_ret
    exact ⟨rfl, rfl⟩
set_option maxRecDepth 100000 in
set_option maxHeartbeats 1000000 in
theorem refchoose_yes (n k : Nat) (hk : k ≤ n) (hn : n ≤ 60) (w : World) :
    Calls Try.prog 24 #[.int .i64 (n : Int), .int .i64 (k : Int)] w fun e w' => e = .returned (.int .u64 (n64 (Rnd.bn n k))) ∧ Below w.heap.size w w' := by
  have e1 : decide ((k : Int) < 0) = false := by simp
  have e2 : decide (n < k) = false := by simp; omega
  have e3 : decide ((n : Int) < (k : Int)) = false := by simp; omega
  go_enter Try.func24, Try.ntmps24
  go_wp2_with fail
  have hp0 : pasc 0 = [Value.int .u64 1] := by unfold pasc; rfl
  have o0 := own_cells w (Nat.le_refl _) 22 #[.int .u64 1] _ hp0.symm 1 1 (by simp [pasc_len]) (by decide)
  have b0 : Below w.heap.size w (w.alloc (.cells #[.int .u64 1] 22)) := (Below.refl _ _).alloc (Nat.le_refl _) _
  clear hp0
  go_loopw [5, 6] (fun t5 t6 wr => ∃ (r N : Nat) (A : Option Addr) (c : Nat), r ≤ n ∧ N = r + 1 ∧ t6 = .int .i64 (r : Int) ∧ t5 = .slice A N c ∧ wr.ownsRow w.heap.size 22 1 (.slice A N c) N (pasc r) ∧ Below w.heap.size w wr) (fun _ t6 _ => n - (intOf t6).toNat)
  case atStart => exact ⟨0, 1, _, _, Nat.zero_le _, rfl, rfl, rfl, o0, b0⟩
  case round =>
    obtain ⟨r, N, A, c, hr, hN, rfl, rfl, hor, hbr⟩ := hrel
    obtain ⟨g, rfl, hgB, hgl, hget, -, -⟩ := own_at hor (by omega)
    have hN' : Hid (N = r + 1) := hN
    have hN61 : N ≤ 61 := by omega
    have hrN : r < N := by omega
    clear hN hor o0 b0
    by_cases hlt : r < n
    · obtain ⟨wo, rfl⟩ : ∃ wo : World, wo = wr := ⟨_, rfl⟩
      obtain ⟨Bo, hBo'⟩ : ∃ Bo, wo.heap.size = Bo := ⟨_, rfl⟩
      have hBo : Hid (wo.heap.size = Bo) := hBo'
      have hsz := hbr.size
      have hp1 := pasc_one (r + 1)
      have o1 := own_cells wo (Nat.le_refl _) 22 #[.int .u64 1] _ hp1.symm 1 1 (by simp [pasc_len]) (by decide)
      have b1 : Below wo.heap.size wo (wo.alloc (.cells #[.int .u64 1] 22)) := (Below.refl _ _).alloc (Nat.le_refl _) _
      rw [hBo'] at o1 b1 hsz hgl
      clear hBo' hp1
      go_wp2_with fail
      rw [hBo.out]
      go_loopw [7, 8] (fun t7 t8 wi => ∃ (m M : Nat) (A2 : Option Addr) (c2 : Nat), m ≤ r ∧ M = m + 1 ∧ t8 = .int .i64 ((m : Int) + 1) ∧ t7 = .slice A2 M c2 ∧ wi.ownsRow Bo 22 1 (.slice A2 M c2) M ((pasc (r + 1)).take M) ∧ Below Bo wo wi) (fun _ t8 _ => N - (intOf t8).toNat)
      case atStart => exact ⟨0, 1, _, _, Nat.zero_le _, rfl, rfl, rfl, o1, b1⟩
      case round =>
        obtain ⟨m, M, A2, c2, hm, hM, rfl, rfl, hor2, hbi⟩ := hrel
        have hszi := hbi.size
        rw [hBo.out] at hszi
        have hM' : Hid (M = m + 1) := hM
        have hM61 : M ≤ 61 := by omega
        clear hM
        by_cases hmr : m < r
        · have c0 : wr.cell? ⟨g, m, none⟩ = some (.int .u64 (n64 (Rnd.bn r m))) := ((hbi.cell (p := ⟨g, m, none⟩) hgl).trans (hget m (by omega))).trans (pasc_get r m hm)
          have c1 : wr.cell? ⟨g, m + 1, none⟩ = some (.int .u64 (n64 (Rnd.bn r (m + 1)))) := ((hbi.cell (p := ⟨g, m + 1, none⟩) hgl).trans (hget (m + 1) (by have := hN'.out; omega))).trans (pasc_get r (m + 1) hmr)
          have hmN : m + 1 < N := by have := hN'.out; omega
          obtain ⟨X, hX'⟩ : ∃ X, Rnd.bn r m + Rnd.bn r (m + 1) = X := ⟨_, rfl⟩
          have o2 := own_fr (own_alc hor2 (.cells #[.int .u64 (n64 X)] 22)) ((Fr.refl (fun _ => False) (wr.alloc (.cells #[.int .u64 (n64 X)] 22))).drew) (fun _ _ h => h)
          have r2 := (Row.new (n := 1) (sz := 1) wr 22 #[.int .u64 (n64 X)] [.int .u64 (n64 X)] rfl rfl (by decide)).fr ((Fr.refl (fun _ => False) (wr.alloc (.cells #[.int .u64 (n64 X)] 22))).drew) (fun _ _ h => h)
          have hb2 : Below Bo wo (wr.alloc (.cells #[.int .u64 (n64 X)] 22)).drew := (hbi.alloc (by exact hszi) _).drew
          have ht2 : Hid ((pasc (r + 1)).take M ++ [.int .u64 (n64 X)] = (pasc (r + 1)).take (M + 1)) := by show _ = _; rw [← hX', hM'.out]; exact pasc_take r m hmr
          have hX := Lib.hid hX'
          clear hX' hor2
          go_wp2_with fail
          refine wp_region_ord [0, 1, 2, 3, 4, 6, 7, 8] [5, 9, 10] [11, 12, 13] (by kernel_rfl) (by kernel_rfl) (fun _ _ _ _ _ h => h) ?_
          simp only [ordPick, Option.toList_some, List.cons_append, List.nil_append, List.getElem?_cons_succ, List.getElem?_cons_zero]
          repeat (go_big_quiet_step (fail))
          refine wpQuiet_nil ?_
          repeat (go_big_quiet_step (fail))
          refine wpQuiet_nil ?_
          rw [hX.out]
          go_wp2_with ((with_reducible refine wpl_app rfl (.tmp 29) (.tmp 40) 60 rfl Bo 22 (.int .u64 0) 1 8 ?_ ?_ rfl (by omega) (by omega) _ ?_ M _ o2 _ _ 1 1 ?_ _ r2 (by simp [Value.oneCell']) (by omega) (by have := hb2.size; simp at this ⊢; omega) (M + 1) rfl ?_); rfl; kernel_rfl; rfl; rfl; intro A3 c3 w3 ho3 hg3 hz3)
          go_roundw
          case rel => exact ⟨m + 1, M + 1, A3, c3, hmr, by rw [hM'.out], by go_num, rfl, by rw [← ht2.out]; exact ho3, hb2.grown hg3 (by simp; omega) (fun k hk => (own_lt o2 k hk).1)⟩
          case measure => simp [intOf]; omega
        · obtain rfl : m = r := by omega
          obtain rfl : N = M := by rw [hN'.out, hM'.out]
          have o2 := own_alc hor2 (.cells #[.int .u64 1] 22)
          have r2 := Row.new (n := 1) (sz := 1) wr 22 #[.int .u64 1] [.int .u64 1] rfl rfl (by decide)
          have hb2 : Below Bo wo (wr.alloc (.cells #[.int .u64 1] 22)) := hbi.alloc (by exact hszi) _
          have ht2 : Hid ((pasc (m + 1)).take N ++ [.int .u64 1] = pasc (m + 1)) := by show _ = _; rw [hN'.out]; exact pasc_full m
          have hmN : (N : Int) ≤ (m : Int) + 1 := by have := hN'.out; omega
          clear hor2
          go_wp2_with ((with_reducible refine wpl_app rfl (.tmp 42) (.tmp 43) 60 rfl Bo 22 (.int .u64 0) 1 8 ?_ ?_ rfl (by omega) (by omega) _ ?_ N _ o2 _ _ 1 1 ?_ _ r2 (by simp [Value.oneCell']) (by omega) (by have := hb2.size; simp at this ⊢; omega) (N + 1) rfl ?_); rfl; kernel_rfl; rfl; rfl; intro A3 c3 w3 ho3 hg3 hz3)
          go_roundw
          case rel => exact ⟨m + 1, N + 1, A3, c3, hlt, by rw [hN'.out], by go_num, rfl, by rw [ht2.out] at ho3; exact own_low ho3 hsz, hbr.trans ((hb2.grown hg3 (by simp; omega) (fun k hk => (own_lt o2 k hk).1)).mono hsz)⟩
          case measure => simp [intOf]; omega
    · obtain rfl : r = n := by omega
      have c1 : wr.cell? ⟨g, k, none⟩ = some (.int .u64 (n64 (Rnd.bn r k))) := (hget k (by omega)).trans (pasc_get r k hk)
      have hkN : k < N := by omega
      clear hget
      go_wp2_with fail
      go_ret
      exact ⟨rfl, hbr⟩
theorem refchoose_any (n k : Int) (h0 : 0 ≤ n) (h1 : n ≤ 60) (w : World) :
    Calls Try.prog 24 #[.int .i64 n, .int .i64 k] w fun e w' => e = .returned (.int .u64 (n64 (Rnd.chooseI n k))) ∧ Below w.heap.size w w' := by
  unfold Rnd.chooseI
  by_cases h : k < 0 ∨ n < k
  · rw [if_pos h]
    exact (refchoose_no n k h w).mono fun e w' ⟨he, hw⟩ => ⟨he, by subst hw; exact Below.refl _ _⟩
  · rw [if_neg h]
    obtain ⟨a, rfl⟩ : ∃ a : Nat, n = a := ⟨n.toNat, by omega⟩
    obtain ⟨b, rfl⟩ : ∃ b : Nat, k = b := ⟨k.toNat, by omega⟩
    exact refchoose_yes a b (by omega) (by omega) w
/-- Choose: the number, or the refusal. -/
theorem pubchoose_any (n k : Int) (h0 : 0 ≤ n) (h1 : n ≤ 60) (w : World) :
    Calls Try.prog 23 #[.int .i64 n, .int .i64 k] w fun e w' => e = .returned (.tuple #[.int .u64 (n64 (Rnd.chooseI n k)), .int .i64 0]) ∧ Below w.heap.size w w' := by
  go_enter Try.func23, Try.ntmps23
  go_wp2_with fail
  refine (choose_any n k h0 h1 _).mono ?_
  rintro e w1 ⟨rfl, hb⟩
  go_wp2_with fail
  go_ret2
  exact ⟨rfl, hb⟩
theorem pubchoose_no (n k : Int) (h : n < 0 ∨ 60 < n) (w : World) :
    Calls Try.prog 23 #[.int .i64 n, .int .i64 k] w fun e w' => e = .returned (.tuple #[.int .u64 0, .int .i64 1]) ∧ w = w' := by
  by_cases h1 : n < 0
  · go_enter Try.func23, Try.ntmps23
    go_wp2
    go_ret2
    exact ⟨rfl, rfl⟩
  · have h2 : 60 < n := by omega
    have h1' : 0 ≤ n := by omega
    clear h h1
    go_enter Try.func23, Try.ntmps23
    go_wp2
    go_ret2
    exact ⟨rfl, rfl⟩
end Go.Proofs.Ytgbeljgpnhpphaa
