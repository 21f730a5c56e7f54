/-
  UnrankSubset.
-/
import Derived.Test.YtgbeljgpnhpphaaSubLaw
import Derived.Test.YtgbeljgpnhpphaaUnrP
namespace Go.Proofs.Ytgbeljgpnhpphaa
open Go.RowKit Go.Pl
theorem unrs_no (w : World) (n k : Int) (r : BitVec 64) (h : n < 0 ∨ 0 ≤ n ∧ (60 < n ∨ n ≤ 60 ∧ (k < 0 ∨ 0 ≤ k ∧ n < k))) :
    Calls Try.prog 31 #[.int .i64 n, .int .i64 k, .int .u64 (n64 r)] w fun e w' => Unranked w none e w' := by
  rcases h with h | ⟨h0, h | ⟨h1, h | ⟨h2, h⟩⟩⟩
  all_goals
    go_enter Try.func31, Try.ntmps31
    go_wp2_with fail
    go_ret2
    exact ⟨rfl, Below.refl _ _⟩
theorem unrs_big (w : World) (n k : Nat) (r : BitVec 64) (hn : n ≤ 60) (hk : k ≤ n) (h : Rnd.binom n k ≤ r.toNat) :
    Calls Try.prog 31 #[.int .i64 (n : Int), .int .i64 (k : Int), .int .u64 (n64 r)] w fun e w' => Unranked w none e w' := by
  have hf := Rnd.bn_toNat n k hn
  have hge : n64 (Rnd.bn n k) ≤ n64 r := by unfold n64; omega
  clear hf
  go_enter Try.func31, Try.ntmps31
  go_wp2_with fail
  refine (choose_any _ _ (by omega) (by omega) _).mono ?_
  rw [Rnd.chooseI_nat]
  rintro e w1 ⟨rfl, hb1⟩
  go_wp2_with fail
  go_ret2
  exact ⟨rfl, hb1⟩
set_option maxRecDepth 100000 in
set_option maxHeartbeats 4000000 in
theorem unrs_any (w : World) (n k : Nat) (r : BitVec 64) (hn : n ≤ 60) (hk : k ≤ n) (h : r.toNat < Rnd.binom n k) :
    Calls Try.prog 31 #[.int .i64 (n : Int), .int .i64 (k : Int), .int .u64 (n64 r)] w fun e w' => Unranked w (some (Rnd.unrS n 0 k r.toNat)) e w' := by
  have hf := Rnd.bn_toNat n k hn
  have hge : n64 r < n64 (Rnd.bn n k) := by unfold n64; omega
  obtain ⟨R, hR⟩ : ∃ R, Rnd.unrS n 0 k r.toNat = R := ⟨_, rfl⟩
  have hR' := Lib.hid hR
  rw [hR]
  have h' := Lib.hid h
  clear hf hR h
  have d1 : decide ((n : Int) < 0) = false := decide_eq_false (by omega)
  have d2 : decide (60 < (n : Int)) = false := decide_eq_false (by omega)
  have d3 : decide (n64 (Rnd.bn n k) ≤ n64 r) = false := decide_eq_false (by omega)
  have d4 : decide ((k : Int) < 0) = false := decide_eq_false (by omega)
  have d5 : decide ((n : Int) < (k : Int)) = false := decide_eq_false (by omega)
  have d6 : decide (n < k) = false := decide_eq_false (by omega)
  obtain ⟨G, hG'⟩ : ∃ G, w.heap.size = G := ⟨_, rfl⟩
  have hG : Hid (w.heap.size = G) := hG'
  clear hG'
  go_enter Try.func31, Try.ntmps31
  go_wp2_with fail
  refine (choose_any _ _ (by omega) (by omega) _).mono ?_
  rw [Rnd.chooseI_nat]
  rintro e w1 ⟨rfl, hb1⟩
  have hsz1 : G ≤ w1.heap.size := by have := hb1.size; have := hG.out; omega
  go_wp2_with ((with_reducible refine wpl_make0 rfl 31 _ (.tmp 33) rfl G 3 (.int .i64 0) 1 8 ?_ ?_ (by omega) .i64 .i64 k ?_ ?_ (by omega) hsz1 ?_); rfl; kernel_rfl; rfl; rfl; intro w2 ho2 hg2;
                        have hb2 := hb1.grown hg2 hb1.size (fun g h => (by cases h)))
  clear hge d3 hg2
  go_loopw [2, 8, 9] (fun t2 t8 t9 wi => ∃ (m x j : Nat) (ps : List Nat) (q : BitVec 64) (A : Option Addr) (c P : Nat), x + m = n ∧ P + j = k ∧ t9 = .int .i64 (x : Int) ∧ t2 = .int .u64 (n64 q) ∧ t8 = .slice A P c ∧ Hid (q.toNat < Rnd.binom m j) ∧ Hid (ps ++ Rnd.unrS m x j q.toNat = R) ∧ Hid (ps.length = P) ∧
      wi.ownsRow G 3 1 (.slice A P c) P ((Rnd.castL ps).map iv) ∧ Below w.heap.size w wi) (fun _ _ t9 _ => n + 1 - (intOf t9).toNat)
  case atStart => exact ⟨n, 0, k, [], r, _, _, 0, by omega, by omega, rfl, rfl, rfl, h'.out, hR'.out, rfl, ho2, hb2⟩
  case round =>
    obtain ⟨m, x, j, ps, q, A, c, P, hxm, hPj, rfl, rfl, rfl, hq, hun, hpl, hop, hbi⟩ := hrel
    by_cases hj : 0 < j
    · obtain ⟨i, rfl⟩ : ∃ i, j = i + 1 := ⟨j - 1, by omega⟩
      have hm0 : 0 < m := by
        rcases Nat.eq_zero_or_pos m with h0 | h0
        · have := hq.out
          rw [h0] at this
          simp [Rnd.binom] at this
        · exact h0
      obtain ⟨m', rfl⟩ : ∃ m', m = m' + 1 := ⟨m - 1, by omega⟩
      have hq2 := hq.out
      have hun2 := hun.out
      rw [Rnd.binom_succ] at hq2
      rw [Rnd.unrS] at hun2
      have hbt := Rnd.bn_toNat m' i (by omega)
      have h1 : Hid (((n : Int) - 1 - (x : Int)) = (m' : Int)) := by show _ = _; omega
      have h2 : Hid (((k : Int) - 1 - (P : Int)) = (i : Int)) := by show _ = _; omega
      have hszi : G ≤ wr.heap.size := by have := hbi.size; have := hG.out; omega
      have hP60 : P ≤ 60 := by omega
      have hPk : P < k := by omega
      clear hm0 hj
      by_cases hlt : q.toNat < Rnd.binom m' i
      · rw [if_pos hlt] at hun2
        have hun3 := Lib.hid hun2
        have hlt' := Lib.hid hlt
        have hcmp : n64 q < n64 (Rnd.bn m' i) := by unfold n64; omega
        clear hun hq hq2 hun2 hbt hlt
        go_wp2_with fail
        rw [h1.out, h2.out]
        refine (choose_any _ _ (by omega) (by omega) _).mono ?_
        rw [Rnd.chooseI_nat]
        rintro e w3 ⟨rfl, hb3⟩
        have hop3 := own_upd hop hb3
        have hbi3 := hbi.trans (hb3.mono hbi.size)
        have o5 := own_alc hop3 (.cells #[.int .i64 (x : Int)] 3)
        have r5 := Row.new (n := 1) (sz := 1) w3 3 #[.int .i64 (x : Int)] [.int .i64 (x : Int)] rfl rfl (by decide)
        have f5 := hbi3.alloc hbi3.size (.cells #[.int .i64 (x : Int)] 3)
        have hsz : G ≤ (w3.alloc (.cells #[.int .i64 (x : Int)] 3)).heap.size := by have := f5.size; have := hG.out; omega
        have hps : Hid ((Rnd.castL ps).map iv ++ [.int .i64 (x : Int)] = (Rnd.castL (ps ++ [x])).map iv) := by show _ = _; simp [Rnd.castL, iv]
        clear hop hop3
        go_wp2_with ((with_reducible refine wpl_app rfl (.tmp 54) (.tmp 56) 31 rfl G 3 (.int .i64 0) 1 8 ?_ ?_ rfl (by omega) (by omega) _ ?_ P _ o5 _ _ 1 1 ?_ _ r5 (by simp [Value.oneCell']) (by omega) hsz (P + 1) rfl ?_); rfl; kernel_rfl; rfl; rfl; intro A6 c6 w6 ho6 hg6 hz6)
        go_roundw
        case rel => exact ⟨m', x + 1, i, ps ++ [x], q, A6, c6, P + 1, by omega, by omega, by go_num, rfl, rfl, hlt'.out, by show _ = _; rw [← hun3.out]; simp, by show _ = _; rw [List.length_append, hpl.out]; rfl, by rw [← hps.out]; exact ho6, f5.grown hg6 f5.size (fun g hg => by have := (own_lt o5 g hg).1; have := hG.out; omega)⟩
        case measure => simp [intOf]; omega
      · rw [if_neg hlt] at hun2
        have hqs : (q - Rnd.bn m' i).toNat = q.toNat - Rnd.binom m' i := by
          rw [BitVec.toNat_sub, hbt]
          have := q.isLt
          have := Rnd.binom_le m' i (by omega)
          omega
        rw [← hqs] at hun2
        have hun3 := Lib.hid hun2
        have hq3 : Hid ((q - Rnd.bn m' i).toNat < Rnd.binom m' (i + 1)) := by show _ < _; omega
        have hcmp : n64 (Rnd.bn m' i) ≤ n64 q := by unfold n64; omega
        clear hun hq hq2 hun2 hbt hlt hqs
        go_wp2_with fail
        rw [h1.out, h2.out]
        refine (choose_any _ _ (by omega) (by omega) _).mono ?_
        rw [Rnd.chooseI_nat]
        rintro e w3 ⟨rfl, hb3⟩
        have hop3 := own_upd hop hb3
        have hbi3 := hbi.trans (hb3.mono hbi.size)
        go_wp2_with fail
        go_roundw
        case rel => exact ⟨m', x + 1, i + 1, ps, q - Rnd.bn m' i, A, c, P, by omega, by omega, by go_num, rfl, rfl, hq3.out, hun3.out, hpl.out, hop3, hbi3⟩
        case measure => simp [intOf]; omega
    · obtain rfl : j = 0 := by omega
      obtain rfl : P = k := by omega
      have hRe : Hid (R = ps) := by show _ = _; rw [← hun.out, Rnd.unrS, List.append_nil]
      clear hun hq hj
      go_wp2_with fail
      go_ret2
      rw [hRe.out]
      exact unranked_mk hpl.out (by rw [hG.out]; exact hop) hbi
end Go.Proofs.Ytgbeljgpnhpphaa
