/-
  UnrankPermutation.
-/
import Derived.Test.YtgbeljgpnhpphaaRankLaw
import Derived.Test.YtgbeljgpnhpphaaShelf
namespace Rnd
theorem del_cells (l : List Nat) (m K : Nat) (hl : l.length = m + 1) (hK : K < m + 1) :
    ((((castL l).take (m + 1)).take K ++ ((castL l).take (m + 1)).drop (K + 1) ++ List.replicate (K + 1 - K) 0).map (Go.Value.int .i64)).take m = (castL (l.eraseIdx K)).map Go.Pl.iv ∧
    ((((castL l).take (m + 1)).take K ++ ((castL l).take (m + 1)).drop (K + 1) ++ List.replicate (K + 1 - K) 0).map (Go.Value.int .i64)).length = m + 1 := by
  have e1 : (castL l).take (m + 1) = castL l := List.take_of_length_le (by rw [length_castL]; omega)
  have e2 : (castL l).take K ++ (castL l).drop (K + 1) = castL (l.eraseIdx K) := by
    rw [List.eraseIdx_eq_take_drop_succ]; simp [castL, List.map_take, List.map_drop]
  have e3 : (castL (l.eraseIdx K)).length = m := by rw [length_castL, List.length_eraseIdx, if_pos (by omega)]; omega
  rw [e1, e2]
  refine ⟨?_, by simp [e3]⟩
  rw [← List.map_take, List.take_append_of_le_length (by omega), List.take_of_length_le (by omega)]
  rfl
theorem unr_lt {r m : Nat} (h : r < fact (m + 1)) : r / fact m < m + 1 := Nat.div_lt_of_lt_mul (by rw [Nat.mul_comm]; exact h)
end Rnd
namespace Go.Proofs.Ytgbeljgpnhpphaa
open Go.RowKit Go.Pl
/-- A list, or the refusal. -/
def Unranked (w : World) (r : Option (List Nat)) (e : Ending) (w' : World) : Prop :=
  match r with
  | some ns => ∃ A c, e = .returned (.tuple #[.slice A ns.length c, .int .i64 0]) ∧ w'.ownsRow w.heap.size 3 1 (.slice A ns.length c) ns.length ((Rnd.castL ns).map iv) ∧ Below w.heap.size w w'
  | none => e = .returned (.tuple #[.slice none 0 0, .int .i64 1]) ∧ Below w.heap.size w w'
theorem unranked_mk {w w' : World} {ps : List Nat} {A : Option Addr} {c N : Nat} (h : ps.length = N) (ho : w'.ownsRow w.heap.size 3 1 (.slice A N c) N ((Rnd.castL ps).map iv)) (hb : Below w.heap.size w w') :
    Unranked w (some ps) (.returned (.tuple #[.slice A N c, .int .i64 0])) w' := by
  subst h
  exact ⟨A, c, rfl, ho, hb⟩
theorem unrp_no (w : World) (n : Int) (r : BitVec 64) (h : n < 0 ∨ 20 < n) :
    Calls Try.prog 35 #[.int .i64 n, .int .u64 (n64 r)] w fun e w' => Unranked w none e w' := by
  rcases h with h | h
  all_goals
    go_enter Try.func35, Try.ntmps35
    go_wp2_with fail
    go_ret2
    exact ⟨rfl, Below.refl _ _⟩
theorem unrp_big (w : World) (n : Nat) (r : BitVec 64) (hn : n ≤ 20) (h : Rnd.fact n ≤ r.toNat) :
    Calls Try.prog 35 #[.int .i64 (n : Int), .int .u64 (n64 r)] w fun e w' => Unranked w none e w' := by
  have hf := Rnd.fw_toNat n hn
  have hge : n64 (Rnd.fw n) ≤ n64 r := by unfold n64; omega
  clear hf
  go_enter Try.func35, Try.ntmps35
  go_wp2_with fail
  refine (factorial_any n hn _).mono ?_
  rintro e w1 ⟨rfl, rfl⟩
  go_wp2_with fail
  go_ret2
  exact ⟨rfl, Below.refl _ _⟩
set_option maxRecDepth 100000 in
set_option maxHeartbeats 4000000 in
theorem unrp_any (w : World) (n : Nat) (r : BitVec 64) (hn : n ≤ 20) (h : r.toNat < Rnd.fact n) :
    Calls Try.prog 35 #[.int .i64 (n : Int), .int .u64 (n64 r)] w fun e w' => Unranked w (some (Rnd.unrankN n (List.range n) r.toNat)) e w' := by
  have hf := Rnd.fw_toNat n hn
  have hge : n64 r < n64 (Rnd.fw n) := by unfold n64; omega
  obtain ⟨R, hR⟩ : ∃ R, Rnd.unrankN n (List.range n) r.toNat = R := ⟨_, rfl⟩
  have hR' := Lib.hid hR
  have hRl : R.length = n := by rw [← hR, Rnd.length_unrankN]
  rw [hR]
  have h' := Lib.hid h
  have hRl' := Lib.hid hRl
  clear hf hR h hRl
  have d1 : decide ((n : Int) < 0) = false := decide_eq_false (by omega)
  have d2 : decide (20 < (n : Int)) = false := decide_eq_false (by omega)
  have d3 : decide (n64 (Rnd.fw n) ≤ n64 r) = false := decide_eq_false (by omega)
  obtain ⟨G, hG'⟩ : ∃ G, w.heap.size = G := ⟨_, rfl⟩
  have hG : Hid (w.heap.size = G) := hG'
  clear hG'
  go_enter Try.func35, Try.ntmps35
  go_wp2_with fail
  refine (factorial_any n hn _).mono ?_
  rintro e w1 ⟨rfl, rfl⟩
  go_wp2_with ((with_reducible refine wpl_make rfl 31 (.tmp 24) (.tmp 24) rfl w.heap.size 3 (.int .i64 0) 8 ?_ ?_ rfl (by omega) .i64 .i64 n ?_ ?_ (by omega) (Nat.le_refl _) ?_); rfl; kernel_rfl; rfl; rfl; rw [hG.out, ← fillL_zero]; intro w1 ho1 hg1;
                        have hf1 : Fr (fun _ => False) w w1 := (Fr.refl _ w).grown hg1 (fun g h => (by cases h)))
  clear hge d3
  go_loopw [27] (fun t27 wr => ∃ k : Nat, k ≤ n ∧ t27 = .int .i64 (k : Int) ∧ wr.ownsRow G 3 1 (.slice (some ⟨G, 0, none⟩) n n) n (fillL n k) ∧ Fr (fun _ => False) w wr) (fun t27 _ => n - (intOf t27).toNat)
  case atStart => exact ⟨0, Nat.zero_le _, rfl, ho1, hf1⟩
  case round =>
    obtain ⟨k, hk, rfl, hor, hfr⟩ := hrel
    by_cases hlt : k < n
    · obtain ⟨-, hgl, hget, hfz, hset⟩ := own_g hor
      have c1 : wr.cell? ⟨G, k, none⟩ = some (.int .i64 0) := (hget k hlt).trans (by unfold fillL; rw [List.getElem?_map, List.getElem?_range hlt]; simp [iv])
      have f1 := hfz k
      have s1 := hset k (.int .i64 (k : Int)) hlt
      rw [fillL_set] at s1
      have s1' := Lib.hid s1
      have fr1 := hfr.setCell (p := ⟨G, k, none⟩) (.inr (by have := hG.out; show w.heap.size ≤ G; omega)) (.int .i64 (k : Int))
      clear hor hget hfz hset s1
      go_wp2_with fail
      go_roundw
      case rel => exact ⟨k + 1, hlt, by go_num, s1'.out, fr1⟩
      case measure => simp [intOf]; omega
    · obtain rfl : k = n := by omega
      rw [fillL_full] at hor
      have hGl := (own_g hor).2.1
      have hszG := hfr.size
      go_wp2_with ((with_reducible refine wpl_make0 rfl 31 _ (.tmp 35) rfl (G + 1) 3 (.int .i64 0) 1 8 ?_ ?_ (by omega) .i64 .i64 k ?_ ?_ (by omega) (by omega) ?_); rfl; kernel_rfl; rfl; rfl; intro w2 ho2 hg2;
                        have hor2 := own_fr hor ((Fr.refl (fun _ => False) wr).grown hg2 (fun g h => (by cases h))) (fun _ _ h => h);
                        have hf2 := hfr.grown hg2 (fun g h => (by cases h)))
      clear hor hg2 hGl
      have hp0 : (Rnd.castL (List.range k)).map iv = (Rnd.upto k).map iv := rfl
      have hor3 : w2.ownsRow G 3 1 (.slice (some ⟨G, 0, none⟩) k k) k ((Rnd.castL (List.range k)).map iv) := hor2
      clear hp0 hor2
      go_loopw [1, 6, 8, 9] (fun t1 t6 t8 t9 wi => ∃ (M : Nat) (l ps : List Nat) (q : BitVec 64) (A : Option Addr) (c N : Nat), M ≤ k ∧ N + M = k ∧ t9 = .int .i64 ((M : Int) - 1) ∧ t1 = .int .u64 (n64 q) ∧ t6 = .slice (some ⟨G, 0, none⟩) M k ∧ t8 = .slice A N c ∧ Hid (l.length = M) ∧ Hid (q.toNat < Rnd.fact M) ∧ Hid (ps ++ Rnd.unrankN M l q.toNat = R) ∧ Hid (ps.length = N) ∧
          wi.ownsRow G 3 1 (.slice (some ⟨G, 0, none⟩) M k) M ((Rnd.castL l).map iv) ∧ wi.ownsRow (G + 1) 3 1 (.slice A N c) N ((Rnd.castL ps).map iv) ∧ Fr (fun _ => False) w wi) (fun _ _ _ t9 _ => (intOf t9 + 1).toNat)
      case atStart => exact ⟨k, List.range k, [], r, _, _, 0, Nat.le_refl _, by omega, rfl, rfl, rfl, rfl, List.length_range, h'.out, hR'.out, rfl, hor3, ho2, hf2⟩
      case round =>
        obtain ⟨M, l, ps, q, A, c, N, hM, hNM, rfl, rfl, rfl, rfl, hll, hq, hun, hpl, hol, hop, hfi⟩ := hrel
        by_cases hpos : 0 < M
        · obtain ⟨m, rfl⟩ : ∃ m, M = m + 1 := ⟨M - 1, by omega⟩
          have hK := Rnd.unr_lt hq.out
          have hfm := Rnd.fw_toNat m (by omega)
          have hqd : (q / Rnd.fw m).toNat = q.toNat / Rnd.fact m := by rw [BitVec.toNat_udiv, hfm]
          have hqm : (q % Rnd.fw m).toNat = q.toNat % Rnd.fact m := by rw [BitVec.toNat_umod, hfm]
          have hfne : Rnd.fw m ≠ 0#64 := by
            intro e
            rw [e] at hfm
            have := Rnd.fact_pos m
            simp at hfm
            omega
          have hun2 := hun.out
          rw [Rnd.unrankN] at hun2
          obtain ⟨K, hKe⟩ : ∃ K, q.toNat / Rnd.fact m = K := ⟨_, rfl⟩
          rw [hKe] at hK hqd hun2
          have hq2 : (q % Rnd.fw m).toNat < Rnd.fact m := by rw [hqm]; exact Nat.mod_lt _ (Rnd.fact_pos m)
          rw [← hqm] at hun2
          have hqv : n64 (q / Rnd.fw m) = (K : Int) := by unfold n64; rw [hqd]
          have hi : Hid ((((m + 1 : Nat) : Int) - 1) = (m : Int)) := by show _ = _; omega
          rw [hi.out]
          have hKl : K < l.length := by have := hll.out; omega
          obtain ⟨-, hgl, hget, hfz, -⟩ := own_g hol
          have cK := (hget K hK).trans (iv_get (Rnd.castL l) K (by rw [Rnd.length_castL]; exact hKl))
          rw [Rnd.castL_getD] at cK
          have hcells : Hid (∀ j, j < (Rnd.castL l).length → wr.cell? ⟨G, 0 + j, none⟩ = some (.int .i64 ((Rnd.castL l).getD j 0))) := fun j hj => by
            rw [Nat.zero_add]
            exact (hget j (by rw [Rnd.length_castL, hll.out] at hj; exact hj)).trans (iv_get _ _ hj)
          have hfz' : Hid (∀ j, j < m + 1 → wr.frozen? ⟨G, 0 + j, none⟩ = false) := fun j _ => hfz _
          obtain ⟨x, hx⟩ : ∃ x, l.getD K 0 = x := ⟨_, rfl⟩
          rw [hx] at cK hun2
          have hun3 := Lib.hid hun2
          have hq3 := Lib.hid hq2
          have o5 := own_alc hop (.cells #[.int .i64 (x : Int)] 3)
          have r5 := Row.new (n := 1) (sz := 1) wr 3 #[.int .i64 (x : Int)] [.int .i64 (x : Int)] rfl rfl (by decide)
          have f5 := hfi.alloc (.cells #[.int .i64 (x : Int)] 3)
          have hsz : G + 1 ≤ (wr.alloc (.cells #[.int .i64 (x : Int)] 3)).heap.size := by simp; omega
          have hps : Hid ((Rnd.castL ps).map iv ++ [.int .i64 (x : Int)] = (Rnd.castL (ps ++ [x])).map iv) := by show _ = _; simp [Rnd.castL, iv]
          have hmk : m < k := by omega
          have hN20 : N ≤ 20 := by omega
          clear hun hq hqd hqm hq2 hun2 hKe hget hfz hfm hx hop hpos
          go_wp2_with fail
          refine (factorial_any m (by omega) _).mono ?_
          rintro e w3 ⟨rfl, rfl⟩
          go_wp2_with ((with_reducible refine wpl_app rfl (.tmp 52) (.tmp 57) 31 rfl (G + 1) 3 (.int .i64 0) 1 8 ?_ ?_ rfl (by omega) (by omega) _ ?_ N _ o5 _ _ 1 1 ?_ _ r5 (by simp [Value.oneCell']) (by omega) hsz (N + 1) rfl ?_); rfl; kernel_rfl; rfl; rfl; intro A6 c6 w6 ho6 hg6 hz6)
          have hol6 := own_fr hol ((((Fr.refl (fun i => G + 1 ≤ i) wr).alloc (.cells #[.int .i64 (x : Int)] 3))).grown hg6 (fun g h => .inl (own_lt o5 g h).1)) (fun g hg hF => by have : G = g := Option.some.inj hg; omega)
          have hf6 := f5.grown hg6 (fun g h => .inr (by have := (own_lt o5 g h).1; have := hG.out; omega))
          obtain ⟨-, hgl6, hget6, hfz6, -⟩ := own_g hol6
          refine (Try.slices_Delete_int_cells G 0 (m + 1) k K (K + 1) (Rnd.castL l) _ (by rw [Rnd.length_castL, hll.out]; omega) (by omega) (by omega) (by omega) (by omega) (fun j hj => by rw [Nat.zero_add]; exact (hget6 j (by rw [Rnd.length_castL, hll.out] at hj; exact hj)).trans (iv_get _ _ hj)) (fun j _ => hfz6 _)).mono ?_
          rw [show m + 1 - (K + 1 - K) = m by omega]
          rintro e w7 ⟨rfl, nq, hw7⟩
          obtain ⟨hd1, hd2⟩ := Rnd.del_cells l m K hll.out hK
          have hol7 := own_setCells (own_fr hol6 ((Fr.refl (fun _ => False) w6).drewN nq) (fun _ _ h => h)) _ (Nat.le_of_eq hd2) m (by rw [hd2]; omega)
          rw [← hw7, hd1] at hol7
          have f7 : Fr (fun i => i = G) w6 w7 := by rw [hw7]; exact fr_setCells (F := fun i => i = G) (.inl rfl) _ 0 _ ((Fr.refl (fun i => i = G) w6).drewN nq)
          clear hw7 hd1 hd2 hget6 hfz6 hcells hfz'
          rw [hps.out] at ho6
          have ho7 := own_fr ho6 f7 (fun g hg hF => by have := (own_lt ho6 g hg).1; omega)
          have hf7 := hf6.trans f7 (fun i h => .inr (by have := hG.out; omega))
          go_wp2_with fail
          go_roundw
          case rel => exact ⟨m, l.eraseIdx K, ps ++ [x], q % Rnd.fw m, A6, c6, N + 1, by omega, by omega, by go_num, rfl, rfl, rfl, by show _ = _; rw [List.length_eraseIdx, if_pos hKl, hll.out]; omega, hq3.out, by show _ = _; rw [← hun3.out]; simp, by show _ = _; rw [List.length_append, hpl.out]; rfl, hol7, ho7, hf7⟩
          case measure => simp [intOf]
        · obtain rfl : M = 0 := by omega
          have hRe : Hid (R = ps) := by show _ = _; rw [← hun.out, Rnd.unrankN, List.append_nil]
          clear hun hq hol hor3 hll
          go_wp2_with fail
          go_ret2
          rw [hRe.out]
          exact unranked_mk hpl.out (own_low hop (by have := hG.out; omega)) (hfi.below (fun _ h => h.elim) (Nat.le_refl _))
end Go.Proofs.Ytgbeljgpnhpphaa
