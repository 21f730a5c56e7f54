/-
  Shuffle, and the reference's.
-/
import Derived.Test.YtgbeljgpnhpphaaInts
import Derived.Test.YtgbeljgpnhpphaaHi
namespace Rnd
def swapL (l : List Int) (i k : Nat) : List Int := (l.set i (l.getD k 0)).set k (l.getD i 0)
theorem length_swapL (l : List Int) (i k : Nat) : (swapL l i k).length = l.length := by simp [swapL]
/-- The exchanges at J - 1, .., 1, and the state behind them. -/
def shufG (nx : W → W) (pk : W → Nat → Nat) : Nat → List Int → W → List Int × W
  | 0, l, s => (l, s)
  | 1, l, s => (l, s)
  | J + 2, l, s => shufG nx pk (J + 1) (swapL l (J + 1) (pk s (J + 2))) (nx s)
def nxt (s : W) : W := s + golden
def pick (s : W) (n : Nat) : Nat := hi (mix (s + golden)).toNat n
def shuf (J : Nat) (l : List Int) (s : W) : List Int × W := shufG nxt pick J l s
theorem shuf_succ (J : Nat) (l : List Int) (s : W) : shuf (J + 2) l s = shuf (J + 1) (swapL l (J + 1) (pick s (J + 2))) (nxt s) := by
  unfold shuf; rw [shufG]
theorem shuf_low (J : Nat) (hJ : J ≤ 1) (l : List Int) (s : W) : shuf J l s = (l, s) := by
  unfold shuf
  obtain rfl | rfl : J = 0 ∨ J = 1 := by omega
  · rw [shufG]
  · rw [shufG]
theorem length_shufG (nx : W → W) (pk : W → Nat → Nat) : ∀ (J : Nat) (l : List Int) (s : W), (shufG nx pk J l s).1.length = l.length
  | 0, l, s => rfl
  | 1, l, s => rfl
  | J + 2, l, s => by rw [shufG, length_shufG, length_swapL]
theorem shufG_state (g : W) (pk : W → Nat → Nat) : ∀ (J : Nat) (l : List Int) (s : W), (shufG (fun s => s + g) pk J l s).2 = s + BitVec.ofNat 64 (J - 1) * g
  | 0, l, s => by simp [shufG]
  | 1, l, s => by simp [shufG]
  | J + 2, l, s => by
    rw [shufG, shufG_state]
    rw [show J + 2 - 1 = (J + 1 - 1) + 1 by omega, BitVec.ofNat_add, BitVec.add_mul, BitVec.one_mul, BitVec.add_assoc, BitVec.add_comm g]
theorem length_shuf (J : Nat) (l : List Int) (s : W) : (shuf J l s).1.length = l.length := length_shufG _ _ J l s
theorem shuf_state (J : Nat) (l : List Int) (s : W) : (shuf J l s).2 = s + BitVec.ofNat 64 (J - 1) * golden := shufG_state golden pick J l s
def upto (n : Nat) : List Int := (List.range n).map fun (j : Nat) => (j : Int)
theorem length_upto (n : Nat) : (upto n).length = n := by simp [upto]
theorem upto_succ (n : Nat) : upto (n + 1) = upto n ++ [(n : Int)] := by simp [upto, List.range_succ]
end Rnd
namespace Go.Pl
/-- The first k are filled. -/
def fillL (n k : Nat) : List Value := (List.range n).map fun j => iv (if j < k then (j : Int) else 0)
theorem fillL_zero (n : Nat) : fillL n 0 = List.replicate n (Value.int .i64 0) := by
  apply List.ext_getElem
  · simp [fillL]
  · intro i h1 h2; simp [fillL, iv]
theorem fillL_full (n : Nat) : fillL n n = (Rnd.upto n).map iv := by
  apply List.ext_getElem
  · simp [fillL, Rnd.upto]
  · intro i h1 h2
    have : i < n := by simpa [fillL] using h1
    simp [fillL, Rnd.upto, this]
theorem fillL_set (n k : Nat) : (fillL n k).set k (Value.int .i64 (k : Int)) = fillL n (k + 1) := by
  apply List.ext_getElem?
  intro j
  by_cases hj : j < n
  · rw [List.getElem?_set]
    unfold fillL
    rw [List.getElem?_map, List.getElem?_map, List.getElem?_range hj]
    by_cases h : k = j
    · subst h
      rw [if_pos rfl, if_pos (by simpa using hj)]
      simp [iv]
    · rw [if_neg h]
      simp only [Option.map_some]
      by_cases h2 : j < k
      · rw [if_pos h2, if_pos (by omega)]
      · rw [if_neg h2, if_neg (by omega)]
  · rw [List.getElem?_eq_none (by simp [fillL]; omega), List.getElem?_eq_none (by simp [fillL]; omega)]
theorem swap_map (l : List Int) (i k : Nat) : ((l.map iv).set i (iv (l.getD k 0))).set k (iv (l.getD i 0)) = (Rnd.swapL l i k).map iv := by
  unfold Rnd.swapL
  rw [List.map_set, List.map_set]
end Go.Pl
namespace Go.Proofs.Ytgbeljgpnhpphaa
open Go.RowKit Go.Pl
def Shuffled (w : World) (p n : Nat) (l : List Int) (s : BitVec 64) (e : Ending) (w' : World) : Prop :=
  ∃ A c, e = .returned (.tuple #[.slice A n c, .int .i64 0]) ∧ w'.ownsRow w.heap.size 3 1 (.slice A n c) n (l.map iv) ∧ Src w' p s ∧ Fr (fun i => i = p) w w'
theorem shuffle_no {p : Nat} (w : World) (n : Int) (h : n < 0 ∨ 10000 < n) :
    Calls Try.prog 19 #[.pointer (some ⟨p, 0, none⟩), .int .i64 n] w fun e w' => e = .returned (.tuple #[.slice none 0 0, .int .i64 1]) ∧ w = w' := by
  by_cases h1 : n < 0
  · go_enter Try.func19, Try.ntmps19
    go_wp2_with fail
    go_ret2
    exact ⟨rfl, rfl⟩
  · have h2 : 10000 < n := by omega
    have h1' : 0 ≤ n := by omega
    clear h h1
    go_enter Try.func19, Try.ntmps19
    go_wp2_with fail
    go_ret2
    exact ⟨rfl, rfl⟩
set_option maxRecDepth 100000 in
set_option maxHeartbeats 2000000 in
theorem shuffle_any {p : Nat} {s : BitVec 64} (w : World) (hS : Src w p s) (n : Nat) (hn : n ≤ 10000) :
    Calls Try.prog 19 #[.pointer (some ⟨p, 0, none⟩), .int .i64 (n : Int)] w fun e w' => Shuffled w p n (Rnd.shuf n (Rnd.upto n) s).1 (Rnd.shuf n (Rnd.upto n) s).2 e w' := by
  obtain ⟨R, hR'⟩ : ∃ R, Rnd.shuf n (Rnd.upto n) s = R := ⟨_, rfl⟩
  have hR : Hid (Rnd.shuf n (Rnd.upto n) s = R) := hR'
  rw [hR']
  clear hR'
  have hp := hS.lt
  have d1 : decide ((n : Int) < 0) = false := decide_eq_false (by omega)
  have d2 : decide (10000 < (n : Int)) = false := decide_eq_false (by omega)
  obtain ⟨G, hG'⟩ : ∃ G, w.heap.size = G := ⟨_, rfl⟩
  have hG : Hid (w.heap.size = G) := hG'
  have hpG : p < G := by omega
  clear hG' hp
  go_enter Try.func19, Try.ntmps19
  go_wp2_with ((with_reducible refine wpl_make rfl 31 (.tmp 16) (.tmp 16) rfl w.heap.size 3 (.int .i64 0) 8 ?_ ?_ rfl (by omega) .i64 .i64 n ?_ ?_ (by omega) (Nat.le_refl _) ?_); rfl; kernel_rfl; rfl; rfl; rw [hG.out, ← fillL_zero]; intro w1 ho1 hg1;
                        have hf1 : Fr (fun i => i = p ∨ i = G) w w1 := (Fr.refl _ w).grown hg1 (fun g h => (by cases h)))
  have hS1 : Src w1 p s := hS.fr ((Fr.refl (fun _ => False) w).grown hg1 (fun g h => (by cases h))) (fun h => h)
  clear hg1 hS
  go_loopw [19] (fun t19 wr => ∃ k : Nat, k ≤ n ∧ t19 = .int .i64 (k : Int) ∧ wr.ownsRow G 3 1 (.slice (some ⟨G, 0, none⟩) n n) n (fillL n k) ∧ Src wr p s ∧ Fr (fun i => i = p ∨ i = G) w wr) (fun t19 _ => n - (intOf t19).toNat)
  case atStart => exact ⟨0, Nat.zero_le _, rfl, ho1, hS1, hf1⟩
  case round =>
    obtain ⟨k, hk, rfl, hor, hSr, hfr⟩ := hrel
    by_cases hlt : k < n
    · obtain ⟨-, hgl, hget, hfz, hset⟩ := own_g hor
      have c1 : wr.cell? ⟨G, k, none⟩ = some (.int .i64 0) := (hget k hlt).trans (by unfold fillL; rw [List.getElem?_map, List.getElem?_range hlt]; simp [iv])
      have f1 := hfz k
      have s1 := hset k (.int .i64 (k : Int)) hlt
      rw [fillL_set] at s1
      have s1' := Lib.hid s1
      have fr1 := hfr.setCell (p := ⟨G, k, none⟩) (.inl (.inr rfl)) (.int .i64 (k : Int))
      have hS2 : Src (wr.setCell ⟨G, k, none⟩ (.int .i64 (k : Int))) p s := hSr.fr ((Fr.refl (fun i => i = G) wr).setCell (p := ⟨G, k, none⟩) (.inl rfl) _) (fun h => by omega)
      have hS2' := Lib.hid hS2
      clear hor hget hfz hset s1 hS2
      go_wp2_with fail
      go_roundw
      case rel => exact ⟨k + 1, hlt, by go_num, s1'.out, hS2'.out, fr1⟩
      case measure => simp [intOf]; omega
    · obtain rfl : k = n := by omega
      rw [fillL_full] at hor
      go_wp2_with fail
      go_loopw [8] (fun t8 wi => ∃ (J : Nat) (l : List Int) (s1 : BitVec 64), J ≤ k ∧ t8 = .int .i64 ((J : Int) - 1) ∧ l.length = k ∧ Hid (Rnd.shuf J l s1 = R) ∧ wi.ownsRow G 3 1 (.slice (some ⟨G, 0, none⟩) k k) k (l.map iv) ∧ Src wi p s1 ∧ Fr (fun i => i = p ∨ i = G) w wi) (fun t8 _ => (intOf t8 + 1).toNat)
      case atStart => exact ⟨k, Rnd.upto k, s, Nat.le_refl _, rfl, Rnd.length_upto k, hR, hor, hSr, hfr⟩
      case round =>
        obtain ⟨J, l, s1, hJ, rfl, hll, hsh, hor2, hS2, hf2⟩ := hrel
        by_cases hJ1 : 1 < J
        · obtain ⟨i, rfl⟩ : ∃ i, J = i + 2 := ⟨J - 2, by omega⟩
          have hi1 : Hid ((((i + 2 : Nat) : Int) - 1 + 1) = ((i + 2 : Nat) : Int)) := by show _ = _; omega
          have hi2 : Hid ((((i + 2 : Nat) : Int) - 1) = ((i + 1 : Nat) : Int)) := by show _ = _; omega
          rw [hi2.out]
          obtain ⟨q, hq⟩ : ∃ q, q = i + 1 := ⟨_, rfl⟩
          rw [← hq]
          have hqk : q < k := by omega
          have hq0 : 0 < q := by omega
          have hq' := Lib.hid hq
          have hsh' : Hid (Rnd.shuf q (Rnd.swapL l q (Rnd.pick s1 (q + 1))) (Rnd.nxt s1) = R) := by have := hsh.out; rw [Rnd.shuf_succ, ← hq, show i + 2 = q + 1 by omega] at this; exact this
          have hll' := Lib.hid hll
          clear hi1 hi2 hsh hq hJ hJ1 hll
          go_wp2_with fail
          refine (intn_any _ hS2 (q + 1) (by omega) (by omega)).mono ?_
          have hKb := Rnd.hi_lt (Rnd.mix (s1 + Rnd.golden)) (q + 1) (by omega)
          rw [show Rnd.hi (Rnd.mix (s1 + Rnd.golden)).toNat (q + 1) = Rnd.pick s1 (q + 1) from rfl, show s1 + Rnd.golden = Rnd.nxt s1 from rfl] at *
          obtain ⟨K, hK⟩ : ∃ K, Rnd.pick s1 (q + 1) = K := ⟨_, rfl⟩
          obtain ⟨s2, hs2⟩ : ∃ s2, Rnd.nxt s1 = s2 := ⟨_, rfl⟩
          rw [hK, hs2] at hsh'
          rw [hK] at hKb
          rw [hK, hs2]
          clear hK hs2
          rintro e w2 ⟨rfl, hS3, hf3⟩
          have hKk : K < k := by omega
          have hor3 := own_fr hor2 hf3 (fun g hg h => by have : G = g := Option.some.inj hg; omega)
          have hf3' := hf2.trans hf3 (fun i h => .inl (.inl h))
          obtain ⟨-, hgl, hget, hfz, hset⟩ := own_g hor3
          have cK := (hget K hKk).trans (iv_get l K (by have := hll'.out; omega))
          have cq := (hget q hqk).trans (iv_get l q (by have := hll'.out; omega))
          obtain ⟨a, ha⟩ : ∃ a, l.getD K 0 = a := ⟨_, rfl⟩
          obtain ⟨b, hb⟩ : ∃ b, l.getD q 0 = b := ⟨_, rfl⟩
          have fq := hfz q
          have fK := hfz K
          have o4 := hset q (.int .i64 a) hqk
          obtain ⟨-, -, hget4, hfz4, hset4⟩ := own_g o4
          have o5 := hset4 K (.int .i64 b) hKk
          have e5 : (((l.map iv).set q (.int .i64 a)).set K (.int .i64 b)) = (Rnd.swapL l q K).map iv := by rw [← ha, ← hb]; exact swap_map l q K
          rw [e5] at o5
          rw [ha] at cK
          rw [hb] at cq
          have cK4 : (w2.setCell ⟨G, q, none⟩ (.int .i64 a)).cell? ⟨G, K, none⟩ = (((l.map iv).set q (.int .i64 a))[K]?) := hget4 K hKk
          have fK4 := hfz4 K
          have hx4 : ∃ v4, (w2.setCell ⟨G, q, none⟩ (.int .i64 a)).cell? ⟨G, K, none⟩ = some v4 := by
            rw [cK4, List.getElem?_eq_getElem (by simp; have := hll'.out; omega)]
            exact ⟨_, rfl⟩
          obtain ⟨v4, c4⟩ := hx4
          have o5' := Lib.hid o5
          have fr5 := (hf3'.setCell (p := ⟨G, q, none⟩) (.inl (.inr rfl)) (.int .i64 a)).setCell (p := ⟨G, K, none⟩) (.inl (.inr rfl)) (.int .i64 b)
          have hS5 : Src ((w2.setCell ⟨G, q, none⟩ (.int .i64 a)).setCell ⟨G, K, none⟩ (.int .i64 b)) p s2 := hS3.fr (((Fr.refl (fun i => i = G) w2).setCell (p := ⟨G, q, none⟩) (.inl rfl) _).setCell (p := ⟨G, K, none⟩) (.inl rfl) _) (fun h => by omega)
          have hS5' := Lib.hid hS5
          clear hor2 hor3 hget hfz hset hget4 hfz4 hset4 o4 o5 e5 cK4 ha hb hS2 hS3 hS5
          go_wp2_with fail
          refine wp_region_ord [0, 1, 2, 3, 4, 5, 6, 8, 9, 10] [7, 11, 12] [13, 14, 15] (by kernel_rfl) (by kernel_rfl) (fun _ _ _ _ _ h => h) ?_
          simp only [ordPick, Option.toList_some, List.cons_append, List.nil_append, List.getElem?_cons_succ, List.getElem?_cons_zero]
          iterate 6 (go_big_quiet_step (fail))
          refine wpq_idx rfl 31 (.tmp 41) (.tmp 42) rfl 3 rfl (by kernel_rfl) G 0 k k K .i64 rfl rfl hKk ?_
          simp only [Act.put, List.setIfInBounds_toArray, List.set_cons_succ, List.set_cons_zero, Nat.zero_add]
          iterate 2 (go_big_quiet_step (fail))
          refine wpq_idx rfl 31 (.tmp 45) (.tmp 46) rfl 3 rfl (by kernel_rfl) G 0 k k q .i64 rfl rfl hqk ?_
          simp only [Act.put, List.setIfInBounds_toArray, List.set_cons_succ, List.set_cons_zero, Nat.zero_add]
          refine wpQuiet_nil ?_
          iterate 2 (go_big_quiet_step (fail))
          refine wpq_idx rfl 31 (.tmp 37) (.tmp 38) rfl 3 rfl (by kernel_rfl) G 0 k k q .i64 rfl rfl hqk ?_
          simp only [Act.put, List.setIfInBounds_toArray, List.set_cons_succ, List.set_cons_zero, Nat.zero_add]
          refine wpQuiet_nil ?_
          go_wp2_with fail
          go_roundw
          case rel => exact ⟨q, _, _, by omega, by go_num, by rw [Rnd.length_swapL, hll'.out], hsh', o5'.out, hS5'.out, fr5.drew⟩
          case measure => simp [intOf]
        · have hRe : Hid (R = (l, s1)) := by show _ = _; rw [← hsh.out, Rnd.shuf_low J (by omega)]
          have hJle : (J : Int) ≤ 1 := by omega
          clear hsh hll hJ1
          go_wp2_with fail
          go_ret2
          rw [hRe.out]
          refine ⟨_, _, rfl, ?_, hS2, hf2.mono (fun i h => h.elim .inl (fun e => .inr (by have := hG.out; omega)))⟩
          rw [hG.out]
          exact hor2
def RefShuffled (w : World) (n : Nat) (l : List Int) (e : Ending) (w' : World) : Prop :=
  ∃ A c, e = .returned (.slice A n c) ∧ w'.ownsRow w.heap.size 3 1 (.slice A n c) n (l.map iv) ∧ Below w.heap.size w w'
set_option maxRecDepth 100000 in
set_option maxHeartbeats 2000000 in
theorem refshuffle_any (w : World) (seed : BitVec 64) (n : Nat) (hn : n ≤ 10000) :
    Calls Try.prog 22 #[.int .u64 (n64 seed), .int .i64 (n : Int)] w fun e w' => RefShuffled w n (Rnd.shuf n (Rnd.upto n) seed).1 e w' := by
  obtain ⟨R, hR'⟩ : ∃ R, Rnd.shuf n (Rnd.upto n) seed = R := ⟨_, rfl⟩
  have hR : Hid (Rnd.shuf n (Rnd.upto n) seed = R) := hR'
  rw [hR']
  clear hR'
  obtain ⟨G, hG'⟩ : ∃ G, w.heap.size = G := ⟨_, rfl⟩
  have hG : Hid (w.heap.size = G) := hG'
  have o0 := own_cells w (Nat.le_refl _) 3 #[] [] rfl 1 0 rfl (by decide)
  rw [hG'] at o0
  have hf0 : Fr (fun _ => False) w (w.alloc (.cells #[] 3)) := (Fr.refl _ w).alloc _
  clear hG'
  go_enter Try.func22, Try.ntmps22
  go_wp2_with fail
  rw [hG.out]
  go_loopw [5, 6] (fun t5 t6 wr => ∃ (k : Nat) (A : Option Addr) (c : Nat), k ≤ n ∧ t6 = .int .i64 (k : Int) ∧ t5 = .slice A k c ∧ wr.ownsRow G 3 1 (.slice A k c) k ((Rnd.upto k).map iv) ∧ Fr (fun _ => False) w wr) (fun _ t6 _ => n - (intOf t6).toNat)
  case atStart => exact ⟨0, _, _, Nat.zero_le _, rfl, rfl, o0, hf0⟩
  case round =>
    obtain ⟨k, A, c, hk, rfl, rfl, hor, hfr⟩ := hrel
    by_cases hlt : k < n
    · have o1 := own_alc hor (.cells #[.int .i64 (k : Int)] 3)
      have r1 := Row.new (n := 1) (sz := 1) wr 3 #[.int .i64 (k : Int)] [.int .i64 (k : Int)] rfl rfl (by decide)
      have f1 := hfr.alloc (.cells #[.int .i64 (k : Int)] 3)
      have hsz : G ≤ (wr.alloc (.cells #[.int .i64 (k : Int)] 3)).heap.size := by have := f1.size; have := hG.out; omega
      have hu : Hid ((Rnd.upto k).map iv ++ [.int .i64 (k : Int)] = (Rnd.upto (k + 1)).map iv) := by show _ = _; rw [Rnd.upto_succ, List.map_append]; rfl
      clear hor
      go_wp2_with ((with_reducible refine wpl_app rfl (.tmp 16) (.tmp 18) 31 rfl G 3 (.int .i64 0) 1 8 ?_ ?_ rfl (by omega) (by omega) _ ?_ k _ o1 _ _ 1 1 ?_ _ r1 (by simp [Value.oneCell']) (by omega) hsz (k + 1) rfl ?_); rfl; kernel_rfl; rfl; rfl; intro A3 c3 w3 ho3 hg3 hz3)
      go_roundw
      case rel => exact ⟨k + 1, A3, c3, hlt, by go_num, rfl, by rw [← hu.out]; exact ho3, f1.grown hg3 (fun g hg => .inr (by have := (own_lt o1 g hg).1; have := hG.out; omega))⟩
      case measure => simp [intOf]; omega
    · obtain rfl : k = n := by omega
      go_wp2_with fail
      go_loopw [7, 8] (fun t7 t8 wi => ∃ (J : Nat) (l : List Int) (s1 u : BitVec 64), J ≤ k ∧ t8 = .int .i64 ((J : Int) - 1) ∧ t7 = .int .u64 (n64 u) ∧ Hid (s1 = seed + u * Rnd.golden) ∧ l.length = k ∧ Hid (Rnd.shuf J l s1 = R) ∧ wi.ownsRow G 3 1 (.slice A k c) k (l.map iv) ∧ Fr (fun _ => False) w wi) (fun _ t8 _ => (intOf t8 + 1).toNat)
      case atStart => exact ⟨k, Rnd.upto k, seed, 0#64, Nat.le_refl _, rfl, rfl, by show _ = _; rw [BitVec.zero_mul, BitVec.add_zero], Rnd.length_upto k, hR, hor, hfr⟩
      case round =>
        obtain ⟨J, l, s1, u, hJ, rfl, rfl, hsu, hll, hsh, hor2, hf2⟩ := hrel
        by_cases hJ1 : 1 < J
        · obtain ⟨i, rfl⟩ : ∃ i, J = i + 2 := ⟨J - 2, by omega⟩
          have hi2 : Hid ((((i + 2 : Nat) : Int) - 1) = ((i + 1 : Nat) : Int)) := by show _ = _; omega
          rw [hi2.out]
          obtain ⟨q, hq⟩ : ∃ q, q = i + 1 := ⟨_, rfl⟩
          rw [← hq]
          have hqk : q < k := by omega
          have hq0 : 0 < q := by omega
          have hsh' : Hid (Rnd.shuf q (Rnd.swapL l q (Rnd.pick s1 (q + 1))) (Rnd.nxt s1) = R) := by have := hsh.out; rw [Rnd.shuf_succ, ← hq, show i + 2 = q + 1 by omega] at this; exact this
          have hll' := Lib.hid hll
          clear hi2 hsh hq hJ hJ1 hll
          have hKb : Rnd.pick s1 (q + 1) < q + 1 := Rnd.hi_lt (Rnd.mix (s1 + Rnd.golden)) (q + 1) (by omega)
          have hout : Rnd.out seed (u + 1#64) = Rnd.mix (s1 + Rnd.golden) := by
            unfold Rnd.out Rnd.state
            rw [hsu.out, BitVec.add_mul, BitVec.one_mul, BitVec.add_assoc]
          have hs2' : Rnd.nxt s1 = seed + (u + 1#64) * Rnd.golden := by
            unfold Rnd.nxt
            rw [hsu.out, BitVec.add_mul, BitVec.one_mul, BitVec.add_assoc]
          obtain ⟨K, hK⟩ : ∃ K, Rnd.pick s1 (q + 1) = K := ⟨_, rfl⟩
          obtain ⟨s2, hs2⟩ : ∃ s2, Rnd.nxt s1 = s2 := ⟨_, rfl⟩
          have hKK : Hid (Rnd.hi (Rnd.out seed (u + 1#64)).toNat (BitVec.ofNat 64 q + 1#64).toNat = K) := by
            show _ = _
            rw [hout, ← hK, show (BitVec.ofNat 64 q + 1#64).toNat = q + 1 by rw [BitVec.toNat_add, BitVec.toNat_ofNat]; simp; omega]
            rfl
          have hu2 : Hid (s2 = seed + (u + 1#64) * Rnd.golden) := by show _ = _; rw [← hs2, hs2']
          rw [hK, hs2] at hsh'
          rw [hK] at hKb
          clear hK hs2 hout hs2' hsu
          have hqn : Hid ((q : Int) + 1 = n64 (BitVec.ofNat 64 q + 1#64)) := by show _ = _; unfold n64; rw [BitVec.toNat_add, BitVec.toNat_ofNat]; simp; omega
          go_wp2_with fail
          refine (at_any seed (u + 1#64) _).mono ?_
          rintro e w2 ⟨rfl, rfl⟩
          go_wp2_with fail
          refine (high_any _ _ _ hqn.out _).mono ?_
          rw [hKK.out]
          rintro e w2 ⟨rfl, rfl⟩
          have hKk : K < k := by omega
          obtain ⟨g, rfl, hgb, hgl, hget, hfz, hset⟩ := own_at hor2 (by omega)
          have cK := (hget K hKk).trans (iv_get l K (by have := hll'.out; omega))
          have cq := (hget q hqk).trans (iv_get l q (by have := hll'.out; omega))
          obtain ⟨a, ha⟩ : ∃ a, l.getD K 0 = a := ⟨_, rfl⟩
          obtain ⟨b, hb⟩ : ∃ b, l.getD q 0 = b := ⟨_, rfl⟩
          have fq := hfz q
          have fK := hfz K
          have o4 := hset q (.int .i64 a) hqk
          obtain ⟨-, -, hget4, hfz4, hset4⟩ := own_g o4
          have o5 := hset4 K (.int .i64 b) hKk
          have e5 : (((l.map iv).set q (.int .i64 a)).set K (.int .i64 b)) = (Rnd.swapL l q K).map iv := by rw [← ha, ← hb]; exact swap_map l q K
          rw [e5] at o5
          rw [ha] at cK
          rw [hb] at cq
          have hx4 : ∃ v4, (wr.setCell ⟨g, q, none⟩ (.int .i64 a)).cell? ⟨g, K, none⟩ = some v4 := by
            rw [hget4 K hKk, List.getElem?_eq_getElem (by simp; have := hll'.out; omega)]
            exact ⟨_, rfl⟩
          obtain ⟨v4, c4⟩ := hx4
          have fK4 := hfz4 K
          have o5' := Lib.hid o5
          have fr5 := (hf2.setCell (p := ⟨g, q, none⟩) (.inr (by have := hG.out; show w.heap.size ≤ g; omega)) (.int .i64 a)).setCell (p := ⟨g, K, none⟩) (.inr (by have := hG.out; show w.heap.size ≤ g; omega)) (.int .i64 b)
          clear hor2 hget hfz hset hget4 hfz4 hset4 o4 o5 e5 ha hb
          go_wp2_with fail
          refine wp_region_ord [0, 1, 2, 3, 4, 5, 6, 8, 9, 10] [7, 11, 12] [13, 14, 15] (by kernel_rfl) (by kernel_rfl) (fun _ _ _ _ _ h => h) ?_
          simp only [ordPick, Option.toList_some, List.cons_append, List.nil_append, List.getElem?_cons_succ, List.getElem?_cons_zero]
          iterate 6 (go_big_quiet_step (fail))
          refine wpq_idx rfl 31 (.tmp 40) (.tmp 41) rfl 3 rfl (by kernel_rfl) g 0 k c K .i64 rfl rfl hKk ?_
          simp only [Act.put, List.setIfInBounds_toArray, List.set_cons_succ, List.set_cons_zero, Nat.zero_add]
          iterate 2 (go_big_quiet_step (fail))
          refine wpq_idx rfl 31 (.tmp 44) (.tmp 45) rfl 3 rfl (by kernel_rfl) g 0 k c q .i64 rfl rfl hqk ?_
          simp only [Act.put, List.setIfInBounds_toArray, List.set_cons_succ, List.set_cons_zero, Nat.zero_add]
          refine wpQuiet_nil ?_
          iterate 2 (go_big_quiet_step (fail))
          refine wpq_idx rfl 31 (.tmp 36) (.tmp 37) rfl 3 rfl (by kernel_rfl) g 0 k c q .i64 rfl rfl hqk ?_
          simp only [Act.put, List.setIfInBounds_toArray, List.set_cons_succ, List.set_cons_zero, Nat.zero_add]
          refine wpQuiet_nil ?_
          go_wp2_with fail
          go_roundw
          case rel => exact ⟨q, _, _, _, by omega, by go_num, rfl, hu2, by rw [Rnd.length_swapL, hll'.out], hsh', o5'.out, fr5.drew⟩
          case measure => simp [intOf]
        · have hRe : Hid (R = (l, s1)) := by show _ = _; rw [← hsh.out, Rnd.shuf_low J (by omega)]
          have hJle : (J : Int) ≤ 1 := by omega
          clear hsh hll hJ1 hsu
          go_wp2_with fail
          go_ret
          rw [hRe.out]
          refine ⟨_, _, rfl, ?_, hf2.below (fun _ h => h.elim) (Nat.le_refl _)⟩
          rw [hG.out]
          exact hor2
end Go.Proofs.Ytgbeljgpnhpphaa
