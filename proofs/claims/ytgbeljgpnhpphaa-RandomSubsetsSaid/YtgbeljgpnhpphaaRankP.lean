/-
  RankPermutation.
-/
import Derived.Test.YtgbeljgpnhpphaaInts
namespace Rnd
/-- Position i holds a number from 0 to n - 1 that none before it holds. -/
def goodAt (zs : List Int) (i : Nat) : Bool := decide (0 ≤ zs.getD i 0) && decide (zs.getD i 0 < (zs.length : Int)) && !decide (zs.getD i 0 ∈ zs.take i)
def goodP (zs : List Int) : Bool := decide (zs.length ≤ 20) && (List.range zs.length).all (goodAt zs)
/-- How many numbers below m are not among ps. -/
def unseen (ps : List Int) (m : Nat) : Nat := (List.range m).countP fun (j : Nat) => !decide ((j : Int) ∈ ps)
theorem unseen_succ (ps : List Int) (m : Nat) : unseen ps (m + 1) = unseen ps m + (if (m : Int) ∈ ps then 0 else 1) := by
  unfold unseen
  rw [List.range_succ, List.countP_append]
  congr 1
  by_cases h : (m : Int) ∈ ps <;> simp [h]
theorem unseen_le (ps : List Int) (m : Nat) : unseen ps m ≤ m := by
  unfold unseen
  exact Nat.le_trans (List.countP_le_length) (by simp)
/-- The rank, as it is added up. -/
def accP (zs : List Int) : Nat → BitVec 64
  | 0 => 0#64
  | k + 1 => accP zs k + BitVec.ofNat 64 (unseen (zs.take (k + 1)) (zs.getD k 0).toNat) * fw (zs.length - 1 - k)
def rankP (zs : List Int) : Option (BitVec 64) := if goodP zs = true then some (accP zs zs.length) else none
theorem goodP_bad {zs : List Int} {i : Nat} (hi : i < zs.length) (h : goodAt zs i = false) : goodP zs = false := by
  rw [goodP, Bool.and_eq_false_iff]
  right
  rw [List.all_eq_false]
  exact ⟨i, by simpa using hi, by simp [h]⟩
end Rnd
namespace Go.Pl
/-- What has been seen. -/
def seenL (n : Nat) (ps : List Int) : List Value := (List.range n).map fun (j : Nat) => Value.bool (decide ((j : Int) ∈ ps))
theorem seenL_nil (n : Nat) : seenL n [] = List.replicate n (Value.bool false) := by
  apply List.ext_getElem
  · simp [seenL]
  · intro i h1 h2; simp [seenL]
theorem seenL_get (n : Nat) (ps : List Int) (j : Nat) (h : j < n) : (seenL n ps)[j]? = some (Value.bool (decide ((j : Int) ∈ ps))) := by
  unfold seenL
  rw [List.getElem?_map, List.getElem?_range h]
  rfl
theorem seenL_set (n : Nat) (ps : List Int) (x : Nat) : (seenL n ps).set x (Value.bool true) = seenL n (ps ++ [(x : Int)]) := by
  apply List.ext_getElem?
  intro j
  by_cases hj : j < n
  · rw [List.getElem?_set, seenL_get n _ j hj, seenL_get n _ j hj]
    by_cases h : x = j
    · subst h
      rw [if_pos rfl, if_pos (by simpa [seenL] using hj)]
      simp
    · rw [if_neg h]
      have : ((j : Int) ∈ ps ++ [(x : Int)]) ↔ ((j : Int) ∈ ps) := by
        simp only [List.mem_append, List.mem_singleton]
        constructor
        · rintro (h1 | h1)
          · exact h1
          · exact absurd (by omega) h
        · exact .inl
      simp [this]
  · rw [List.getElem?_eq_none (by simp [seenL]; omega), List.getElem?_eq_none (by simp [seenL]; omega)]
theorem take_snocD (zs : List Int) (k : Nat) (h : k < zs.length) : zs.take (k + 1) = zs.take k ++ [zs.getD k 0] := by
  rw [List.take_succ_eq_append_getElem h]
  simp [h]
end Go.Pl
namespace Go.Proofs.Ytgbeljgpnhpphaa
open Go.RowKit Go.Pl
/-- A rank, or the refusal. -/
def rankEnd (r : Option (BitVec 64)) : Ending := .returned (match r with | some x => .tuple #[.int .u64 (n64 x), .int .i64 0] | none => .tuple #[.int .u64 0, .int .i64 1])
set_option maxRecDepth 100000 in
set_option maxHeartbeats 2000000 in
theorem rankp_any {A : Option Addr} {n c : Nat} {zs : List Int} (w : World) (hA : Row w (fun _ => True) 1 A n c (zs.map iv)) (hz : I64s zs) :
    Calls Try.prog 25 #[.slice A n c] w fun e w' => e = rankEnd (Rnd.rankP zs) ∧ Below w.heap.size w w' := by
  have hn := hA.ints
  have hA' : Row w (fun i => i < w.heap.size) 1 A n c (zs.map iv) := hA.mono (fun i hi _ => hi)
  clear hA
  by_cases hl : 20 < n
  · have hbad : Hid (Rnd.rankP zs = none) := by
      show _ = _
      unfold Rnd.rankP Rnd.goodP
      rw [decide_eq_false (by omega), Bool.false_and, if_neg (by simp)]
    clear hn
    go_enter Try.func25, Try.ntmps25
    go_wp2_with fail
    go_ret2
    rw [hbad.out]
    exact ⟨rfl, Below.refl _ _⟩
  · have hn20 : n ≤ 20 := by omega
    have hn' : Hid (n = zs.length) := hn
    have hbad : Hid (∀ i, i < n → Rnd.goodAt zs i = false → Rnd.rankP zs = none) := fun i hi h => by
      unfold Rnd.rankP
      rw [Rnd.goodP_bad (by omega) h, if_neg (by simp)]
    have hgood : Hid ((∀ i, i < n → Rnd.goodAt zs i = true) → Rnd.rankP zs = some (Rnd.accP zs n)) := fun h => by
      unfold Rnd.rankP Rnd.goodP
      rw [if_pos, hn]
      rw [Bool.and_eq_true, decide_eq_true_eq, List.all_eq_true]
      exact ⟨by omega, fun i hi => h i (by rw [hn]; simpa using hi)⟩
    have hz' := Lib.hid hz
    clear hn hl hz
    obtain ⟨G, hG'⟩ : ∃ G, w.heap.size = G := ⟨_, rfl⟩
    have hG : Hid (w.heap.size = G) := hG'
    rw [hG'] at hA'
    clear hG'
    go_enter Try.func25, Try.ntmps25
    go_wp2_with ((with_reducible refine wpl_make rfl 59 (.tmp 14) (.tmp 14) rfl w.heap.size 4 (.bool false) 1 ?_ ?_ rfl (by omega) .i64 .i64 n ?_ ?_ (by omega) (Nat.le_refl _) ?_); rfl; kernel_rfl; rfl; rfl; rw [hG.out, ← seenL_nil]; intro w1 ho1 hg1;
                        have hf1 : Fr (fun i => i = G) w w1 := (Fr.refl _ w).grown hg1 (fun g h => (by cases h)))
    go_loopw [5, 18] (fun t5 t18 wr => ∃ k : Nat, k ≤ n ∧ t18 = .int .i64 (k : Int) ∧ t5 = .int .u64 (n64 (Rnd.accP zs k)) ∧ Hid (∀ i, i < k → Rnd.goodAt zs i = true) ∧ wr.ownsRow G 4 1 (.slice (some ⟨G, 0, none⟩) n n) n (seenL n (zs.take k)) ∧ Fr (fun i => i = G) w wr) (fun _ t18 _ => n - (intOf t18).toNat)
    case atStart => exact ⟨0, Nat.zero_le _, rfl, rfl, fun i hi => by omega, ho1, hf1⟩
    case round =>
      obtain ⟨k, hk, rfl, rfl, hok, hor, hfr⟩ := hrel
      by_cases hlt : k < n
      · obtain ⟨b, o, rfl, hSb, hbl, hc⟩ := (hA'.fr hfr (fun i hi h => by omega)).intAt (by omega)
        have hc1 := hc k hlt
        have hzk := hz'.out.get (i := k) (by have := hn'.out; omega)
        have hat : Rnd.goodAt zs k = (decide (0 ≤ zs.getD k 0) && decide (zs.getD k 0 < (n : Int)) && !decide (zs.getD k 0 ∈ zs.take k)) := by rw [Rnd.goodAt, ← hn'.out]
        have hts := take_snocD zs k (by have := hn'.out; omega)
        have hacc : Rnd.accP zs (k + 1) = Rnd.accP zs k + BitVec.ofNat 64 (Rnd.unseen (zs.take (k + 1)) (zs.getD k 0).toNat) * Rnd.fw (n - 1 - k) := by rw [Rnd.accP, ← hn'.out]
        rw [hts] at hacc
        obtain ⟨z, hzz⟩ : ∃ z, zs.getD k 0 = z := ⟨_, rfl⟩
        obtain ⟨ps, hps⟩ : ∃ ps, zs.take k = ps := ⟨_, rfl⟩
        rw [hzz, hps] at hat hacc
        rw [hzz, hps] at hts
        rw [hzz] at hc1 hzk
        rw [hps] at hor
        have hts' := Lib.hid hts
        have hacc' := Lib.hid hacc
        have hat' := Lib.hid hat
        clear hzz hps hts hacc hat hc
        by_cases hr : 0 ≤ z ∧ z < (n : Int)
        · obtain ⟨x, rfl⟩ : ∃ x : Nat, z = (x : Int) := ⟨z.toNat, by omega⟩
          have hxn : x < n := by omega
          obtain ⟨-, hgl, hget, hfz, hset⟩ := own_g hor
          have hs1 := (hget x hxn).trans (seenL_get n ps x hxn)
          by_cases hin : (x : Int) ∈ ps
          · rw [decide_eq_true hin] at hs1
            have hres := Lib.hid (hbad.out k hlt (by rw [hat'.out, decide_eq_true hin]; simp))
            clear hget hfz hset hr hzk hin
            go_wp2_with fail
            go_ret2
            rw [hres.out]
            exact ⟨rfl, hfr.below (fun i h => by have := hG.out; omega) (Nat.le_refl _)⟩
          · rw [decide_eq_false hin] at hs1
            have hgk : Rnd.goodAt zs k = true := by rw [hat'.out, decide_eq_false hin, decide_eq_true (by omega), decide_eq_true (by omega)]; rfl
            have f1 := hfz x
            have s1 := hset x (.bool true) hxn
            rw [seenL_set, ← hts'.out] at s1
            have s1' := Lib.hid s1
            clear hget hfz hset hr hzk hin s1
            have fr1 := hfr.setCell (p := ⟨G, x, none⟩) (.inl rfl) (.bool true)
            clear hor
            go_wp2_with fail
            generalize wr.setCell ⟨G, x, none⟩ (Value.bool true) = wo at s1' fr1 ⊢
            obtain ⟨qs, hqs⟩ : ∃ qs, zs.take (k + 1) = qs := ⟨_, rfl⟩
            have hacq : Hid (Rnd.accP zs (k + 1) = Rnd.accP zs k + BitVec.ofNat 64 (Rnd.unseen qs x) * Rnd.fw (n - 1 - k)) := by
              show _ = _
              rw [hacc'.out, ← hts'.out, hqs]
              rfl
            have s2 := s1'.out
            rw [hqs] at s2
            have hqs' := Lib.hid hqs
            clear s1' hts' hacc' hat' hqs f1
            obtain ⟨-, -, hget, -, -⟩ := own_g s2
            have hget' := Lib.hid hget
            clear hget
            have hx20 : x ≤ 20 := by omega
            go_loop [8, 41] (fun t8 t41 => ∃ m : Nat, m ≤ x ∧ t41 = .int .i64 (m : Int) ∧ t8 = .int .i64 (Rnd.unseen qs m : Int)) (fun _ t41 => x - (intOf t41).toNat)
            case atStart => exact ⟨0, Nat.zero_le _, rfl, rfl⟩
            case round =>
              obtain ⟨m, hm, rfl, rfl⟩ := hrel
              have hul := Rnd.unseen_le qs m
              by_cases hmx : m < x
              · have hus := Rnd.unseen_succ qs m
                have cm := (hget'.out m (by omega)).trans (seenL_get n qs m (by omega))
                have hmn : m < n := by omega
                by_cases hin2 : (m : Int) ∈ qs
                · rw [decide_eq_true hin2] at cm
                  rw [if_pos hin2] at hus
                  have hus' : Hid (Rnd.unseen qs (m + 1) = Rnd.unseen qs m) := hus
                  clear hus hin2
                  go_wp2
                  go_round
                  case rel => exact ⟨m + 1, hmx, by go_num, by rw [hus'.out]⟩
                  case measure => simp [intOf]; omega
                · rw [decide_eq_false hin2] at cm
                  rw [if_neg hin2] at hus
                  have hus' : Hid (Rnd.unseen qs (m + 1) = Rnd.unseen qs m + 1) := hus
                  clear hus hin2
                  go_wp2
                  go_round
                  case rel => exact ⟨m + 1, hmx, by go_num, by rw [hus'.out]; go_num⟩
                  case measure => simp [intOf]; omega
              · obtain rfl : m = x := by omega
                have hf : Hid (((n : Int) - 1 - (k : Int)) = ((n - 1 - k : Nat) : Int)) := by show _ = _; omega
                go_wp2_with fail
                rw [hf.out]
                refine (factorial_any (n - 1 - k) (by omega) _).mono ?_
                rintro e w2 ⟨rfl, rfl⟩
                go_wp2_with fail
                go_roundw
                case rel => exact ⟨k + 1, hlt, by go_num, by rw [hacq.out], fun i hi => by
                  by_cases h : i = k
                  · subst h; exact hgk
                  · exact hok.out i (by omega), by rw [hqs'.out]; exact s2, fr1⟩
                case measure => simp [intOf]; omega
        · have hres := Lib.hid (hbad.out k hlt (by
            rw [hat'.out]
            by_cases h0 : 0 ≤ z
            · rw [decide_eq_false (p := z < (n : Int)) (by omega)]; simp
            · rw [decide_eq_false h0]; simp))
          have hlo : Below w.heap.size w wr := hfr.below (fun i h => by have := hG.out; omega) (Nat.le_refl _)
          by_cases h0 : z < 0
          · clear hr hzk
            go_wp2_with fail
            go_ret2
            rw [hres.out]
            exact ⟨rfl, hlo⟩
          · have h0' : 0 ≤ z := by omega
            have h1' : (n : Int) ≤ z := by omega
            clear hr h0
            go_wp2_with fail
            go_ret2
            rw [hres.out]
            exact ⟨rfl, hlo⟩
      · obtain rfl : k = n := by omega
        have hres := Lib.hid (hgood.out hok.out)
        go_wp2_with fail
        go_ret2
        rw [hres.out]
        exact ⟨rfl, hfr.below (fun i h => by have := hG.out; omega) (Nat.le_refl _)⟩
end Go.Proofs.Ytgbeljgpnhpphaa
