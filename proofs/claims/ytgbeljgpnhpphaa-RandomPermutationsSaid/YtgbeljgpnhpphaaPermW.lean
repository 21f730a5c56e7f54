/-
  The reference's Permutation.
-/
import Derived.Test.YtgbeljgpnhpphaaPerm
namespace Go.Proofs.Ytgbeljgpnhpphaa
open Go.RowKit Go.Pl
set_option maxRecDepth 100000 in
set_option maxHeartbeats 2000000 in
theorem perm_any {A : Option Addr} {n c : Nat} {zs : List Int} (w : World) (hA : Row w (fun _ => True) 1 A n c (zs.map iv)) (hz : I64s zs) (hn : n ≤ 281474976710656) :
    Calls Try.prog 20 #[.slice A n c] w fun e w' => e = .returned (.bool (Rnd.permB zs)) ∧ Below w.heap.size w w' := by
  have hnl := hA.ints
  have hA' : Row w (fun i => i < w.heap.size) 1 A n c (zs.map iv) := hA.mono (fun i hi _ => hi)
  clear hA
  have hn' : Hid (n = zs.length) := hnl
  have hbad : Hid (∀ i, i < n → Rnd.goodAt zs i = false → Rnd.permB zs = false) := fun i hi h => Rnd.permB_bad (by omega) h
  have hgood : Hid ((∀ i, i < n → Rnd.goodAt zs i = true) → Rnd.permB zs = true) := fun h => Rnd.permB_good (by rw [← hnl]; exact h)
  have hz' := Lib.hid hz
  clear hz hnl
  obtain ⟨G, hG'⟩ : ∃ G, w.heap.size = G := ⟨_, rfl⟩
  have hG : Hid (w.heap.size = G) := hG'
  rw [hG'] at hA'
  clear hG'
  have hn9 : n ≤ 9223372036854775807 := by omega
  go_enter Try.func20, Try.ntmps20
  go_wp2_with ((with_reducible refine wpl_make rfl 59 (.tmp 6) (.tmp 6) rfl w.heap.size 4 (.bool false) 1 ?_ ?_ rfl (by omega) .i64 .i64 n ?_ ?_ (by omega) (Nat.le_refl _) ?_); rfl; kernel_rfl; rfl; rfl; rw [hG.out, ← seenL_nil]; intro w1 ho1 hg1;
                        have hf1 : Fr (fun i => i = G) w w1 := (Fr.refl _ w).grown hg1 (fun g h => (by cases h)))
  go_loopw [4] (fun t4 wr => ∃ k : Nat, k ≤ n ∧ t4 = .int .i64 (k : Int) ∧ Hid (∀ i, i < k → Rnd.goodAt zs i = true) ∧ wr.ownsRow G 4 1 (.slice (some ⟨G, 0, none⟩) n n) n (seenL n (zs.take k)) ∧ Fr (fun i => i = G) w wr) (fun t4 _ => n - (intOf t4).toNat)
  case atStart => exact ⟨0, Nat.zero_le _, rfl, fun i hi => by omega, ho1, hf1⟩
  case round =>
    obtain ⟨k, hk, rfl, hok, hor, hfr⟩ := hrel
    have hlo : Below w.heap.size w wr := hfr.below (fun i h => by have := hG.out; omega) (Nat.le_refl _)
    by_cases hlt : k < n
    · obtain ⟨b, o, rfl, hSb, hbl, hc⟩ := (hA'.fr hfr (fun i hi h => by omega)).intAt (by omega)
      have hc1 := hc k hlt
      have hzk := hz'.out.get (i := k) (by have := hn'.out; omega)
      have hat : Rnd.goodAt zs k = (decide (0 ≤ zs.getD k 0) && decide (zs.getD k 0 < (n : Int)) && !decide (zs.getD k 0 ∈ zs.take k)) := by rw [Rnd.goodAt, ← hn'.out]
      have hts := take_snocD zs k (by have := hn'.out; omega)
      obtain ⟨z, hzz⟩ : ∃ z, zs.getD k 0 = z := ⟨_, rfl⟩
      obtain ⟨ps, hps⟩ : ∃ ps, zs.take k = ps := ⟨_, rfl⟩
      rw [hzz, hps] at hat
      rw [hzz, hps] at hts
      rw [hzz] at hc1 hzk
      rw [hps] at hor
      have hts' := Lib.hid hts
      have hat' := Lib.hid hat
      clear hzz hps hts hat hc
      by_cases h0 : z < 0
      · have hres := Lib.hid (hbad.out k hlt (by rw [hat'.out, decide_eq_false (by omega)]; rfl))
        go_wp2_with fail
        go_ret
        rw [hres.out]
        exact ⟨rfl, hlo⟩
      · have h0' : 0 ≤ z := by omega
        by_cases h1 : (n : Int) ≤ z
        · have hres := Lib.hid (hbad.out k hlt (by rw [hat'.out, decide_eq_false (p := z < (n : Int)) (by omega)]; simp))
          clear h0
          go_wp2_with fail
          go_ret
          rw [hres.out]
          exact ⟨rfl, hlo⟩
        · obtain ⟨x, rfl⟩ : ∃ x : Nat, z = (x : Int) := ⟨z.toNat, by omega⟩
          have hxn : x < n := by omega
          obtain ⟨-, hgl, hget, hfz, hset⟩ := own_g hor
          have hs1 := (hget x hxn).trans (seenL_get n ps x hxn)
          clear h0 h1 h0' hzk
          by_cases hin : (x : Int) ∈ ps
          · rw [decide_eq_true hin] at hs1
            have hres := Lib.hid (hbad.out k hlt (by rw [hat'.out, decide_eq_true hin]; simp))
            clear hget hfz hset hin
            go_wp2_with fail
            go_ret
            rw [hres.out]
            exact ⟨rfl, hlo⟩
          · rw [decide_eq_false hin] at hs1
            have hgk : Rnd.goodAt zs k = true := by rw [hat'.out, decide_eq_false hin, decide_eq_true (by omega), decide_eq_true (by omega)]; rfl
            have f1 := hfz x
            have s1 := hset x (.bool true) hxn
            rw [seenL_set, ← hts'.out] at s1
            have s1' := Lib.hid s1
            have fr1 := hfr.setCell (p := ⟨G, x, none⟩) (.inl rfl) (.bool true)
            clear hget hfz hset hin s1 hor
            go_wp2_with fail
            go_roundw
            case rel => exact ⟨k + 1, hlt, by go_num, fun i hi => by
              by_cases h : i = k
              · subst h; exact hgk
              · exact hok.out i (by omega), s1'.out, fr1⟩
            case measure => simp [intOf]; omega
    · obtain rfl : k = n := by omega
      have hres := Lib.hid (hgood.out hok.out)
      go_wp2_with fail
      go_ret
      rw [hres.out]
      exact ⟨rfl, hlo⟩
end Go.Proofs.Ytgbeljgpnhpphaa
