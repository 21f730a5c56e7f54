/-
  The reference's RankPermutation.
-/
import Derived.Test.YtgbeljgpnhpphaaRankLaw
import Derived.Test.YtgbeljgpnhpphaaPermW
namespace Rnd
/-- How many of the numbers at i + 1 to k - 1 are less than number i. -/
def cntL (zs : List Int) (i k : Nat) : Nat := ((zs.take k).drop (i + 1)).countP fun y => decide (y < zs.getD i 0)
theorem cntL_start (zs : List Int) (i : Nat) : cntL zs i (i + 1) = 0 := by
  unfold cntL
  rw [List.drop_of_length_le (by simp; omega)]
  rfl
theorem cntL_succ (zs : List Int) (i k : Nat) (hik : i + 1 ≤ k) (hk : k < zs.length) : cntL zs i (k + 1) = cntL zs i k + (if zs.getD k 0 < zs.getD i 0 then 1 else 0) := by
  unfold cntL
  rw [Go.Pl.take_snocD zs k hk, List.drop_append_of_le_length (by rw [List.length_take]; omega), List.countP_append]
  congr 1
  by_cases h : zs.getD k 0 < zs.getD i 0
  · rw [if_pos h, List.countP_cons_of_pos (by simpa using h)]; rfl
  · rw [if_neg h, List.countP_cons_of_neg (by simpa using h)]; rfl
theorem cntL_le (zs : List Int) (i k : Nat) : cntL zs i k ≤ zs.length := by
  unfold cntL
  refine Nat.le_trans List.countP_le_length ?_
  simp
  omega
def hornW (zs : List Int) : Nat → BitVec 64
  | 0 => 0#64
  | i + 1 => hornW zs i * BitVec.ofNat 64 (zs.length - i) + BitVec.ofNat 64 (cntL zs i zs.length)
theorem cntL_less {ns : List Nat} {i : Nat} (hi : i < ns.length) : cntL (castL ns) i (castL ns).length = lessN ns[i] (ns.drop (i + 1)) := by
  unfold cntL lessN
  rw [List.take_of_length_le (Nat.le_refl _), castL_getD]
  have e : (castL ns).drop (i + 1) = castL (ns.drop (i + 1)) := by simp [castL, List.map_drop]
  rw [e]
  unfold castL
  rw [List.countP_map]
  apply List.countP_congr
  intro a _
  simp [hi]
theorem horn_rank (ns : List Nat) : ∀ i, i ≤ ns.length → hornW (castL ns) i * fw (ns.length - i) + BitVec.ofNat 64 (rankN (ns.drop i)) = BitVec.ofNat 64 (rankN ns)
  | 0, _ => by simp [hornW]
  | i + 1, hi => by
    have hil : i < ns.length := by omega
    rw [← horn_rank ns i (by omega), List.drop_eq_getElem_cons hil, rankN, hornW, length_castL]
    have := cntL_less hil
    rw [length_castL] at this
    rw [this, BitVec.ofNat_add, BitVec.ofNat_mul, List.length_drop]
    have hf : fw (ns.length - i) = BitVec.ofNat 64 (ns.length - i) * fw (ns.length - (i + 1)) := by
      rw [show ns.length - i = (ns.length - (i + 1)) + 1 by omega, ← fw_step, BitVec.mul_comm]
    rw [hf, BitVec.add_mul, BitVec.mul_assoc, BitVec.add_assoc]
    rfl
theorem horn_castL (ns : List Nat) : hornW (castL ns) ns.length = BitVec.ofNat 64 (rankN ns) := by
  have := horn_rank ns ns.length (Nat.le_refl _)
  rw [List.drop_of_length_le (Nat.le_refl _), Nat.sub_self] at this
  rw [← this]
  simp [rankN, fw, fact]
end Rnd
namespace Go.Proofs.Ytgbeljgpnhpphaa
open Go.RowKit Go.Pl
set_option maxRecDepth 100000 in
set_option maxHeartbeats 2000000 in
theorem refrankp_any {A : Option Addr} {n c : Nat} {zs : List Int} (w : World) (hA : Row w (fun _ => True) 1 A n c (zs.map iv)) (hz : I64s zs) (hn9 : n ≤ 9223372036854775807) :
    Calls Try.prog 34 #[.slice A n c] w fun e w' => e = rankEnd (Rnd.rankP zs) ∧ Below w.heap.size w w' := by
  have hn := hA.ints
  have hA' : Row w (fun i => i < w.heap.size) 1 A n c (zs.map iv) := hA.mono (fun i hi _ => hi)
  by_cases hl : 20 < n
  · have hbad : Hid (Rnd.rankP zs = none) := Rnd.rankP_none (by omega)
    clear hn
    go_enter Try.func34, Try.ntmps34
    go_wp2_with fail
    go_ret2
    rw [hbad.out]
    exact ⟨rfl, Below.refl _ _⟩
  · have hn20 : n ≤ 20 := by omega
    clear hl
    by_cases hp : Rnd.permB zs = true
    · have hres : Hid (Rnd.rankP zs = some (Rnd.hornW zs n)) := by
        show _ = _
        obtain ⟨ns, rfl, hpm⟩ := (Rnd.good_iff zs).1 hp
        rw [Rnd.length_castL] at hpm
        have hnn : n = ns.length := by rw [hn, Rnd.length_castL]
        rw [Rnd.rankP_castL hpm (by omega), hnn, Rnd.horn_castL]
      have hn' : Hid (n = zs.length) := hn
      have hp' := Lib.hid hp
      clear hn hp
      go_enter Try.func34, Try.ntmps34
      go_wp2_with fail
      refine (perm_any _ hA hz (by omega)).mono ?_
      rw [hp'.out]
      rintro e w1 ⟨rfl, hb1⟩
      have hA1 := hA'.up hb1
      have hz' := Lib.hid hz
      clear hA hA' hz
      go_wp2_with fail
      go_loopw [4, 5] (fun t4 t5 wr => ∃ i : Nat, i ≤ n ∧ t5 = .int .i64 (i : Int) ∧ t4 = .int .u64 (n64 (Rnd.hornW zs i)) ∧ Fr (fun _ => False) w1 wr) (fun _ t5 _ => n - (intOf t5).toNat)
      case atStart => exact ⟨0, Nat.zero_le _, rfl, rfl, Fr.refl _ _⟩
      case round =>
        obtain ⟨i, hi, rfl, rfl, hfr⟩ := hrel
        by_cases hlt : i < n
        · obtain ⟨wo, rfl⟩ : ∃ wo : World, wo = wr := ⟨_, rfl⟩
          go_wp2_with fail
          go_loopw [6, 7] (fun t6 t7 wi => ∃ k : Nat, k ≤ n ∧ i + 1 ≤ k ∧ t7 = .int .i64 (k : Int) ∧ t6 = .int .u64 (n64 (BitVec.ofNat 64 (Rnd.cntL zs i k))) ∧ Fr (fun _ => False) w1 wi) (fun _ t7 _ => n - (intOf t7).toNat)
          case atStart => exact ⟨i + 1, hlt, Nat.le_refl _, by go_num, by rw [Rnd.cntL_start]; rfl, hfr⟩
          case round =>
            obtain ⟨k, hk, hik, rfl, rfl, hfi⟩ := hrel
            by_cases hkn : k < n
            · obtain ⟨b, o, rfl, -, -, hc⟩ := (hA1.fr hfi (fun _ _ h => h)).intAt (by omega)
              have c1 := hc k hkn
              have c2 := hc i hlt
              have hs := Rnd.cntL_succ zs i k hik (by have := hn'.out; omega)
              obtain ⟨x, hx⟩ : ∃ x, zs.getD k 0 = x := ⟨_, rfl⟩
              obtain ⟨y, hy⟩ : ∃ y, zs.getD i 0 = y := ⟨_, rfl⟩
              rw [hx] at c1 hs
              rw [hy] at c2 hs
              clear hc hx hy
              obtain ⟨C, hC⟩ : ∃ C, Rnd.cntL zs i k = C := ⟨_, rfl⟩
              rw [hC] at hs
              rw [hC]
              clear hC
              by_cases hxy : x < y
              · rw [if_pos hxy] at hs
                have hs' : Hid (BitVec.ofNat 64 C + 1#64 = BitVec.ofNat 64 (Rnd.cntL zs i (k + 1))) := by show _ = _; rw [hs, BitVec.ofNat_add]
                clear hs
                go_wp2_with fail
                refine wp_region_quiet_lit (by kernel_rfl) (by kernel_rfl) ?_
                repeat (go_big_quiet_step (fail))
                refine wpQuiet_nil ?_
                intro _ hw'
                obtain ⟨nq, hw''⟩ := hw'
                subst hw''
                go_wp2_with fail
                go_roundw
                case rel => exact ⟨k + 1, hkn, by omega, by go_num, by rw [← hs'.out], hfi.drewN nq⟩
                case measure => simp [intOf]; omega
              · rw [if_neg hxy] at hs
                have hs' : Hid (C = Rnd.cntL zs i (k + 1)) := by show _ = _; omega
                clear hs
                go_wp2_with fail
                refine wp_region_quiet_lit (by kernel_rfl) (by kernel_rfl) ?_
                repeat (go_big_quiet_step (fail))
                refine wpQuiet_nil ?_
                intro _ hw'
                obtain ⟨nq, hw''⟩ := hw'
                subst hw''
                go_wp2_with fail
                go_roundw
                case rel => exact ⟨k + 1, hkn, by omega, by go_num, by rw [← hs'.out], hfi.drewN nq⟩
                case measure => simp [intOf]; omega
            · obtain rfl : k = n := by omega
              have hstep : Hid (Rnd.hornW zs (i + 1) = Rnd.hornW zs i * BitVec.ofNat 64 (k - i) + BitVec.ofNat 64 (Rnd.cntL zs i k)) := by
                show _ = _
                rw [hn'.out, Rnd.hornW]
              have hsub : ((k : Int) - (i : Int)) = ((k - i : Nat) : Int) := by omega
              go_wp2_with fail
              go_roundw
              case rel => exact ⟨i + 1, hlt, by go_num, by rw [hstep.out], hfi⟩
              case measure => simp [intOf]; omega
        · obtain rfl : i = n := by omega
          go_wp2_with fail
          go_ret2
          rw [hres.out]
          exact ⟨rfl, hb1.trans (hfr.below (fun _ h => h.elim) hb1.size)⟩
    · have hpf : Rnd.permB zs = false := by simpa using hp
      have hbad : Hid (Rnd.rankP zs = none) := Rnd.rankP_none (fun h => hp h.2)
      have hp' := Lib.hid hpf
      clear hn hp hpf
      go_enter Try.func34, Try.ntmps34
      go_wp2_with fail
      refine (perm_any _ hA hz (by omega)).mono ?_
      rw [hp'.out]
      rintro e w1 ⟨rfl, hb1⟩
      go_wp2_with fail
      go_ret2
      rw [hbad.out]
      exact ⟨rfl, hb1⟩
end Go.Proofs.Ytgbeljgpnhpphaa
