/-
  The chapter's examples.
-/
import Derived.Test.YtgbeljgpnhpphaaShuf
import Derived.Test.YtgbeljgpnhpphaaRankS
import Derived.Test.YtgbeljgpnhpphaaSame
namespace Rnd
theorem ex_next1 : mix (0#64 + golden) = 0xe220a8397b1dcdaf#64 := by decide +kernel
theorem ex_next2 : mix (0#64 + golden + golden) = 0x6e789e6aa1b965f4#64 := by decide +kernel
theorem ex_intn : hi (mix (0#64 + golden)).toNat 10 = 8 := by decide +kernel
theorem ex_shuf : (shuf 3 (upto 3) 0#64).1 = [1, 0, 2] := by decide +kernel
theorem ex_rankp : rankP [2, 0, 1] = some 4#64 := by decide +kernel
theorem ex_ranks : rankS 4 [1, 3] = some 4#64 := by decide +kernel
theorem ex_choose : chooseI 4 2 = 6#64 := by decide +kernel
end Rnd
namespace Go.Proofs.Ytgbeljgpnhpphaa
open Go.RowKit Go.Pl
theorem n64_eq_lit (x : BitVec 64) (c : Nat) (h : x = BitVec.ofNat 64 c) (hc : c < 18446744073709551616) : n64 x = (c : Int) := by
  subst h; unfold n64; rw [BitVec.toNat_ofNat, Nat.mod_eq_of_lt hc]
set_option maxRecDepth 100000 in
set_option maxHeartbeats 2000000 in
theorem awake_any (w : World) : Calls Try.prog 16 #[] w fun e w' => e = .returned (.bool true) ∧ Below w.heap.size w w' := by
  have z0 : Hid ((0 : Int) = n64 0#64) := rfl
  have e1 : Hid (n64 (Rnd.mix (0#64 + Rnd.golden)) = 16294208416658607535) := n64_eq_lit _ 16294208416658607535 Rnd.ex_next1 (by decide)
  have e2 : Hid (n64 (Rnd.mix (0#64 + Rnd.golden + Rnd.golden)) = 7960286522194355700) := n64_eq_lit _ 7960286522194355700 Rnd.ex_next2 (by decide)
  have e3 : Hid (n64 (Rnd.mix 0#64) = 0) := n64_eq_lit _ 0 Rnd.mix_zero (by decide)
  have e4 : Hid ((Rnd.hi (Rnd.mix (0#64 + Rnd.golden)).toNat 10 : Int) = 8) := by show _ = _; rw [Rnd.ex_intn]; rfl
  have e5 : Hid ((Rnd.shuf 3 (Rnd.upto 3) 0#64).1 = [1, 0, 2]) := Rnd.ex_shuf
  have e6 : Hid (rankEnd (Rnd.rankP [2, 0, 1]) = .returned (.tuple #[.int .u64 4, .int .i64 0])) := by show _ = _; rw [Rnd.ex_rankp]; rfl
  have e7 : Hid (rankEnd (Rnd.rankS 4 [1, 3]) = .returned (.tuple #[.int .u64 4, .int .i64 0])) := by show _ = _; rw [Rnd.ex_ranks]; rfl
  have e8 : Hid (n64 (Rnd.chooseI 4 2) = 6) := n64_eq_lit _ 6 Rnd.ex_choose (by decide)
  go_enter Try.func16, Try.ntmps16
  go_wp2_with fail
  refine (new_any 0#64 _).mono ?_
  rintro e w1 ⟨p, rfl, hp, hS1, hb1⟩
  go_wp2_with fail
  refine (next_any _ hS1).mono ?_
  rintro e w2 ⟨rfl, hS2, hf2⟩
  rw [e1.out]
  have hb2 := hb1.trans (hf2.below (fun i h => by omega) hb1.size)
  go_wp2_with fail
  refine (next_any _ hS2).mono ?_
  rintro e w3 ⟨rfl, hS3, hf3⟩
  rw [e2.out]
  have hb3 := hb2.trans (hf3.below (fun i h => by omega) hb2.size)
  clear hS1 hS2 hf2 hS3 hf3
  go_wp2_with fail
  refine (new_any 0#64 _).mono ?_
  rintro e w4 ⟨q, rfl, hq, hS4, hb4'⟩
  have hb4 := hb3.trans (hb4'.mono hb3.size)
  go_wp2_with fail
  refine (shuffle_any _ hS4 3 (by omega)).mono ?_
  rw [e5.out]
  rintro e w5 ⟨A5, c5, rfl, ho5, hS5, hf5⟩
  have hb5 := hb4.trans (hf5.below (fun i h => by have := hb3.size; omega) hb4.size)
  have r5 := (own_row ho5).mono (T := fun i => i < w5.heap.size) (fun _ h _ => h)
  clear hS4 hS5 hf5 ho5
  go_wp2_with fail
  have hb6 := hb5.alloc hb5.size (.cells #[.int .i64 2, .int .i64 0, .int .i64 1] 3)
  have r6 := r5.up ((Below.refl _ _).alloc (Nat.le_refl _) (.cells #[.int .i64 2, .int .i64 0, .int .i64 1] 3))
  have a6 := (Row.new (n := 3) (sz := 1) w5 3 #[.int .i64 2, .int .i64 0, .int .i64 1] ([2, 0, 1].map iv) rfl rfl (by decide)).mono (T := fun _ => True) (fun _ _ _ => trivial)
  refine (rankp_any _ a6 (by intro z hz; simp at hz; omega)).mono ?_
  rw [e6.out]
  rintro e w6 ⟨rfl, hb6'⟩
  have r7 := r6.up hb6'
  have hb7 := hb6.trans (hb6'.mono hb6.size)
  go_wp2_with fail
  have hb8 := hb7.alloc hb7.size (.cells #[.int .i64 1, .int .i64 3] 3)
  have r8 := r7.up ((Below.refl _ _).alloc (Nat.le_refl _) (.cells #[.int .i64 1, .int .i64 3] 3))
  have a8 := (Row.new (n := 2) (sz := 1) w6 3 #[.int .i64 1, .int .i64 3] ([1, 3].map iv) rfl rfl (by decide)).mono (T := fun _ => True) (fun _ _ _ => trivial)
  refine (ranks_any _ 4 (by omega) a8 (by intro z hz; simp at hz; omega)).mono ?_
  rw [e7.out]
  rintro e w8 ⟨rfl, hb8'⟩
  have r9 := r8.up hb8'
  have hb9 := hb8.trans (hb8'.mono hb8.size)
  go_wp2_with fail
  refine (pubchoose_any 4 2 (by omega) (by omega) _).mono ?_
  rw [e8.out]
  rintro e w9 ⟨rfl, hb9'⟩
  have r10 := (r9.up hb9').mono (T := fun i => i < w9.heap.size) (fun _ h _ => h)
  have hb10 := hb9.trans (hb9'.mono hb9.size)
  clear r5 r6 r7 r8 r9 a6 a8 hb6' hb8' hb9' hb6 hb7 hb8 hb9
  go_wp2_with fail
  refine (mix_any 0#64 _).mono ?_
  rintro e w11 ⟨rfl, rfl⟩
  rw [e3.out]
  go_wp2_with fail
  refine (new_any 0#64 _).mono ?_
  rintro e w11 ⟨q2, rfl, hq2, hS11, hb11'⟩
  have r11 := r10.up hb11'
  have hb11 := hb10.trans (hb11'.mono hb10.size)
  go_wp2_with fail
  refine (intn_any _ hS11 10 (by omega) (by omega)).mono ?_
  rw [e4.out]
  rintro e w12 ⟨rfl, hS12, hf12⟩
  have hb12 := hb11.trans (hf12.below (fun i h => by have := hb10.size; omega) hb11.size)
  have r12 := r11.fr hf12 (fun i hi h => by omega)
  have hb13 := hb12.alloc hb12.size (.cells #[.int .i64 1, .int .i64 0, .int .i64 2] 3)
  have r13 := (r12.up ((Below.refl _ _).alloc (Nat.le_refl _) (.cells #[.int .i64 1, .int .i64 0, .int .i64 2] 3))).mono (T := fun _ => True) (fun _ _ _ => trivial)
  have a13 := (Row.new (n := 3) (sz := 1) w12 3 #[.int .i64 1, .int .i64 0, .int .i64 2] ([1, 0, 2].map iv) rfl rfl (by decide)).mono (T := fun _ => True) (fun _ _ _ => trivial)
  go_wp2_with fail
  refine (same_any _ r13 a13 (by omega)).mono ?_
  rw [show decide (([1, 0, 2] : List Int) = [1, 0, 2]) = true from rfl]
  rintro e w14 ⟨rfl, hb14'⟩
  have hb14 := hb13.trans (hb14'.mono hb13.size)
  go_wp2_with fail
  go_ret
  exact ⟨rfl, hb14⟩
end Go.Proofs.Ytgbeljgpnhpphaa
