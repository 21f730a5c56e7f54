/-
  The source: New, Next, Skip, Split.
-/
import Derived.Test.YtgbeljgpnhpphaaMix
import Derived.Handy
namespace Go.Proofs.Ytgbeljgpnhpphaa
open Go.RowKit Go.Pl
/-- A source with the state s lies in block p. -/
def Src (w : World) (p : Nat) (s : BitVec 64) : Prop := Blk w p 55 #[.int .u64 (n64 s)]
theorem Src.lt {w : World} {p : Nat} {s : BitVec 64} (h : Src w p s) : p < w.heap.size := Blk.lt h
theorem Src.fr {F : Nat → Prop} {w w' : World} {p : Nat} {s : BitVec 64} (h : Src w p s) (hf : Fr F w w') (hn : ¬ F p) : Src w' p s := Blk.fr h hf hn
theorem Src.below {w w' : World} {p : Nat} {s : BitVec 64} (h : Src w p s) (hb : Below w.heap.size w w') : Src w' p s := h.fr (Fr.of_below (F := fun _ => False) hb) (fun h => h)
def Sourced (w : World) (s : BitVec 64) (e : Ending) (w' : World) : Prop := ∃ p, e = .returned (.pointer (some ⟨p, 0, none⟩)) ∧ w.heap.size ≤ p ∧ Src w' p s ∧ Below w.heap.size w w'
theorem new_any (s : BitVec 64) (w : World) : Calls Try.prog 13 #[.int .u64 (n64 s)] w fun e w' => Sourced w s e w' := by
  go_enter Try.func13, Try.ntmps13
  go_wp2
  go_ret
  exact ⟨_, rfl, Nat.le_refl _, Blk.new w _ _, (Below.refl _ _).alloc (Nat.le_refl _) _⟩
def Stepped (w : World) (p : Nat) (s : BitVec 64) (w' : World) : Prop := Src w' p s ∧ Fr (fun i => i = p) w w'
theorem next_any {p : Nat} {s : BitVec 64} (w : World) (hS : Src w p s) :
    Calls Try.prog 14 #[.pointer (some ⟨p, 0, none⟩)] w fun e w' => e = .returned (.int .u64 (n64 (Rnd.mix (s + Rnd.golden)))) ∧ Stepped w p (s + Rnd.golden) w' := by
  have c0 : w.cell? ⟨p, 0, none⟩ = some (.int .u64 (n64 s)) := (Blk.cell hS 0).trans rfl
  have f0 : w.frozen? ⟨p, 0, none⟩ = false := Blk.frozen hS 0
  have hst : Stepped w p (s + Rnd.golden) (w.setCell ⟨p, 0, none⟩ (.int .u64 (n64 (s + Rnd.golden)))) := ⟨Blk.set_ hS 0 _, (Fr.refl (fun i => i = p) w).setCell (p := ⟨p, 0, none⟩) (.inl rfl) _⟩
  have hst' := Lib.hid hst
  clear hst
  go_enter Try.func14, Try.ntmps14
  go_wp2_with fail
  refine (mix_any _ _).mono ?_
  rintro e w1 ⟨rfl, rfl⟩
  go_wp2_with fail
  go_ret
  exact ⟨rfl, hst'.out⟩
theorem skip_any {p : Nat} {s : BitVec 64} (w : World) (hS : Src w p s) (n : BitVec 64) :
    Calls Try.prog 28 #[.pointer (some ⟨p, 0, none⟩), .int .u64 (n64 n)] w fun e w' => e = .returned undef ∧ Stepped w p (s + n * Rnd.golden) w' := by
  have c0 : w.cell? ⟨p, 0, none⟩ = some (.int .u64 (n64 s)) := (Blk.cell hS 0).trans rfl
  have f0 : w.frozen? ⟨p, 0, none⟩ = false := Blk.frozen hS 0
  have hst : Stepped w p (s + n * Rnd.golden) (w.setCell ⟨p, 0, none⟩ (.int .u64 (n64 (s + n * Rnd.golden)))) := ⟨Blk.set_ hS 0 _, (Fr.refl (fun i => i = p) w).setCell (p := ⟨p, 0, none⟩) (.inl rfl) _⟩
  have hst' := Lib.hid hst
  clear hst
  go_enter Try.func28, Try.ntmps28
  go_wp2_with fail
  go_returns
  exact ⟨rfl, hst'.out⟩
theorem split_any {p : Nat} {s : BitVec 64} (w : World) (hS : Src w p s) :
    Calls Try.prog 29 #[.pointer (some ⟨p, 0, none⟩)] w fun e w' => ∃ w1, Stepped w p (s + Rnd.golden) w1 ∧ Sourced w1 (Rnd.mix (s + Rnd.golden)) e w' := by
  go_enter Try.func29, Try.ntmps29
  go_wp2_with fail
  refine (next_any _ hS).mono ?_
  rintro e w1 ⟨rfl, hs1⟩
  go_wp2_with fail
  refine (new_any _ _).mono ?_
  rintro e w2 ⟨q, rfl, hq⟩
  go_wp2_with fail
  go_ret
  exact ⟨w1, hs1, q, rfl, hq⟩
/-- How far the loop of unshift is. -/
def Shifted (n : Nat) (x : BitVec 64) (t5 t6 : Value) : Prop := ∃ j : Nat, j ≤ 2 ∧ t6 = .int .i64 ((n * (j + 1) : Nat) : Int) ∧ t5 = .int .u64 (n64 (Rnd.unshf n x j))
theorem unshift_any (x : BitVec 64) (n : Nat) (h1 : 2 * n < 64) (h2 : 64 ≤ 3 * n) (w : World) :
    Calls Try.prog 41 #[.int .u64 (n64 x), .int .i64 (n : Int)] w fun e w' => e = .returned (.int .u64 (n64 (Rnd.unshf n x 2))) ∧ w = w' := by
  have hn0 : (0 : Int) ≤ (n : Int) := by omega
  have hn64 : (n : Int) ≤ 64 := by omega
  go_enter Try.func41, Try.ntmps41
  go_wp2
  go_loop [5, 6] (Shifted n x) (fun _ t6 => 200 - (intOf t6).toNat)
  case atStart => exact ⟨0, by omega, by rw [Nat.zero_add, Nat.mul_one], rfl⟩
  case round =>
    obtain ⟨j, hj, rfl, rfl⟩ := hrel
    obtain rfl | rfl | rfl : j = 0 ∨ j = 1 ∨ j = 2 := by omega
    · have hm : n * (0 + 1) = n := by omega
      rw [hm]
      clear hm
      go_wp2
      go_round
      case rel => exact ⟨1, by omega, by rw [show n * (1 + 1) = n + n by omega]; go_num, rfl⟩
      case measure => simp [intOf]; omega
    · have hm : n * (1 + 1) = n + n := by omega
      rw [hm]
      clear hm
      go_wp2
      go_round
      case rel => exact ⟨2, by omega, by rw [show n * (2 + 1) = n + n + n by omega]; go_num, rfl⟩
      case measure => simp [intOf]; omega
    · have hm : n * (2 + 1) = n + n + n := by omega
      rw [hm]
      clear hm
      go_wp2
      go_ret
      exact ⟨rfl, rfl⟩
theorem inverse_any (x : BitVec 64) (w : World) :
    Calls Try.prog 42 #[.int .u64 (n64 x)] w fun e w' => e = .returned (.int .u64 (n64 (Rnd.newton x 6))) ∧ w = w' := by
  go_enter Try.func42, Try.ntmps42
  go_wp2
  go_loop [3, 5] (fun t3 t5 => ∃ j : Nat, j ≤ 6 ∧ t5 = .int .i64 (j : Int) ∧ t3 = .int .u64 (n64 (Rnd.newton x j))) (fun _ t5 => 6 - (intOf t5).toNat)
  case atStart => exact ⟨0, by omega, rfl, rfl⟩
  case round =>
    obtain ⟨j, hj, rfl, rfl⟩ := hrel
    by_cases hlt : j < 6
    · go_wp2
      go_round
      case rel => exact ⟨j + 1, by omega, by go_num, rfl⟩
      case measure => simp [intOf]; omega
    · obtain rfl : j = 6 := by omega
      go_wp2
      go_ret
      exact ⟨rfl, rfl⟩
theorem unmix_any (x : BitVec 64) (w : World) :
    Calls Try.prog 32 #[.int .u64 (n64 x)] w fun e w' => e = .returned (.int .u64 (n64 (Rnd.unmix x))) ∧ w = w' := by
  have hs : (10723151780598845931 : Int) = n64 Rnd.second := by decide +kernel
  have hf : (13787848793156543929 : Int) = n64 Rnd.first := by decide +kernel
  have hs' := Lib.hid hs
  have hf' := Lib.hid hf
  clear hs hf
  go_enter Try.func32, Try.ntmps32
  go_wp2_with fail
  refine (unshift_any x 31 (by omega) (by omega) _).mono ?_
  rintro e w1 ⟨rfl, rfl⟩
  go_wp2_with fail
  rw [hs'.out]
  refine (inverse_any _ _).mono ?_
  rintro e w1 ⟨rfl, rfl⟩
  go_wp2_with fail
  refine (unshift_any _ 27 (by omega) (by omega) _).mono ?_
  rintro e w1 ⟨rfl, rfl⟩
  go_wp2_with fail
  rw [hf'.out]
  refine (inverse_any _ _).mono ?_
  rintro e w1 ⟨rfl, rfl⟩
  go_wp2_with fail
  refine (unshift_any _ 30 (by omega) (by omega) _).mono ?_
  rintro e w1 ⟨rfl, rfl⟩
  go_wp2_with fail
  go_ret
  exact ⟨rfl, rfl⟩
end Go.Proofs.Ytgbeljgpnhpphaa
