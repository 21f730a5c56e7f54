/-
  The numbers of a source: plain words of 64 bits.
-/
namespace Rnd
abbrev W := BitVec 64
def golden : W := 0x9e3779b97f4a7c15#64
def first : W := 0xbf58476d1ce4e5b9#64
def second : W := 0x94d049bb133111eb#64
def shf (n : Nat) (x : W) : W := x ^^^ (x >>> n)
/-- The output of a state. -/
def mix (x : W) : W := shf 31 (shf 27 (shf 30 x * first) * second)
/-- The x whose shifted sum is y. -/
def unshf (n : Nat) (y : W) : Nat → W
  | 0 => y
  | k + 1 => y ^^^ (unshf n y k >>> n)
def newton (a : W) : Nat → W
  | 0 => a
  | k + 1 => newton a k * (2#64 - a * newton a k)
def unmix (y : W) : W := unshf 30 (unshf 27 (unshf 31 y 2 * newton second 6) 2 * newton first 6) 2
theorem inv_first : newton first 6 * first = 1#64 := by decide +kernel
theorem inv_second : newton second 6 * second = 1#64 := by decide +kernel
theorem unshf_two (n : Nat) (y : W) : unshf n y 2 = y ^^^ (y >>> n) ^^^ (y >>> (n + n)) := by
  show y ^^^ ((y ^^^ (y >>> n)) >>> n) = _
  rw [BitVec.ushiftRight_xor_distrib, ← BitVec.shiftRight_add, BitVec.xor_assoc]
theorem shr_zero (n : Nat) (hn : 64 ≤ n) (y : W) : y >>> n = 0#64 := by
  apply BitVec.eq_of_toNat_eq
  rw [BitVec.toNat_ushiftRight, Nat.shiftRight_eq_div_pow]
  have : y.toNat < 2 ^ n := Nat.lt_of_lt_of_le y.isLt (Nat.pow_le_pow_right (by omega) hn)
  simp [Nat.div_eq_of_lt this]
theorem shf_unshf (n : Nat) (hn : 64 ≤ 3 * n) (y : W) : shf n (unshf n y 2) = y := by
  have h3 := shr_zero (n + n + n) (by omega) y
  rw [unshf_two]
  unfold shf
  rw [BitVec.ushiftRight_xor_distrib, BitVec.ushiftRight_xor_distrib, ← BitVec.shiftRight_add, ← BitVec.shiftRight_add, h3]
  generalize y >>> n = b
  generalize y >>> (n + n) = c
  rw [BitVec.xor_zero, BitVec.xor_assoc y b c, BitVec.xor_assoc, BitVec.xor_self, BitVec.xor_zero]
theorem unshf_shf (n : Nat) (hn : 64 ≤ 3 * n) (y : W) : unshf n (shf n y) 2 = y := by
  have h3 := shr_zero (n + n + n) (by omega) y
  rw [unshf_two]
  unfold shf
  rw [BitVec.ushiftRight_xor_distrib, BitVec.ushiftRight_xor_distrib, ← BitVec.shiftRight_add, ← BitVec.shiftRight_add, ← Nat.add_assoc, h3]
  generalize y >>> n = b
  generalize y >>> (n + n) = c
  rw [BitVec.xor_zero, BitVec.xor_assoc, BitVec.xor_assoc b, BitVec.xor_self, BitVec.xor_zero, BitVec.xor_assoc, BitVec.xor_self, BitVec.xor_zero]
theorem unmix_mix (x : W) : unmix (mix x) = x := by
  unfold unmix mix
  rw [unshf_shf 31 (by omega), BitVec.mul_assoc, BitVec.mul_comm second, inv_second, BitVec.mul_one, unshf_shf 27 (by omega), BitVec.mul_assoc, BitVec.mul_comm first, inv_first, BitVec.mul_one, unshf_shf 30 (by omega)]
theorem mix_unmix (x : W) : mix (unmix x) = x := by
  unfold unmix mix
  rw [shf_unshf 30 (by omega), BitVec.mul_assoc, inv_first, BitVec.mul_one, shf_unshf 27 (by omega), BitVec.mul_assoc, inv_second, BitVec.mul_one, shf_unshf 31 (by omega)]
/-- The state behind n steps, and the output number n. -/
def state (s : W) (n : W) : W := s + n * golden
def out (s : W) (n : W) : W := mix (state s n)
theorem mix_zero : mix 0#64 = 0#64 := by decide +kernel
end Rnd
