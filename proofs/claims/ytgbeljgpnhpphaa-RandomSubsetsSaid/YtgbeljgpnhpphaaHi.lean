/-
  The high half of a product: Mul64, and the reference's High; Intn.
-/
import Derived.Test.YtgbeljgpnhpphaaSrc
import Derived.Lib.Mul64
namespace Rnd
/-- The high 64 bits of a product. -/
def hi (a b : Nat) : Nat := a * b / 18446744073709551616
theorem hi_lt (x : W) (b : Nat) (hb : 0 < b) : hi x.toNat b < b := by
  unfold hi
  rw [Nat.div_lt_iff_lt_mul (by omega), Nat.mul_comm b]
  exact Nat.mul_lt_mul_of_pos_right x.isLt hb
def low32 (x : W) : W := x &&& 4294967295#64
def mulhi (x y : W) : W := (x >>> 32) * (y >>> 32) + (((x >>> 32) * low32 y + (low32 x * low32 y) >>> 32) >>> 32) + (low32 ((x >>> 32) * low32 y + (low32 x * low32 y) >>> 32) + low32 x * (y >>> 32)) >>> 32
def refhi (x y : W) : W := (x >>> 32) * (y >>> 32) + (((x >>> 32) * low32 y + (low32 x * low32 y) >>> 32) >>> 32) + (low32 x * (y >>> 32) + low32 ((x >>> 32) * low32 y + (low32 x * low32 y) >>> 32)) >>> 32
theorem refhi_eq (x y : W) : refhi x y = mulhi x y := by
  unfold refhi mulhi
  rw [BitVec.add_comm (low32 x * (y >>> 32))]
theorem low32_toNat (x : W) : (low32 x).toNat = x.toNat % 4294967296 := by
  unfold low32
  rw [BitVec.toNat_and]
  exact Nat.and_two_pow_sub_one_eq_mod x.toNat 32
theorem shr32_toNat (x : W) : (x >>> 32).toNat = x.toNat / 4294967296 := by
  rw [BitVec.toNat_ushiftRight, Nat.shiftRight_eq_div_pow]
theorem mulhi_toNat (x y : W) : (mulhi x y).toNat = hi x.toNat y.toNat := by
  obtain ⟨bd, bt, bw, hh⟩ := Go.Lib.mul64_hi x.toNat y.toNat x.isLt y.isLt
  have bb := Go.Lib.half_mul_le (a := x.toNat / 4294967296) (b := y.toNat % 4294967296) (by have := x.isLt; omega) (by omega)
  have bc := Go.Lib.half_mul_le (a := x.toNat % 4294967296) (b := y.toNat / 4294967296) (by omega) (by have := y.isLt; omega)
  have ba := Go.Lib.half_mul_le (a := x.toNat / 4294967296) (b := y.toNat / 4294967296) (by have := x.isLt; omega) (by have := y.isLt; omega)
  unfold mulhi hi
  rw [← hh]
  simp only [BitVec.toNat_add, BitVec.toNat_mul, shr32_toNat, low32_toNat]
  generalize (x.toNat / 4294967296) * (y.toNat / 4294967296) = a at *
  generalize (x.toNat / 4294967296) * (y.toNat % 4294967296) = b at *
  generalize (x.toNat % 4294967296) * (y.toNat / 4294967296) = c at *
  generalize (x.toNat % 4294967296) * (y.toNat % 4294967296) = d at *
  omega
theorem mulhi_n64 (x y : W) : Go.Pl.n64 (mulhi x y) = (hi x.toNat y.toNat : Int) := by
  unfold Go.Pl.n64; rw [mulhi_toNat]
end Rnd
namespace Go.Proofs.Ytgbeljgpnhpphaa
open Go.RowKit Go.Pl
set_option maxHeartbeats 400000 in
theorem mul64_any (x y : BitVec 64) (v : Int) (hv : v = n64 y) (w : World) :
    Calls Try.prog 38 #[.int .u64 (n64 x), .int .u64 v] w fun e w' => e = .returned (.tuple #[.int .u64 (Rnd.hi x.toNat y.toNat : Int), .int .u64 (n64 (x * y))]) ∧ w = w' := by
  subst hv
  go_enter Try.func38, Try.ntmps38
  go_wp2
  go_ret2
  exact ⟨by rw [← Rnd.mulhi_n64]; rfl, rfl⟩
set_option maxHeartbeats 400000 in
theorem high_any (x y : BitVec 64) (v : Int) (hv : v = n64 y) (w : World) :
    Calls Try.prog 18 #[.int .u64 (n64 x), .int .u64 v] w fun e w' => e = .returned (.int .u64 (Rnd.hi x.toNat y.toNat : Int)) ∧ w = w' := by
  subst hv
  go_enter Try.func18, Try.ntmps18
  go_wp2
  go_ret
  exact ⟨by rw [← Rnd.mulhi_n64, ← Rnd.refhi_eq]; rfl, rfl⟩
theorem intn_any {p : Nat} {s : BitVec 64} (w : World) (hS : Src w p s) (n : Nat) (h1 : 1 ≤ n) (h2 : n ≤ 9223372036854775807) :
    Calls Try.prog 17 #[.pointer (some ⟨p, 0, none⟩), .int .i64 (n : Int)] w fun e w' => e = .returned (.int .i64 (Rnd.hi (Rnd.mix (s + Rnd.golden)).toNat n : Int)) ∧ Stepped w p (s + Rnd.golden) w' := by
  have hk := Rnd.hi_lt (Rnd.mix (s + Rnd.golden)) n (by omega)
  have hN : Hid ((n : Int) = n64 (BitVec.ofNat 64 n)) := by show _ = _; unfold n64; rw [BitVec.toNat_ofNat]; omega
  have hN' : Hid ((BitVec.ofNat 64 n).toNat = n) := by show _ = _; rw [BitVec.toNat_ofNat]; omega
  generalize hm : Rnd.mix (s + Rnd.golden) = m at *
  have hm' := Lib.hid hm
  clear hm
  have hk1 : (Rnd.hi m.toNat n : Int) ≤ 9223372036854775807 := by omega
  have hk0 : (0 : Int) ≤ (Rnd.hi m.toNat n : Int) := by omega
  clear hk
  go_enter Try.func17, Try.ntmps17
  go_wp2_with fail
  refine (next_any _ hS).mono ?_
  rw [hm'.out]
  rintro e w1 ⟨rfl, hs1⟩
  go_wp2_with fail
  refine (mul64_any m (BitVec.ofNat 64 n) _ hN.out _).mono ?_
  rw [hN'.out]
  rintro e w2 ⟨rfl, rfl⟩
  go_wp2_with fail
  go_ret
  exact ⟨rfl, hs1⟩
theorem intn_no {p : Nat} (w : World) (n : Int) (h1 : n < 1) :
    Calls Try.prog 17 #[.pointer (some ⟨p, 0, none⟩), .int .i64 n] w fun e w' => e = .returned (.int .i64 0) ∧ w = w' := by
  go_enter Try.func17, Try.ntmps17
  go_wp2_with fail
  go_ret
  exact ⟨rfl, rfl⟩
end Go.Proofs.Ytgbeljgpnhpphaa
