/-
  The encoding of numbers, in plain Lean.
-/
import Derived.Test.YtajohibeoicepaaDoorU64
namespace Wire
/-- At most k groups of seven bits. -/
def uintF : Nat → BitVec 64 → List UInt8
  | 0, _ => []
  | k + 1, n => if n.toNat < 128 then [UInt8.ofNat n.toNat] else UInt8.ofNat (n.toNat % 128 + 128) :: uintF k (n >>> 7)
def uint (n : BitVec 64) : List UInt8 := uintF 10 n
theorem length_uintF : ∀ (k : Nat) (n : BitVec 64), (uintF k n).length ≤ k
  | 0, _ => Nat.le_refl _
  | k + 1, n => by
    unfold uintF
    split
    · simp
    · have := length_uintF k (n >>> 7)
      simp; omega
theorem length_uint (n : BitVec 64) : (uint n).length ≤ 10 := length_uintF 10 n
theorem uintF_lt {k : Nat} {n : BitVec 64} (h : n.toNat < 128) : uintF (k + 1) n = [UInt8.ofNat n.toNat] := by rw [uintF, if_pos h]
theorem uintF_ge {k : Nat} {n : BitVec 64} (h : ¬ n.toNat < 128) : uintF (k + 1) n = UInt8.ofNat (n.toNat % 128 + 128) :: uintF k (n >>> 7) := by rw [uintF, if_neg h]
theorem shr7 (n : BitVec 64) : (n >>> 7).toNat = n.toNat / 128 := by rw [BitVec.toNat_ushiftRight, Nat.shiftRight_eq_div_pow]
/-- A number with sign, in zigzag form. -/
def zig (z : Int) : BitVec 64 := if 0 ≤ z then BitVec.ofInt 64 (2 * z) else BitVec.ofInt 64 (-2 * z - 1)
def int (z : Int) : List UInt8 := uint (zig z)
theorem length_int (z : Int) : (int z).length ≤ 10 := length_uint _
end Wire
namespace Go.Pl
/-- The lowest eight bits. -/
def lo8 (x : BitVec 64) : UInt8 := UInt8.ofBitVec (x.setWidth 8)
theorem lo8_toNat (x : BitVec 64) : (lo8 x).toNat = x.toNat % 256 := by
  show (x.setWidth 8).toNat = _
  rw [BitVec.toNat_setWidth]
theorem lo8_eq (x : BitVec 64) : lo8 x = UInt8.ofNat x.toNat := by
  apply UInt8.toNat_inj.1
  rw [lo8_toNat, UInt8.toNat_ofNat']
theorem or128_all : ∀ b : Fin 256, UInt8.ofNat b.val ||| 128 = UInt8.ofNat (b.val % 128 + 128) := by decide +kernel
theorem lo8_or (x : BitVec 64) : lo8 x ||| 128 = UInt8.ofNat (x.toNat % 128 + 128) := by
  have h := or128_all ⟨(lo8 x).toNat, (lo8 x).toNat_lt⟩
  rw [UInt8.ofNat_toNat] at h
  rw [h]
  congr 2
  show (lo8 x).toNat % 128 = _
  rw [lo8_toNat]; omega
theorem lo8_add (x : BitVec 64) : lo8 (x % 128#64) + 128 = UInt8.ofNat (x.toNat % 128 + 128) := by
  apply UInt8.toNat_inj.1
  rw [UInt8.toNat_add, lo8_toNat, BitVec.toNat_umod, UInt8.toNat_ofNat']
  show (x.toNat % 128 % 256 + 128) % 256 = _
  omega
theorem wrap_u8 (b : UInt8) : IntKind.u8.wrap (b.toNat : Int) = (b.toNat : Int) := by
  have := b.toNat_lt
  rw [IntKind.wrap_u8]; omega
theorem ofInt_u8 (b : UInt8) : BitVec.ofInt 8 (b.toNat : Int) = b.toBitVec := by
  rw [BitVec.ofInt_natCast]
  exact BitVec.eq_of_toNat_eq (by simp)
@[go_sem high] theorem convert_u64_u8 {P : Program} (w : World) (src dst : TypeId) (x : BitVec 64) (hs : (P.underlying src).isSome = true)
    (hd : P.underlying dst = some (.int .u8)) : (convert src dst (.int .u64 (n64 x))).run P w = .ok (.int .u8 ((lo8 x).toNat : Int)) w := by
  obtain ⟨d, hd'⟩ := Option.isSome_iff_exists.mp hs
  have e : IntKind.u8.wrap (n64 x) = ((lo8 x).toNat : Int) := by
    rw [lo8_toNat, IntKind.wrap_u8]; unfold n64; omega
  simp [convert, run_underlying hd', run_underlying hd, Conv.intToInt, e]
@[go_sem high] theorem byte_or128 (t : TypeId) (b : UInt8) : binOp .or t (.int .u8 (b.toNat : Int)) (.int .u8 128) = pure (.int .u8 ((b ||| 128).toNat : Int)) := by
  show Op.intBits .or .u8 (b.toNat : Int) ((128 : UInt8).toNat : Int) = _
  rw [intBits_or]
  show pure (Value.int .u8 (IntKind.u8.wrap ((BitVec.ofInt 8 (b.toNat : Int) ||| BitVec.ofInt 8 ((128 : UInt8).toNat : Int)).toNat : Int))) = _
  rw [ofInt_u8, ofInt_u8, ← UInt8.toBitVec_or]
  exact congrArg _ (congrArg _ (wrap_u8 (b ||| 128)))
@[go_sem high] theorem byte_xor (t : TypeId) (a b : UInt8) : binOp .xor t (.int .u8 (a.toNat : Int)) (.int .u8 (b.toNat : Int)) = pure (.int .u8 ((a ^^^ b).toNat : Int)) := by
  show Op.intBits .xor .u8 (a.toNat : Int) (b.toNat : Int) = _
  rw [intBits_xor]
  show pure (Value.int .u8 (IntKind.u8.wrap ((BitVec.ofInt 8 (a.toNat : Int) ^^^ BitVec.ofInt 8 (b.toNat : Int)).toNat : Int))) = _
  rw [ofInt_u8, ofInt_u8, ← UInt8.toBitVec_xor]
  exact congrArg _ (congrArg _ (wrap_u8 (a ^^^ b)))
@[go_sem high] theorem byte_add128 (t : TypeId) (b : UInt8) : binOp .add t (.int .u8 (b.toNat : Int)) (.int .u8 128) = pure (.int .u8 ((b + 128).toNat : Int)) := by
  show pure (Value.int .u8 (IntKind.u8.wrap ((b.toNat : Int) + 128))) = _
  congr 2
theorem wrap_ofInt (z : Int) : IntKind.u64.wrap z = n64 (BitVec.ofInt 64 z) := by
  rw [IntKind.wrap_u64]; unfold n64; rw [BitVec.toNat_ofInt]; omega
@[go_sem high] theorem convert_i64_u64 {P : Program} (w : World) (src dst : TypeId) (z : Int) (hs : (P.underlying src).isSome = true)
    (hd : P.underlying dst = some (.int .u64)) : (convert src dst (.int .i64 z)).run P w = .ok (.int .u64 (n64 (BitVec.ofInt 64 z))) w := by
  obtain ⟨d, hd'⟩ := Option.isSome_iff_exists.mp hs
  simp [convert, run_underlying hd', run_underlying hd, Conv.intToInt, wrap_ofInt]
theorem zig_word (z : Int) (h0 : -9223372036854775808 ≤ z) (h1 : z ≤ 9223372036854775807) : BitVec.ofInt 64 z <<< 1 ^^^ BitVec.ofInt 64 (z / 9223372036854775808) = Wire.zig z := by
  have hs : BitVec.ofInt 64 z <<< 1 = BitVec.ofInt 64 (2 * z) := by
    apply BitVec.eq_of_toNat_eq
    rw [BitVec.toNat_shiftLeft, BitVec.toNat_ofInt, BitVec.toNat_ofInt, Nat.shiftLeft_eq]
    omega
  unfold Wire.zig
  by_cases h : 0 ≤ z
  · rw [if_pos h, show z / 9223372036854775808 = 0 by omega, hs]
    simp
  · rw [if_neg h, show z / 9223372036854775808 = -1 by omega, hs]
    have e : BitVec.ofInt 64 (-1) = BitVec.allOnes 64 := by decide
    rw [e, BitVec.xor_allOnes]
    apply BitVec.eq_of_toNat_eq
    rw [BitVec.toNat_not, BitVec.toNat_ofInt, BitVec.toNat_ofInt]
    omega
end Go.Pl
