import Derived.WalkKit
namespace Go.Pl
/-- A word as the model's number: behind a name, so that simp keeps it whole. -/
def n32 (x : BitVec 32) : Int := (x.toNat : Int)
theorem n32_nonneg (x : BitVec 32) : 0 ≤ n32 x := Int.natCast_nonneg _
theorem n32_lt (x : BitVec 32) : n32 x < 4294967296 := by unfold n32; have := x.isLt; omega
theorem ofInt_n32 (x : BitVec 32) : BitVec.ofInt 32 (n32 x) = x := by
  unfold n32; rw [BitVec.ofInt_natCast, BitVec.ofNat_toNat, BitVec.setWidth_eq]
theorem wrap_n32 (n : Nat) : IntKind.u32.wrap (n : Int) = n32 (BitVec.ofNat 32 n) := by
  rw [IntKind.wrap_u32, n32, BitVec.toNat_ofNat]; omega
theorem back_n32 (x : BitVec 32) : IntKind.u32.wrap (x.toNat : Int) = n32 x := by
  rw [wrap_n32, BitVec.ofNat_toNat, BitVec.setWidth_eq]
section
variable (t : TypeId) (x y : BitVec 32)
@[go_sem high] theorem u32_xor : binOp .xor t (.int .u32 (n32 x)) (.int .u32 (n32 y)) = pure (.int .u32 (n32 (x ^^^ y))) := by
  show Op.intBits .xor .u32 (n32 x) (n32 y) = _
  rw [intBits_xor]
  show pure (Value.int .u32 (IntKind.u32.wrap ((BitVec.ofInt 32 (n32 x) ^^^ BitVec.ofInt 32 (n32 y)).toNat : Int))) = _
  rw [ofInt_n32, ofInt_n32, back_n32]
@[go_sem high] theorem u32_and : binOp .and t (.int .u32 (n32 x)) (.int .u32 (n32 y)) = pure (.int .u32 (n32 (x &&& y))) := by
  show Op.intBits .and .u32 (n32 x) (n32 y) = _
  rw [intBits_and]
  show pure (Value.int .u32 (IntKind.u32.wrap ((BitVec.ofInt 32 (n32 x) &&& BitVec.ofInt 32 (n32 y)).toNat : Int))) = _
  rw [ofInt_n32, ofInt_n32, back_n32]
@[go_sem high] theorem u32_or : binOp .or t (.int .u32 (n32 x)) (.int .u32 (n32 y)) = pure (.int .u32 (n32 (x ||| y))) := by
  show Op.intBits .or .u32 (n32 x) (n32 y) = _
  rw [intBits_or]
  show pure (Value.int .u32 (IntKind.u32.wrap ((BitVec.ofInt 32 (n32 x) ||| BitVec.ofInt 32 (n32 y)).toNat : Int))) = _
  rw [ofInt_n32, ofInt_n32, back_n32]
@[go_sem high] theorem u32_add : binOp .add t (.int .u32 (n32 x)) (.int .u32 (n32 y)) = pure (.int .u32 (n32 (x + y))) := by
  show Op.intArith .add .u32 (n32 x) (n32 y) = _
  show pure (Value.int .u32 (IntKind.u32.wrap (n32 x + n32 y))) = _
  have : n32 x + n32 y = ((x.toNat + y.toNat : Nat) : Int) := by unfold n32; omega
  rw [this, wrap_n32, BitVec.ofNat_add, BitVec.ofNat_toNat, BitVec.ofNat_toNat, BitVec.setWidth_eq, BitVec.setWidth_eq]
@[go_sem high] theorem u32_not : Op.unary .xor (.int .u32 (n32 x)) = pure (.int .u32 (n32 (~~~x))) := by
  show Op.intBits .xor .u32 IntKind.u32.max (n32 x) = _
  rw [intBits_xor]
  show pure (Value.int .u32 (IntKind.u32.wrap ((BitVec.ofInt 32 IntKind.u32.max ^^^ BitVec.ofInt 32 (n32 x)).toNat : Int))) = _
  have h : BitVec.ofInt 32 IntKind.u32.max = BitVec.allOnes 32 := by decide
  rw [ofInt_n32, h, BitVec.allOnes_xor, back_n32]
theorem n32_shr (n : Nat) : n32 x / 2 ^ n = n32 (x >>> n) := by
  unfold n32
  rw [BitVec.toNat_ushiftRight, Nat.shiftRight_eq_div_pow, Int.natCast_ediv]
  simp
theorem n32_shl (n : Nat) : IntKind.u32.wrap (n32 x * 2 ^ n) = n32 (x <<< n) := by
  have : n32 x * 2 ^ n = ((x.toNat * 2 ^ n : Nat) : Int) := by unfold n32; simp
  rw [this, wrap_n32]
  congr 1
  apply BitVec.eq_of_toNat_eq
  rw [BitVec.toNat_ofNat, BitVec.toNat_shiftLeft, Nat.shiftLeft_eq]
@[go_sem high] theorem u32_shr (k : IntKind) (n : Int) (h0 : 0 ≤ n) (h1 : n ≤ 32) : binOp .shr t (.int .u32 (n32 x)) (.int k n) = pure (.int .u32 (n32 (x >>> n.toNat))) := by
  rw [binOp_shr, shift_shr_u32 k _ n h0 h1, n32_shr]
@[go_sem high] theorem u32_shl (k : IntKind) (n : Int) (h0 : 0 ≤ n) (h1 : n ≤ 32) : binOp .shl t (.int .u32 (n32 x)) (.int k n) = pure (.int .u32 (n32 (x <<< n.toNat))) := by
  rw [binOp_shl, shift_shl_u32 k _ n h0 h1, n32_shl]
end
end Go.Pl
