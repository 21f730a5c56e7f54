/-
  Numbers of 64 bits in a walk.
-/
import Derived.WalkKit
import Derived.Laws.Bits64
namespace Go.Pl
/-- A word as the model's number: behind a name, so that simp keeps it whole. -/
def n64 (x : BitVec 64) : Int := (x.toNat : Int)
theorem n64_nonneg (x : BitVec 64) : 0 ≤ n64 x := Int.natCast_nonneg _
theorem n64_lt (x : BitVec 64) : n64 x < 18446744073709551616 := by unfold n64; have := x.isLt; omega
theorem ofInt_n64 (x : BitVec 64) : BitVec.ofInt 64 (n64 x) = x := by
  unfold n64; rw [BitVec.ofInt_natCast, BitVec.ofNat_toNat, BitVec.setWidth_eq]
theorem wrap_n64 (n : Nat) : IntKind.u64.wrap (n : Int) = n64 (BitVec.ofNat 64 n) := by
  rw [IntKind.wrap_u64, n64, BitVec.toNat_ofNat]; omega
theorem back_n64 (x : BitVec 64) : IntKind.u64.wrap (x.toNat : Int) = n64 x := by
  rw [wrap_n64, BitVec.ofNat_toNat, BitVec.setWidth_eq]
section
variable (t : TypeId) (x y : BitVec 64)
@[go_sem high] theorem u64_xor : binOp .xor t (.int .u64 (n64 x)) (.int .u64 (n64 y)) = pure (.int .u64 (n64 (x ^^^ y))) := by
  show Op.intBits .xor .u64 (n64 x) (n64 y) = _
  rw [intBits_xor]
  show pure (Value.int .u64 (IntKind.u64.wrap ((BitVec.ofInt 64 (n64 x) ^^^ BitVec.ofInt 64 (n64 y)).toNat : Int))) = _
  rw [ofInt_n64, ofInt_n64, back_n64]
@[go_sem high] theorem u64_and : binOp .and t (.int .u64 (n64 x)) (.int .u64 (n64 y)) = pure (.int .u64 (n64 (x &&& y))) := by
  show Op.intBits .and .u64 (n64 x) (n64 y) = _
  rw [intBits_and]
  show pure (Value.int .u64 (IntKind.u64.wrap ((BitVec.ofInt 64 (n64 x) &&& BitVec.ofInt 64 (n64 y)).toNat : Int))) = _
  rw [ofInt_n64, ofInt_n64, back_n64]
@[go_sem high] theorem u64_or : binOp .or t (.int .u64 (n64 x)) (.int .u64 (n64 y)) = pure (.int .u64 (n64 (x ||| y))) := by
  show Op.intBits .or .u64 (n64 x) (n64 y) = _
  rw [intBits_or]
  show pure (Value.int .u64 (IntKind.u64.wrap ((BitVec.ofInt 64 (n64 x) ||| BitVec.ofInt 64 (n64 y)).toNat : Int))) = _
  rw [ofInt_n64, ofInt_n64, back_n64]
@[go_sem high] theorem u64_add : binOp .add t (.int .u64 (n64 x)) (.int .u64 (n64 y)) = pure (.int .u64 (n64 (x + y))) := by
  show Op.intArith .add .u64 (n64 x) (n64 y) = _
  show pure (Value.int .u64 (IntKind.u64.wrap (n64 x + n64 y))) = _
  have : n64 x + n64 y = ((x.toNat + y.toNat : Nat) : Int) := by unfold n64; omega
  rw [this, wrap_n64, BitVec.ofNat_add, BitVec.ofNat_toNat, BitVec.ofNat_toNat, BitVec.setWidth_eq, BitVec.setWidth_eq]
@[go_sem high] theorem u64_sub : binOp .sub t (.int .u64 (n64 x)) (.int .u64 (n64 y)) = pure (.int .u64 (n64 (x - y))) := by
  show Op.intArith .sub .u64 (n64 x) (n64 y) = _
  show pure (Value.int .u64 (IntKind.u64.wrap (n64 x - n64 y))) = _
  congr 2
  rw [IntKind.wrap_u64]
  unfold n64
  rw [BitVec.toNat_sub]
  have := x.isLt
  have := y.isLt
  omega
@[go_sem high] theorem u64_mul : binOp .mul t (.int .u64 (n64 x)) (.int .u64 (n64 y)) = pure (.int .u64 (n64 (x * y))) := by
  show Op.intArith .mul .u64 (n64 x) (n64 y) = _
  show pure (Value.int .u64 (IntKind.u64.wrap (n64 x * n64 y))) = _
  have : n64 x * n64 y = ((x.toNat * y.toNat : Nat) : Int) := by unfold n64; simp
  rw [this, wrap_n64, BitVec.ofNat_mul, BitVec.ofNat_toNat, BitVec.ofNat_toNat, BitVec.setWidth_eq, BitVec.setWidth_eq]
@[go_sem high] theorem u64_not : Op.unary .xor (.int .u64 (n64 x)) = pure (.int .u64 (n64 (~~~x))) := by
  show Op.intBits .xor .u64 IntKind.u64.max (n64 x) = _
  rw [intBits_xor]
  show pure (Value.int .u64 (IntKind.u64.wrap ((BitVec.ofInt 64 IntKind.u64.max ^^^ BitVec.ofInt 64 (n64 x)).toNat : Int))) = _
  have h : BitVec.ofInt 64 IntKind.u64.max = BitVec.allOnes 64 := by decide
  rw [ofInt_n64, h, BitVec.allOnes_xor, back_n64]
theorem n64_shr (n : Nat) : n64 x / 2 ^ n = n64 (x >>> n) := by
  unfold n64
  rw [BitVec.toNat_ushiftRight, Nat.shiftRight_eq_div_pow, Int.natCast_ediv]
  simp
theorem n64_shl (n : Nat) : IntKind.u64.wrap (n64 x * 2 ^ n) = n64 (x <<< n) := by
  have : n64 x * 2 ^ n = ((x.toNat * 2 ^ n : Nat) : Int) := by unfold n64; simp
  rw [this, wrap_n64]
  congr 1
  apply BitVec.eq_of_toNat_eq
  rw [BitVec.toNat_ofNat, BitVec.toNat_shiftLeft, Nat.shiftLeft_eq]
@[go_sem high] theorem u64_shr (k : IntKind) (n : Int) (h0 : 0 ≤ n) (h1 : n ≤ 64) : binOp .shr t (.int .u64 (n64 x)) (.int k n) = pure (.int .u64 (n64 (x >>> n.toNat))) := by
  rw [binOp_shr, shift_shr_u64 k _ n h0 h1, n64_shr]
@[go_sem high] theorem u64_shl (k : IntKind) (n : Int) (h0 : 0 ≤ n) (h1 : n ≤ 64) : binOp .shl t (.int .u64 (n64 x)) (.int k n) = pure (.int .u64 (n64 (x <<< n.toNat))) := by
  rw [binOp_shl, shift_shl_u64 k _ n h0 h1, n64_shl]
variable (c : Nat)
theorem lit_n64 : IntKind.u64.wrap (OfNat.ofNat c : Int) = n64 (BitVec.ofNat 64 c) := wrap_n64 c
@[go_sem high] theorem u64_add_lit : binOp .add t (.int .u64 (n64 x)) (.int .u64 (no_index (OfNat.ofNat c))) = pure (.int .u64 (n64 (x + BitVec.ofNat 64 c))) := by
  show pure (Value.int .u64 (IntKind.u64.wrap (n64 x + (c : Int)))) = _
  have : n64 x + (c : Int) = ((x.toNat + c : Nat) : Int) := by unfold n64; omega
  rw [this, wrap_n64, BitVec.ofNat_add, BitVec.ofNat_toNat, BitVec.setWidth_eq]
@[go_sem high] theorem u64_mul_lit : binOp .mul t (.int .u64 (n64 x)) (.int .u64 (no_index (OfNat.ofNat c))) = pure (.int .u64 (n64 (x * BitVec.ofNat 64 c))) := by
  show pure (Value.int .u64 (IntKind.u64.wrap (n64 x * (c : Int)))) = _
  have : n64 x * (c : Int) = ((x.toNat * c : Nat) : Int) := by unfold n64; simp
  rw [this, wrap_n64, BitVec.ofNat_mul, BitVec.ofNat_toNat, BitVec.setWidth_eq]
@[go_sem high] theorem u64_sub_lit : binOp .sub t (.int .u64 (n64 x)) (.int .u64 (no_index (OfNat.ofNat c))) = pure (.int .u64 (n64 (x - BitVec.ofNat 64 c))) := by
  show pure (Value.int .u64 (IntKind.u64.wrap (n64 x - (c : Int)))) = _
  congr 2
  rw [IntKind.wrap_u64]
  unfold n64
  rw [BitVec.toNat_sub, BitVec.toNat_ofNat]
  have := x.isLt
  omega
@[go_sem high] theorem u64_lit_sub : binOp .sub t (.int .u64 (no_index (OfNat.ofNat c))) (.int .u64 (n64 x)) = pure (.int .u64 (n64 (BitVec.ofNat 64 c - x))) := by
  show pure (Value.int .u64 (IntKind.u64.wrap ((c : Int) - n64 x))) = _
  congr 2
  rw [IntKind.wrap_u64]
  unfold n64
  rw [BitVec.toNat_sub, BitVec.toNat_ofNat]
  have := x.isLt
  omega
@[go_sem high] theorem u64_and_lit (h : c < 18446744073709551616) : binOp .and t (.int .u64 (n64 x)) (.int .u64 (no_index (OfNat.ofNat c))) = pure (.int .u64 (n64 (x &&& BitVec.ofNat 64 c))) := by
  have : (OfNat.ofNat c : Int) = n64 (BitVec.ofNat 64 c) := by
    unfold n64; rw [BitVec.toNat_ofNat, Nat.mod_eq_of_lt h]; rfl
  rw [this, u64_and]
@[go_sem high] theorem u64_mul_nat : binOp .mul t (.int .u64 (n64 x)) (.int .u64 (Nat.cast c)) = pure (.int .u64 (n64 (x * BitVec.ofNat 64 c))) := u64_mul_lit t x c
@[go_sem high] theorem u64_add_nat : binOp .add t (.int .u64 (n64 x)) (.int .u64 (Nat.cast c)) = pure (.int .u64 (n64 (x + BitVec.ofNat 64 c))) := u64_add_lit t x c
@[go_sem high] theorem u64_nat_mul : binOp .mul t (.int .u64 (Nat.cast c)) (.int .u64 (n64 x)) = pure (.int .u64 (n64 (BitVec.ofNat 64 c * x))) := by
  show pure (Value.int .u64 (IntKind.u64.wrap ((c : Int) * n64 x))) = _
  have : (c : Int) * n64 x = ((c * x.toNat : Nat) : Int) := by unfold n64; simp
  rw [this, wrap_n64, BitVec.ofNat_mul, BitVec.ofNat_toNat, BitVec.setWidth_eq]
@[go_sem high] theorem u64_quo (h : y ≠ 0#64) : binOp .quo t (.int .u64 (n64 x)) (.int .u64 (n64 y)) = pure (.int .u64 (n64 (x / y))) := by
  have hy : n64 y ≠ 0 := by
    unfold n64
    intro e
    exact h (BitVec.eq_of_toNat_eq (by simp; omega))
  show Op.intDiv .quo .u64 (n64 x) (n64 y) = _
  unfold Op.intDiv
  rw [if_neg hy]
  have e : (n64 x).tdiv (n64 y) = ((x / y).toNat : Int) := by
    rw [BitVec.toNat_udiv]; rfl
  show pure (Value.int .u64 (IntKind.u64.wrap ((n64 x).tdiv (n64 y)))) = _
  rw [e, back_n64]
@[go_sem high] theorem u64_rem (h : y ≠ 0#64) : binOp .rem t (.int .u64 (n64 x)) (.int .u64 (n64 y)) = pure (.int .u64 (n64 (x % y))) := by
  have hy : n64 y ≠ 0 := by
    unfold n64
    intro e
    exact h (BitVec.eq_of_toNat_eq (by simp; omega))
  show Op.intDiv .rem .u64 (n64 x) (n64 y) = _
  unfold Op.intDiv
  rw [if_neg hy]
  have e : (n64 x).tmod (n64 y) = ((x % y).toNat : Int) := by
    rw [BitVec.toNat_umod]; rfl
  show pure (Value.int .u64 ((n64 x).tmod (n64 y))) = _
  rw [e]
  rfl
end
end Go.Pl
