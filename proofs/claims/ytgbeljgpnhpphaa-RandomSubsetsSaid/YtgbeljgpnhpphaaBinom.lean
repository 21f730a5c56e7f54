/-
  Binomial coefficients.
-/
namespace Rnd
def binom : Nat → Nat → Nat
  | _, 0 => 1
  | 0, _ + 1 => 0
  | n + 1, k + 1 => binom n k + binom n (k + 1)
theorem binom_zero (n : Nat) : binom n 0 = 1 := by cases n <;> rfl
theorem binom_succ (n k : Nat) : binom (n + 1) (k + 1) = binom n k + binom n (k + 1) := rfl
theorem binom_big : ∀ (n k : Nat), n < k → binom n k = 0
  | 0, k + 1, _ => rfl
  | n + 1, k + 1, h => by rw [binom_succ, binom_big n k (by omega), binom_big n (k + 1) (by omega)]
theorem binom_self : ∀ n, binom n n = 1
  | 0 => rfl
  | n + 1 => by rw [binom_succ, binom_self n, binom_big n (n + 1) (by omega)]
theorem binom_pair_le : ∀ (n k : Nat), binom n k ≤ 2 ^ n
  | n, 0 => by rw [binom_zero]; exact Nat.one_le_two_pow
  | 0, k + 1 => by simp [binom]
  | n + 1, k + 1 => by rw [binom_succ, Nat.pow_succ]; have := binom_pair_le n k; have := binom_pair_le n (k + 1); omega
theorem binom_le (n k : Nat) (h : n ≤ 60) : binom n k ≤ 1152921504606846976 :=
  Nat.le_trans (binom_pair_le n k) (Nat.le_trans (Nat.pow_le_pow_right (by omega) h) (by decide))
theorem binom_symm : ∀ (n k : Nat), k ≤ n → binom n (n - k) = binom n k
  | 0, k, h => by obtain rfl : k = 0 := by omega
                  rfl
  | n + 1, 0, _ => by rw [Nat.sub_zero, binom_self, binom_zero]
  | n + 1, k + 1, h => by
    by_cases hk : k = n
    · subst hk; rw [Nat.sub_self, binom_zero, binom_self]
    · have e : n + 1 - (k + 1) = (n - (k + 1)) + 1 := by omega
      rw [e, binom_succ, binom_succ, binom_symm n (k + 1) (by omega), show n - (k + 1) + 1 = n - k by omega, binom_symm n k (by omega), Nat.add_comm]
/-- As a word. -/
def bn (n k : Nat) : BitVec 64 := BitVec.ofNat 64 (binom n k)
theorem bn_zero (n : Nat) : bn n 0 = 1#64 := by unfold bn; rw [binom_zero]
theorem bn_step (n k : Nat) : bn n (k + 1) + bn n k = bn (n + 1) (k + 1) := by
  unfold bn; rw [binom_succ, BitVec.ofNat_add, BitVec.add_comm]
theorem bn_toNat (n k : Nat) (h : n ≤ 60) : (bn n k).toNat = binom n k := by
  unfold bn; rw [BitVec.toNat_ofNat]; exact Nat.mod_eq_of_lt (by have := binom_le n k h; omega)
/-- For whatever numbers (n not negative). -/
def chooseI (n k : Int) : BitVec 64 := if k < 0 ∨ n < k then 0#64 else bn n.toNat k.toNat
theorem chooseI_nat (n k : Nat) : chooseI (n : Int) (k : Int) = bn n k := by
  unfold chooseI
  by_cases h : n < k
  · rw [if_pos (by omega)]; unfold bn; rw [binom_big n k h]
  · rw [if_neg (by omega)]; rfl
end Rnd
