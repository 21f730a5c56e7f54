/-
  Bits of codes and first differences, walked.
-/
import Derived.Test.YthoaenpbmmjokaaDoorProg
import Derived.Test.YthoaenpbmmjokaaDoorObP
import Derived.Test.YthoaenpbmmjokaaDoorOrdV
import Derived.Test.YthoaenpbmmjokaaDoorOwn
namespace Go.Pl
open Go.RowKit
def str (k : List UInt8) : Value := .string ⟨k.toArray⟩
theorem and_all : ∀ (c : Fin 256) (r : Fin 9), bits BinOp.and IntKind.i64 (wrap64 (((c.val : Nat) : Int) / 2 ^ (8 - r.val))) 1 = ((c.val / 2 ^ (8 - r.val) % 2 : Nat) : Int) := by decide +kernel
theorem and_bit (c : UInt8) {r : Nat} (hr : r < 9) : bits BinOp.and IntKind.i64 (wrap64 ((c.toNat : Int) / 2 ^ (8 - r))) 1 = ((c.toNat / 2 ^ (8 - r) % 2 : Nat) : Int) := and_all ⟨c.toNat, c.toNat_lt⟩ ⟨r, hr⟩
theorem bytes_at (k : List UInt8) {q : Nat} (_h : q < (⟨k.toArray⟩ : ByteArray).size) (h2 : q < k.length) : (⟨k.toArray⟩ : ByteArray)[q] = k.getD q 0 := by
  rw [List.getD_eq_getElem?_getD, List.getElem?_eq_getElem h2]
  rfl
end Go.Pl
namespace Go.Proofs.YthoaenpbmmjokaaDoor
open Go.RowKit Go.Pl
set_option maxRecDepth 100000 in
theorem bit_any (w : World) (k : Ob.Key) (i : Nat) (hl : k.length ≤ 1000000) (_hi : i ≤ 9223372036854775807) :
    Calls Tryd.prog 21 #[.string ⟨k.toArray⟩, .int .i64 i] w fun e w' => e = .returned (.int .i64 (Ob.bitN k i : Nat)) ∧ w = w' := by
  have h0 : ¬ (i : Int) < 0 := by omega
  have hsz : (⟨k.toArray⟩ : ByteArray).size = k.length := by simp [ByteArray.size]
  obtain ⟨q, hq⟩ : ∃ q, i / 9 = q := ⟨_, rfl⟩
  obtain ⟨r, hr⟩ : ∃ r, i % 9 = r := ⟨_, rfl⟩
  have hqI : (i : Int) / 9 = (q : Int) := by omega
  have hrI : (i : Int) % 9 = (r : Int) := by omega
  have hr9 : r < 9 := by omega
  have hqd := Lib.hid hq
  have hrd := Lib.hid hr
  clear hq hr
  by_cases hge : k.length ≤ q
  · have hgeB : decide (k.length ≤ q) = true := decide_eq_true hge
    go_enter Tryd.func21, Tryd.ntmps21
    go_wp2_with fail
    go_ret
    refine ⟨?_, rfl⟩
    unfold Ob.bitN
    rw [hqd.out, if_pos hge]
    rfl
  · have hgeB : decide (k.length ≤ q) = false := decide_eq_false hge
    have hlt : q < k.length := by omega
    have hltI : (q : Int) < (k.length : Int) := by omega
    by_cases h9 : r = 0
    · have h9B : ((r : Int) == 0) = true := by simp [h9]
      go_enter Tryd.func21, Tryd.ntmps21
      go_wp2_with fail
      go_ret
      refine ⟨?_, rfl⟩
      unfold Ob.bitN
      rw [hqd.out, hrd.out, if_neg hge, if_pos h9]
      rfl
    · have h9B : ((r : Int) == 0) = false := by simp [h9]
      go_enter Tryd.func21, Tryd.ntmps21
      go_wp2_with fail
      go_ret
      refine ⟨?_, rfl⟩
      rw [and_bit _ hr9, bytes_at k (by rw [hsz]; exact hlt) hlt]
      unfold Ob.bitN
      rw [hqd.out, hrd.out, if_neg hge, if_neg h9]
      rfl
theorem bit_neg (w : World) (k : Ob.Key) (i : Int) (hi : i < 0) :
    Calls Tryd.prog 21 #[.string ⟨k.toArray⟩, .int .i64 i] w fun e w' => e = .returned (.int .i64 0) ∧ w = w' := by
  go_enter Tryd.func21, Tryd.ntmps21
  go_wp2_with fail
  go_ret
  exact ⟨rfl, rfl⟩
set_option maxRecDepth 100000 in
theorem refbit_any (w : World) (k : Ob.Key) (i : Nat) (hl : k.length ≤ 1000000) (_hi : i ≤ 9223372036854775807) :
    Calls Tryd.prog 22 #[.string ⟨k.toArray⟩, .int .i64 i] w fun e w' => e = .returned (.int .i64 (Ob.bitN k i : Nat)) ∧ w = w' := by
  have h0 : ¬ (i : Int) < 0 := by omega
  have hsz : (⟨k.toArray⟩ : ByteArray).size = k.length := by simp [ByteArray.size]
  obtain ⟨q, hq⟩ : ∃ q, i / 9 = q := ⟨_, rfl⟩
  obtain ⟨r, hr⟩ : ∃ r, i % 9 = r := ⟨_, rfl⟩
  have hqI : (i : Int) / 9 = (q : Int) := by omega
  have hrI : (i : Int) % 9 = (r : Int) := by omega
  have hr9 : r < 9 := by omega
  have hqd := Lib.hid hq
  have hrd := Lib.hid hr
  clear hq hr
  by_cases hge : k.length ≤ q
  · have hgeB : decide (k.length ≤ q) = true := decide_eq_true hge
    go_enter Tryd.func22, Tryd.ntmps22
    go_wp2_with fail
    go_ret
    refine ⟨?_, rfl⟩
    unfold Ob.bitN
    rw [hqd.out, if_pos hge]
    rfl
  · have hgeB : decide (k.length ≤ q) = false := decide_eq_false hge
    have hlt : q < k.length := by omega
    have hltI : (q : Int) < (k.length : Int) := by omega
    by_cases h9 : r = 0
    · have h9B : ((r : Int) == 0) = true := by simp [h9]
      go_enter Tryd.func22, Tryd.ntmps22
      go_wp2_with fail
      go_ret
      refine ⟨?_, rfl⟩
      unfold Ob.bitN
      rw [hqd.out, hrd.out, if_neg hge, if_pos h9]
      rfl
    · have h9B : ((r : Int) == 0) = false := by simp [h9]
      go_enter Tryd.func22, Tryd.ntmps22
      go_wp2_with fail
      obtain ⟨c, hc⟩ : ∃ c : UInt8, k.getD q 0 = c := ⟨_, rfl⟩
      have hcd := Lib.hid hc
      have hcl : Hid (c.toNat < 256) := c.toNat_lt
      go_loopw [5, 6] (fun t5 t6 wr => ∃ j : Nat, j ≤ 8 - r ∧ t6 = .int .i64 ((r + j : Nat) : Int) ∧ t5 = .int .u8 ((c.toNat / 2 ^ j : Nat) : Int) ∧ wr = w) (fun _ t6 _ => 8 - (intOf t6).toNat)
      case atStart => exact ⟨0, by omega, rfl, by rw [bytes_at k (by rw [hsz]; exact hlt) hlt, hc]; simp, rfl⟩
      case round =>
        obtain ⟨j, hj, rfl, rfl, rfl⟩ := hrel
        clear hc
        obtain ⟨x, hx⟩ : ∃ x, c.toNat / 2 ^ j = x := ⟨_, rfl⟩
        have hxd := Lib.hid hx
        have hxl : x < 256 := by rw [← hx]; exact Nat.lt_of_le_of_lt (Nat.div_le_self _ _) hcl.out
        rw [hx]
        clear hx
        by_cases hlt8 : r + j < 8
        · have hI : ((r + j : Nat) : Int) < 8 := by omega
          go_wp2_with fail
          go_roundw
          case rel => exact ⟨j + 1, by omega, by go_num, by rw [Nat.pow_succ, ← Nat.div_div_eq_div_mul, hxd.out]; go_num, by first | rfl | trivial⟩
          case measure => simp [intOf]; omega
        · have hI : ¬ ((r + j : Nat) : Int) < 8 := by omega
          have hj8 : Hid (j = 8 - r) := by show _ = _; omega
          go_wp2_with fail
          go_ret
          refine ⟨?_, by first | rfl | trivial⟩
          unfold Ob.bitN
          rw [hqd.out, hrd.out, if_neg hge, if_neg h9, hcd.out, ← hj8.out, hxd.out]
          go_num
end Go.Proofs.YthoaenpbmmjokaaDoor
