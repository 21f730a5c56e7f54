/-
  The value of a hexadecimal digit.
-/
import Derived.Test.YtacbbfmjjfbpoaaDoorHex
import Derived.Lib.Bytealg
namespace Hexa
/-- A digit's value, or -1. -/
def val (c : UInt8) : Int := if 48 ≤ c.toNat ∧ c.toNat ≤ 57 then (c.toNat : Int) - 48 else if 97 ≤ c.toNat ∧ c.toNat ≤ 102 then (c.toNat : Int) - 87 else -1
theorem index_all : ∀ n : Fin 256, Go.Lib.indexByte digits (UInt8.ofNat n) = val (UInt8.ofNat n) := by decide +kernel
theorem index_val (c : UInt8) : Go.Lib.indexByte digits c = val c := by
  have h := index_all ⟨c.toNat, c.toNat_lt⟩
  have e : UInt8.ofNat c.toNat = c := UInt8.ofNat_toNat
  rw [show ((⟨c.toNat, c.toNat_lt⟩ : Fin 256) : Nat) = c.toNat from rfl, e] at h
  exact h
theorem val_lt (c : UInt8) : val c < 16 := by unfold val; split <;> (try split) <;> omega
theorem val_ge (c : UInt8) : -1 ≤ val c := by unfold val; split <;> (try split) <;> omega
end Hexa
namespace Go.Proofs.YtacbbfmjjfbpoaaDoor
open Go.RowKit Go.Pl
theorem idx33 (s : ByteArray) (c : UInt8) (w : World) : (callFunc 33 #[.string s, .int .u8 (c.toNat : Int)]).run Tryd.prog w = .ok (.value (.int .i64 (Lib.indexByte s.data.toList c))) w := by
  rw [run_callFunc_extern (fn := Tryd.f33) (e := Extern.BytealgIndexByte.indexByte) rfl rfl rfl (by kernel_rfl) (by kernel_rfl), Lib.run_indexByteString]
  simp
theorem idx32 (s : ByteArray) (c : UInt8) (w : World) :
    Calls Tryd.prog 32 #[.string s, .int .u8 (c.toNat : Int)] w fun e w' => e = .returned (.int .i64 (Lib.indexByte s.data.toList c)) ∧ w = w' := by
  have hx := idx33 s c
  go_enter Tryd.func32, Tryd.ntmps32
  go_wp2_with fail
  go_ret
  exact ⟨rfl, rfl⟩
theorem idx_any (s : ByteArray) (hs : s.data.toList = Hexa.digits) (c : UInt8) (w : World) :
    Calls Tryd.prog 27 #[.string s, .int .u8 (c.toNat : Int)] w fun e w' => e = .returned (.int .i64 (Hexa.val c)) ∧ w = w' := by
  go_enter Tryd.func27, Tryd.ntmps27
  go_wp2_with (go_at_call 32; refine (idx32 s c _).mono ?_; rw [hs, Hexa.index_val]; rintro e w1 ⟨rfl, rfl⟩)
  go_ret
  exact ⟨rfl, rfl⟩
theorem digit_any (c : UInt8) (w : World) :
    Calls Tryd.prog 28 #[.int .u8 (c.toNat : Int)] w fun e w' => e = .returned (.int .i64 (Hexa.val c)) ∧ w = w' := by
  have hc := c.toNat_lt
  by_cases h1 : 48 ≤ c.toNat
  · by_cases h2 : c.toNat ≤ 57
    · have hv : Hexa.val c = (c.toNat : Int) - 48 := by unfold Hexa.val; rw [if_pos ⟨h1, h2⟩]
      rw [hv]
      go_enter Tryd.func28, Tryd.ntmps28
      go_wp2_with fail
      go_ret
      exact ⟨rfl, rfl⟩
    · by_cases h3 : 97 ≤ c.toNat
      · by_cases h4 : c.toNat ≤ 102
        · have hv : Hexa.val c = (c.toNat : Int) - 97 + 10 := by unfold Hexa.val; rw [if_neg (by omega), if_pos ⟨h3, h4⟩]; omega
          rw [hv]
          go_enter Tryd.func28, Tryd.ntmps28
          go_wp2_with fail
          go_ret
          exact ⟨rfl, rfl⟩
        · have hv : Hexa.val c = -1 := by unfold Hexa.val; rw [if_neg (by omega), if_neg (by omega)]
          rw [hv]
          go_enter Tryd.func28, Tryd.ntmps28
          go_wp2_with fail
          go_ret
          exact ⟨rfl, rfl⟩
      · have hv : Hexa.val c = -1 := by unfold Hexa.val; rw [if_neg (by omega), if_neg (by omega)]
        rw [hv]
        go_enter Tryd.func28, Tryd.ntmps28
        go_wp2_with fail
        go_ret
        exact ⟨rfl, rfl⟩
  · have hv : Hexa.val c = -1 := by unfold Hexa.val; rw [if_neg (by omega), if_neg (by omega)]
    rw [hv]
    go_enter Tryd.func28, Tryd.ntmps28
    go_wp2_with fail
    go_ret
    exact ⟨rfl, rfl⟩
end Go.Proofs.YtacbbfmjjfbpoaaDoor
