/-
  Slices of numbers that came in; factorials; two lists compared.
-/
import Derived.Test.YtgbeljgpnhpphaaOwn
import Derived.Test.YtgbeljgpnhpphaaU64
import Derived.Test.YtgbeljgpnhpphaaOrd
import Derived.Test.YtgbeljgpnhpphaaProg
import Derived.LoopTactic
namespace Rnd
def fact : Nat → Nat
  | 0 => 1
  | n + 1 => (n + 1) * fact n
def fw (n : Nat) : BitVec 64 := BitVec.ofNat 64 (fact n)
theorem fw_step (n : Nat) : fw n * BitVec.ofNat 64 (n + 1) = fw (n + 1) := by
  unfold fw; rw [← BitVec.ofNat_mul, fact, Nat.mul_comm]
theorem fact_pos : ∀ n, 0 < fact n
  | 0 => by decide
  | n + 1 => Nat.mul_pos (by omega) (fact_pos n)
end Rnd
namespace Go.Pl
open Go.RowKit
def iv (z : Int) : Value := .int .i64 z
theorem iv_one (zs : List Int) : ∀ u ∈ zs.map iv, u.oneCell' = true := by
  intro u hu
  obtain ⟨z, _, rfl⟩ := List.mem_map.1 hu
  rfl
theorem iv_get (zs : List Int) (i : Nat) (h : i < zs.length) : (zs.map iv)[i]? = some (.int .i64 (zs.getD i 0)) := by
  simp [iv, h]
/-- Every number of the list is an int. -/
def I64s (zs : List Int) : Prop := ∀ z ∈ zs, -9223372036854775808 ≤ z ∧ z ≤ 9223372036854775807
theorem I64s.get {zs : List Int} (h : I64s zs) {i : Nat} (hi : i < zs.length) : -9223372036854775808 ≤ zs.getD i 0 ∧ zs.getD i 0 ≤ 9223372036854775807 := by
  have e : zs.getD i 0 = zs[i] := by simp [hi]
  rw [e]
  exact h _ (List.getElem_mem _)
section
variable {w : World} {S : Nat → Prop} {A : Option Addr} {n c : Nat} {zs : List Int}
theorem Row.ints (h : Row w S 1 A n c (zs.map iv)) : n = zs.length := by have := h.len; simp at this; omega
theorem Row.intAt (h : Row w S 1 A n c (zs.map iv)) (hn : 0 < n) : ∃ b o, A = some ⟨b, o, Option.none⟩ ∧ S b ∧ b < w.heap.size ∧ ∀ i, i < n → w.cell? ⟨b, o + i, Option.none⟩ = some (.int .i64 (zs.getD i 0)) := by
  obtain ⟨b, o, hA, hS, hb, hc⟩ := h.at_ hn
  refine ⟨b, o, hA, hS, hb, fun i hi => ?_⟩
  rw [hc i (by omega), iv_get zs i (by have := h.ints; omega)]
end
end Go.Pl
namespace Go.Proofs.Ytgbeljgpnhpphaa
open Go.RowKit Go.Pl
theorem factorial_any (n : Nat) (hn : n ≤ 20) (w : World) :
    Calls Try.prog 40 #[.int .i64 (n : Int)] w fun e w' => e = .returned (.int .u64 (n64 (Rnd.fw n))) ∧ w = w' := by
  go_enter Try.func40, Try.ntmps40
  go_wp2
  go_loop [3, 4] (fun t3 t4 => ∃ J : Nat, (J ≤ n + 1 ∨ J = 2) ∧ 2 ≤ J ∧ t4 = .int .i64 (J : Int) ∧ t3 = .int .u64 (n64 (Rnd.fw (J - 1)))) (fun _ t4 => n + 2 - (intOf t4).toNat)
  case atStart => exact ⟨2, .inr rfl, Nat.le_refl _, rfl, rfl⟩
  case round =>
    obtain ⟨J, hj, hj1, rfl, rfl⟩ := hrel
    by_cases hlt : J ≤ n
    · have hs : Hid (Rnd.fw (J - 1) * BitVec.ofNat 64 J = Rnd.fw (J + 1 - 1)) := by
        show _ = _
        obtain ⟨m, rfl⟩ : ∃ m, J = m + 1 := ⟨J - 1, by omega⟩
        exact Rnd.fw_step m
      clear hj
      go_wp2
      go_round
      case rel => exact ⟨J + 1, .inl (by omega), by omega, by go_num, by rw [hs.out]⟩
      case measure => simp [intOf]; omega
    · have hjn : Hid (Rnd.fw (J - 1) = Rnd.fw n) := by
        show _ = _
        rcases hj with h | h
        · rw [show J - 1 = n by omega]
        · subst h
          have : n = 0 ∨ n = 1 := by omega
          rcases this with rfl | rfl <;> rfl
      have hgt : (n : Int) < (J : Int) := by omega
      clear hj
      go_wp2
      go_ret
      exact ⟨by rw [hjn.out]; rfl, rfl⟩
theorem reffactorial_any (n : Nat) (hn : n ≤ 20) (w : World) :
    Calls Try.prog 36 #[.int .i64 (n : Int)] w fun e w' => e = .returned (.int .u64 (n64 (Rnd.fw n))) ∧ w = w' := by
  go_enter Try.func36, Try.ntmps36
  go_wp2
  go_loop [3, 4] (fun t3 t4 => ∃ J : Nat, (J ≤ n + 1 ∨ J = 2) ∧ 2 ≤ J ∧ t4 = .int .i64 (J : Int) ∧ t3 = .int .u64 (n64 (Rnd.fw (J - 1)))) (fun _ t4 => n + 2 - (intOf t4).toNat)
  case atStart => exact ⟨2, .inr rfl, Nat.le_refl _, rfl, rfl⟩
  case round =>
    obtain ⟨J, hj, hj1, rfl, rfl⟩ := hrel
    by_cases hlt : J ≤ n
    · have hs : Hid (Rnd.fw (J - 1) * BitVec.ofNat 64 J = Rnd.fw (J + 1 - 1)) := by
        show _ = _
        obtain ⟨m, rfl⟩ : ∃ m, J = m + 1 := ⟨J - 1, by omega⟩
        exact Rnd.fw_step m
      clear hj
      go_wp2
      go_round
      case rel => exact ⟨J + 1, .inl (by omega), by omega, by go_num, by rw [hs.out]⟩
      case measure => simp [intOf]; omega
    · have hjn : Hid (Rnd.fw (J - 1) = Rnd.fw n) := by
        show _ = _
        rcases hj with h | h
        · rw [show J - 1 = n by omega]
        · subst h
          have : n = 0 ∨ n = 1 := by omega
          rcases this with rfl | rfl <;> rfl
      have hgt : (n : Int) < (J : Int) := by omega
      clear hj
      go_wp2
      go_ret
      exact ⟨by rw [hjn.out]; rfl, rfl⟩
end Go.Proofs.Ytgbeljgpnhpphaa
