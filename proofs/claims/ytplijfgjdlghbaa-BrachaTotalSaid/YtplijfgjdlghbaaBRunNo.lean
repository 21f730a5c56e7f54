/-
  A run that is none.
-/
import Derived.Test.YtplijfgjdlghbaaBRun
namespace Go.Proofs.Ytplijfgjdlghbaa
open Go.RowKit Go.Pl
set_option maxRecDepth 100000 in
set_option maxHeartbeats 4000000 in
theorem run_no (w : World) (n : Int) (LA : Option Addr) (ln lc : Nat) (A : Option Addr) (len c : Nat) (h : n < 1 ∨ 7 < n ∨ 80 < len) :
    Calls Try.prog 19 #[.int .i64 n, .slice LA ln lc, .slice A len c] w fun e w' => ∃ g, e = .returned (.tuple #[.pointer (some ⟨g, 0, none⟩), .bool false]) ∧ Below w.heap.size w w' := by
  by_cases c1 : n < 1
  · clear h
    go_enter Try.func19, Try.ntmps19
    go_wp2_with fail
    go_ret2
    first | exact ⟨_, rfl, (Below.refl _ _).alloc (Nat.le_refl _) _⟩ | exact ⟨⟨_, rfl⟩, (Below.refl _ _).alloc (Nat.le_refl _) _⟩ | exact (Below.refl _ _).alloc (Nat.le_refl _) _
  · by_cases c2 : 7 < n
    · clear h
      go_enter Try.func19, Try.ntmps19
      go_wp2_with fail
      go_ret2
      first | exact ⟨_, rfl, (Below.refl _ _).alloc (Nat.le_refl _) _⟩ | exact ⟨⟨_, rfl⟩, (Below.refl _ _).alloc (Nat.le_refl _) _⟩ | exact (Below.refl _ _).alloc (Nat.le_refl _) _
    · have c3 : (80 : Int) < (len : Int) := by omega
      clear h
      go_enter Try.func19, Try.ntmps19
      go_wp2_with fail
      go_ret2
      first | exact ⟨_, rfl, (Below.refl _ _).alloc (Nat.le_refl _) _⟩ | exact ⟨⟨_, rfl⟩, (Below.refl _ _).alloc (Nat.le_refl _) _⟩ | exact (Below.refl _ _).alloc (Nat.le_refl _) _
end Go.Proofs.Ytplijfgjdlghbaa
