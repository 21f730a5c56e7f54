/-
  Mix, Unmix and the source's methods.
-/
import Derived.Test.YtgbeljgpnhpphaaU64
import Derived.Test.YtgbeljgpnhpphaaRnd
import Derived.Test.YtgbeljgpnhpphaaLaw
import Derived.Test.YtgbeljgpnhpphaaProg
import Derived.Lib.Hide
namespace Go.Proofs.Ytgbeljgpnhpphaa
open Go.RowKit Go.Pl
theorem mix_any (x : BitVec 64) (w : World) :
    Calls Try.prog 33 #[.int .u64 (n64 x)] w fun e w' => e = .returned (.int .u64 (n64 (Rnd.mix x))) ∧ w = w' := by
  go_enter Try.func33, Try.ntmps33
  go_wp2
  go_ret
  exact ⟨rfl, rfl⟩
theorem refmix_any (x : BitVec 64) (w : World) :
    Calls Try.prog 37 #[.int .u64 (n64 x)] w fun e w' => e = .returned (.int .u64 (n64 (Rnd.mix x))) ∧ w = w' := by
  go_enter Try.func37, Try.ntmps37
  go_wp2
  go_ret
  exact ⟨rfl, rfl⟩
theorem at_any (s n : BitVec 64) (w : World) :
    Calls Try.prog 15 #[.int .u64 (n64 s), .int .u64 (n64 n)] w fun e w' => e = .returned (.int .u64 (n64 (Rnd.out s n))) ∧ w = w' := by
  go_enter Try.func15, Try.ntmps15
  go_wp2_with (go_at_call 37; refine (refmix_any _ _).mono ?_; rintro e w' ⟨rfl, rfl⟩)
  go_ret
  exact ⟨rfl, rfl⟩
end Go.Proofs.Ytgbeljgpnhpphaa
