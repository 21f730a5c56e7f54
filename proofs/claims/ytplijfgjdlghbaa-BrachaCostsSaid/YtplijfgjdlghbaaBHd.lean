/-
  What the laws' rows need.
-/
import Derived.Test.YtplijfgjdlghbaaRows
import Derived.Test.YtplijfgjdlghbaaBAwk
import Derived.WalkKit
import Derived.ProofKit
import Derived.OpenShut
import Derived.ShutString
import Derived.ChangeOld
import Derived.Below
import Derived.Deep.DeepHandedRow
import Derived.SizedLaws
namespace Go.Proofs.Ytplijfgjdlghbaa
open Go.ChangeShapes Go.WideShapes Go.ChangeAt Go.RowKit Go.Pl
theorem own : ownKnob Try.prog.godebug = none := by kernel_rfl
theorem laidOut : laidOutB Try.prog = true := by kernel_rfl
end Go.Proofs.Ytplijfgjdlghbaa
