/-
  No cell of these rows narrows 'for every input' (looked for: loops, veiled, ifaces, maps, wideKeys, modest, calm, conditions, laid).
  DERIVED. THE GIVEN ROWS OF THIS SEAT. 7 by the template 'for every input the law returns true; each argument reads behind the call as it read before'; 0 by the template 'total and deterministic' (their statements: YtplijfgjdlghbaaTotals.lean).
  GIVEN WITH THE SEED: the statements are not yours to turn. If you find one false, say at which input.
  Laid BY PROGRAM, IN A SANDBOX (cutbox-rows.mjs): the forced cells as the released guide's own fill.sh prints them over the translation b6bbd6c418f752f4… (all of the seat's roots in one cut). By AI agents, Wed Nov 11 2026. No macro, syntax, notation, axiom, sorry.
-/
import Derived.Test.YtplijfgjdlghbaaChecked
import GoSem.Claim
import GoSem.ClaimJoined
import GoSem.ClaimMapViews
import Derived.JoinedTies
import Derived.KernelRfl
namespace Go.Proofs.Ytplijfgjdlghbaa
/- THE CELL 'sum', in the pinned program and in every row, IS THE sha256 OF THE DUMP (.gsa) THAT YtplijfgjdlghbaaProg.lean LOADS. Nothing in Lean hashes anything: it is a label: what it is worth is what the hold of that sum in a sandbox is worth. -/
noncomputable def Try.pinned : Pinned := { name := "ytplijfgjdlghbaa", sum := "b6bbd6c418f752f438f10340951f4072a3ede6b5d5ccd076c85a56ca7f02ef64", checked := Try.checked }
namespace Rows
def none {H : Type} : Left H := { results := [], args := [] }

/-- 'plexuslaw33.BrachaPlays': WHATEVER THE INPUT: true; the input reads as it did. -/
def brachaPlaysSpec : ChangeSpec := { name := "brachaPlays", fn := fun _ => fun
  | [d1, d2, d3] => { results := [.lit (.bool true)], args := [d1, d2, d3] }
  | _ => none }
def brachaPlaysRow : OpenClaim := { program := "ytplijfgjdlghbaa", sum := "b6bbd6c418f752f438f10340951f4072a3ede6b5d5ccd076c85a56ca7f02ef64", func := "plexus/plexuslaw33.BrachaPlays", spec := "brachaPlays", unfollowed := true, recurses := true, plainKeys := false, apart := false }
def BrachaPlaysSaid : Prop := brachaPlaysRow.holds Try.pinned (OpenSpec.ofChange brachaPlaysSpec)

/-- ITS FALSE NEIGHBOUR: 'it returns false'. Refute it at one input. -/
def brachaPlaysWrong : ChangeSpec := { name := "brachaPlays", fn := fun _ => fun
  | [d1, d2, d3] => { results := [.lit (.bool false)], args := [d1, d2, d3] }
  | _ => none }
def BrachaPlaysWrongFalsely : Prop := brachaPlaysRow.holds Try.pinned (OpenSpec.ofChange brachaPlaysWrong)

/-- 'plexuslaw33.BrachaAgrees': WHATEVER THE INPUT: true; the input reads as it did. -/
def brachaAgreesSpec : ChangeSpec := { name := "brachaAgrees", fn := fun _ => fun
  | [d1, d2, d3] => { results := [.lit (.bool true)], args := [d1, d2, d3] }
  | _ => none }
def brachaAgreesRow : OpenClaim := { program := "ytplijfgjdlghbaa", sum := "b6bbd6c418f752f438f10340951f4072a3ede6b5d5ccd076c85a56ca7f02ef64", func := "plexus/plexuslaw33.BrachaAgrees", spec := "brachaAgrees", unfollowed := true, recurses := true, plainKeys := false, apart := false }
def BrachaAgreesSaid : Prop := brachaAgreesRow.holds Try.pinned (OpenSpec.ofChange brachaAgreesSpec)

/-- ITS FALSE NEIGHBOUR: 'it returns false'. Refute it at one input. -/
def brachaAgreesWrong : ChangeSpec := { name := "brachaAgrees", fn := fun _ => fun
  | [d1, d2, d3] => { results := [.lit (.bool false)], args := [d1, d2, d3] }
  | _ => none }
def BrachaAgreesWrongFalsely : Prop := brachaAgreesRow.holds Try.pinned (OpenSpec.ofChange brachaAgreesWrong)

/-- 'plexuslaw33.BrachaTotal': WHATEVER THE INPUT: true; the input reads as it did. -/
def brachaTotalSpec : ChangeSpec := { name := "brachaTotal", fn := fun _ => fun
  | [d1, d2, d3] => { results := [.lit (.bool true)], args := [d1, d2, d3] }
  | _ => none }
def brachaTotalRow : OpenClaim := { program := "ytplijfgjdlghbaa", sum := "b6bbd6c418f752f438f10340951f4072a3ede6b5d5ccd076c85a56ca7f02ef64", func := "plexus/plexuslaw33.BrachaTotal", spec := "brachaTotal", unfollowed := true, recurses := true, plainKeys := false, apart := false }
def BrachaTotalSaid : Prop := brachaTotalRow.holds Try.pinned (OpenSpec.ofChange brachaTotalSpec)

/-- ITS FALSE NEIGHBOUR: 'it returns false'. Refute it at one input. -/
def brachaTotalWrong : ChangeSpec := { name := "brachaTotal", fn := fun _ => fun
  | [d1, d2, d3] => { results := [.lit (.bool false)], args := [d1, d2, d3] }
  | _ => none }
def BrachaTotalWrongFalsely : Prop := brachaTotalRow.holds Try.pinned (OpenSpec.ofChange brachaTotalWrong)

/-- 'plexuslaw33.BrachaRepeats': WHATEVER THE INPUT: true; the input reads as it did. -/
def brachaRepeatsSpec : ChangeSpec := { name := "brachaRepeats", fn := fun _ => fun
  | [d1, d2, d3] => { results := [.lit (.bool true)], args := [d1, d2, d3] }
  | _ => none }
def brachaRepeatsRow : OpenClaim := { program := "ytplijfgjdlghbaa", sum := "b6bbd6c418f752f438f10340951f4072a3ede6b5d5ccd076c85a56ca7f02ef64", func := "plexus/plexuslaw33.BrachaRepeats", spec := "brachaRepeats", unfollowed := true, recurses := true, plainKeys := false, apart := false }
def BrachaRepeatsSaid : Prop := brachaRepeatsRow.holds Try.pinned (OpenSpec.ofChange brachaRepeatsSpec)

/-- ITS FALSE NEIGHBOUR: 'it returns false'. Refute it at one input. -/
def brachaRepeatsWrong : ChangeSpec := { name := "brachaRepeats", fn := fun _ => fun
  | [d1, d2, d3] => { results := [.lit (.bool false)], args := [d1, d2, d3] }
  | _ => none }
def BrachaRepeatsWrongFalsely : Prop := brachaRepeatsRow.holds Try.pinned (OpenSpec.ofChange brachaRepeatsWrong)

/-- 'plexuslaw33.BrachaThresholds': WHATEVER THE INPUT: true; the input reads as it did. -/
def brachaThresholdsSpec : ChangeSpec := { name := "brachaThresholds", fn := fun _ => fun
  | [d1, d2, d3] => { results := [.lit (.bool true)], args := [d1, d2, d3] }
  | _ => none }
def brachaThresholdsRow : OpenClaim := { program := "ytplijfgjdlghbaa", sum := "b6bbd6c418f752f438f10340951f4072a3ede6b5d5ccd076c85a56ca7f02ef64", func := "plexus/plexuslaw33.BrachaThresholds", spec := "brachaThresholds", unfollowed := true, recurses := true, plainKeys := false, apart := false }
def BrachaThresholdsSaid : Prop := brachaThresholdsRow.holds Try.pinned (OpenSpec.ofChange brachaThresholdsSpec)

/-- ITS FALSE NEIGHBOUR: 'it returns false'. Refute it at one input. -/
def brachaThresholdsWrong : ChangeSpec := { name := "brachaThresholds", fn := fun _ => fun
  | [d1, d2, d3] => { results := [.lit (.bool false)], args := [d1, d2, d3] }
  | _ => none }
def BrachaThresholdsWrongFalsely : Prop := brachaThresholdsRow.holds Try.pinned (OpenSpec.ofChange brachaThresholdsWrong)

/-- 'plexuslaw33.BrachaCosts': WHATEVER THE INPUT: true; the input reads as it did. -/
def brachaCostsSpec : ChangeSpec := { name := "brachaCosts", fn := fun _ => fun
  | [d1, d2, d3, d4] => { results := [.lit (.bool true)], args := [d1, d2, d3, d4] }
  | _ => none }
def brachaCostsRow : OpenClaim := { program := "ytplijfgjdlghbaa", sum := "b6bbd6c418f752f438f10340951f4072a3ede6b5d5ccd076c85a56ca7f02ef64", func := "plexus/plexuslaw33.BrachaCosts", spec := "brachaCosts", unfollowed := true, recurses := true, plainKeys := false, apart := false }
def BrachaCostsSaid : Prop := brachaCostsRow.holds Try.pinned (OpenSpec.ofChange brachaCostsSpec)

/-- ITS FALSE NEIGHBOUR: 'it returns false'. Refute it at one input. -/
def brachaCostsWrong : ChangeSpec := { name := "brachaCosts", fn := fun _ => fun
  | [d1, d2, d3, d4] => { results := [.lit (.bool false)], args := [d1, d2, d3, d4] }
  | _ => none }
def BrachaCostsWrongFalsely : Prop := brachaCostsRow.holds Try.pinned (OpenSpec.ofChange brachaCostsWrong)

/-- 'plexuslaw33.BrachaNew': WHATEVER THE INPUT: true; the input reads as it did. -/
def brachaNewSpec : ChangeSpec := { name := "brachaNew", fn := fun _ => fun
  | [d1, d2] => { results := [.lit (.bool true)], args := [d1, d2] }
  | _ => none }
def brachaNewRow : OpenClaim := { program := "ytplijfgjdlghbaa", sum := "b6bbd6c418f752f438f10340951f4072a3ede6b5d5ccd076c85a56ca7f02ef64", func := "plexus/plexuslaw33.BrachaNew", spec := "brachaNew", unfollowed := true, recurses := true, plainKeys := false, apart := false }
def BrachaNewSaid : Prop := brachaNewRow.holds Try.pinned (OpenSpec.ofChange brachaNewSpec)

/-- ITS FALSE NEIGHBOUR: 'it returns false'. Refute it at one input. -/
def brachaNewWrong : ChangeSpec := { name := "brachaNew", fn := fun _ => fun
  | [d1, d2] => { results := [.lit (.bool false)], args := [d1, d2] }
  | _ => none }
def BrachaNewWrongFalsely : Prop := brachaNewRow.holds Try.pinned (OpenSpec.ofChange brachaNewWrong)

/- THE SECOND FORM. 'bulk': how many values and letters a reading holds, each counted each time it is reached (what is shared counts as often as it is met; a slice's spare places count too). A statement '..UptoSaid' is the law's where the arguments, and the package variables that the reading takes, are together of bulk at most 1048576: NARROWER than '..Said'. Prove '..Said' where nothing that the law and all that it calls make is longer than what came in: it says more and counts as full. Else prove '..UptoSaid'. A law counts once. -/
mutual
def uptoBulk {H : Type} : DataW H → Nat
  | .lit (.string bytes) => bytes.length + 1
  | .lit _ => 1
  | .nil => 1
  | .ptr d => uptoBulk d + 1
  | .slice elems spare => uptoBulkAll elems + uptoBulkAll spare + 1
  | .agg parts => uptoBulkAll parts + 1
  | .iface _ d => uptoBulk d + 1
  | .map entries => uptoBulkEntries entries + 1
  | .held _ => 1
def uptoBulkAll {H : Type} : List (DataW H) → Nat
  | [] => 0
  | d :: r => uptoBulk d + uptoBulkAll r
def uptoBulkEntries {H : Type} : List (Lit × DataW H) → Nat
  | [] => 0
  | x :: r => uptoBulkEntry x + uptoBulkEntries r
def uptoBulkEntry {H : Type} : Lit × DataW H → Nat
  | (.string bytes, d) => bytes.length + uptoBulk d + 1
  | (_, d) => uptoBulk d + 1
 end
def uptoSmall : (H : Type) → List (DataW H) → Bool := fun _ ds => decide (uptoBulkAll ds ≤ 1048576)
def OpenSpec.upto (s : _root_.Go.ChangeSpec) : _root_.Go.OpenSpec := { _root_.Go.OpenSpec.ofChange s with cond := some uptoSmall }

/-- 'plexuslaw33.BrachaPlays', WHERE WHAT IT READS IS OF BULK AT MOST 1048576: true; the input reads as it did. -/
def brachaPlaysUptoRow : OpenClaim := { program := "ytplijfgjdlghbaa", sum := "b6bbd6c418f752f438f10340951f4072a3ede6b5d5ccd076c85a56ca7f02ef64", func := "plexus/plexuslaw33.BrachaPlays", spec := "brachaPlays", unfollowed := true, recurses := true, plainKeys := false, apart := false, narrowed := true }
def BrachaPlaysUptoSaid : Prop := brachaPlaysUptoRow.holds Try.pinned (OpenSpec.upto brachaPlaysSpec)

/-- 'plexuslaw33.BrachaAgrees', WHERE WHAT IT READS IS OF BULK AT MOST 1048576: true; the input reads as it did. -/
def brachaAgreesUptoRow : OpenClaim := { program := "ytplijfgjdlghbaa", sum := "b6bbd6c418f752f438f10340951f4072a3ede6b5d5ccd076c85a56ca7f02ef64", func := "plexus/plexuslaw33.BrachaAgrees", spec := "brachaAgrees", unfollowed := true, recurses := true, plainKeys := false, apart := false, narrowed := true }
def BrachaAgreesUptoSaid : Prop := brachaAgreesUptoRow.holds Try.pinned (OpenSpec.upto brachaAgreesSpec)

/-- 'plexuslaw33.BrachaTotal', WHERE WHAT IT READS IS OF BULK AT MOST 1048576: true; the input reads as it did. -/
def brachaTotalUptoRow : OpenClaim := { program := "ytplijfgjdlghbaa", sum := "b6bbd6c418f752f438f10340951f4072a3ede6b5d5ccd076c85a56ca7f02ef64", func := "plexus/plexuslaw33.BrachaTotal", spec := "brachaTotal", unfollowed := true, recurses := true, plainKeys := false, apart := false, narrowed := true }
def BrachaTotalUptoSaid : Prop := brachaTotalUptoRow.holds Try.pinned (OpenSpec.upto brachaTotalSpec)

/-- 'plexuslaw33.BrachaRepeats', WHERE WHAT IT READS IS OF BULK AT MOST 1048576: true; the input reads as it did. -/
def brachaRepeatsUptoRow : OpenClaim := { program := "ytplijfgjdlghbaa", sum := "b6bbd6c418f752f438f10340951f4072a3ede6b5d5ccd076c85a56ca7f02ef64", func := "plexus/plexuslaw33.BrachaRepeats", spec := "brachaRepeats", unfollowed := true, recurses := true, plainKeys := false, apart := false, narrowed := true }
def BrachaRepeatsUptoSaid : Prop := brachaRepeatsUptoRow.holds Try.pinned (OpenSpec.upto brachaRepeatsSpec)

/-- 'plexuslaw33.BrachaThresholds', WHERE WHAT IT READS IS OF BULK AT MOST 1048576: true; the input reads as it did. -/
def brachaThresholdsUptoRow : OpenClaim := { program := "ytplijfgjdlghbaa", sum := "b6bbd6c418f752f438f10340951f4072a3ede6b5d5ccd076c85a56ca7f02ef64", func := "plexus/plexuslaw33.BrachaThresholds", spec := "brachaThresholds", unfollowed := true, recurses := true, plainKeys := false, apart := false, narrowed := true }
def BrachaThresholdsUptoSaid : Prop := brachaThresholdsUptoRow.holds Try.pinned (OpenSpec.upto brachaThresholdsSpec)

/-- 'plexuslaw33.BrachaCosts', WHERE WHAT IT READS IS OF BULK AT MOST 1048576: true; the input reads as it did. -/
def brachaCostsUptoRow : OpenClaim := { program := "ytplijfgjdlghbaa", sum := "b6bbd6c418f752f438f10340951f4072a3ede6b5d5ccd076c85a56ca7f02ef64", func := "plexus/plexuslaw33.BrachaCosts", spec := "brachaCosts", unfollowed := true, recurses := true, plainKeys := false, apart := false, narrowed := true }
def BrachaCostsUptoSaid : Prop := brachaCostsUptoRow.holds Try.pinned (OpenSpec.upto brachaCostsSpec)

/-- 'plexuslaw33.BrachaNew', WHERE WHAT IT READS IS OF BULK AT MOST 1048576: true; the input reads as it did. -/
def brachaNewUptoRow : OpenClaim := { program := "ytplijfgjdlghbaa", sum := "b6bbd6c418f752f438f10340951f4072a3ede6b5d5ccd076c85a56ca7f02ef64", func := "plexus/plexuslaw33.BrachaNew", spec := "brachaNew", unfollowed := true, recurses := true, plainKeys := false, apart := false, narrowed := true }
def BrachaNewUptoSaid : Prop := brachaNewUptoRow.holds Try.pinned (OpenSpec.upto brachaNewSpec)

end Rows
end Go.Proofs.Ytplijfgjdlghbaa
