/-
  No cell of these rows narrows 'for every input' (looked for: loops, veiled, ifaces, maps, wideKeys, modest, calm, conditions, laid).
  DERIVED. THE GIVEN ROWS OF THIS SEAT. 10 by the template 'for every input the law returns true; each argument reads behind the call as it read before'; 0 by the template 'total and deterministic' (their statements: YtgbeljgpnhpphaaTotals.lean).
  GIVEN WITH THE SEED: the statements are not yours to turn. If you find one false, say at which input.
  Laid BY PROGRAM, IN A SANDBOX (cutbox-rows.mjs): the forced cells as the released guide's own fill.sh prints them over the translation 41df142db74df84d… (all of the seat's roots in one cut). By AI agents, Wed Nov 11 2026. No macro, syntax, notation, axiom, sorry.
-/
import Derived.Test.YtgbeljgpnhpphaaChecked
import GoSem.Claim
import GoSem.ClaimJoined
import GoSem.ClaimMapViews
import Derived.JoinedTies
import Derived.KernelRfl
namespace Go.Proofs.Ytgbeljgpnhpphaa
/- THE CELL 'sum', in the pinned program and in every row, IS THE sha256 OF THE DUMP (.gsa) THAT YtgbeljgpnhpphaaProg.lean LOADS. Nothing in Lean hashes anything: it is a label: what it is worth is what the hold of that sum in a sandbox is worth. -/
noncomputable def Try.pinned : Pinned := { name := "ytgbeljgpnhpphaa", sum := "41df142db74df84dc8a27c7f71bdc3b8167bd13b017af71a919ce42c384a1428", checked := Try.checked }
namespace Rows
def none {H : Type} : Left H := { results := [], args := [] }

/-- 'plexuslaw06.RandomNext': WHATEVER THE INPUT: true; the input reads as it did. -/
def randomNextSpec : ChangeSpec := { name := "randomNext", fn := fun _ => fun
  | [d] => { results := [.lit (.bool true)], args := [d] }
  | _ => none }
def randomNextRow : OpenClaim := { program := "ytgbeljgpnhpphaa", sum := "41df142db74df84dc8a27c7f71bdc3b8167bd13b017af71a919ce42c384a1428", func := "plexus/plexuslaw06.RandomNext", spec := "randomNext", apart := false }
def RandomNextSaid : Prop := randomNextRow.holds Try.pinned (OpenSpec.ofChange randomNextSpec)

/-- ITS FALSE NEIGHBOUR: 'it returns false'. Refute it at one input. -/
def randomNextWrong : ChangeSpec := { name := "randomNext", fn := fun _ => fun
  | [d] => { results := [.lit (.bool false)], args := [d] }
  | _ => none }
def RandomNextWrongFalsely : Prop := randomNextRow.holds Try.pinned (OpenSpec.ofChange randomNextWrong)

/-- 'plexuslaw06.RandomIntn': WHATEVER THE INPUT: true; the input reads as it did. -/
def randomIntnSpec : ChangeSpec := { name := "randomIntn", fn := fun _ => fun
  | [d1, d2] => { results := [.lit (.bool true)], args := [d1, d2] }
  | _ => none }
def randomIntnRow : OpenClaim := { program := "ytgbeljgpnhpphaa", sum := "41df142db74df84dc8a27c7f71bdc3b8167bd13b017af71a919ce42c384a1428", func := "plexus/plexuslaw06.RandomIntn", spec := "randomIntn", apart := false }
def RandomIntnSaid : Prop := randomIntnRow.holds Try.pinned (OpenSpec.ofChange randomIntnSpec)

/-- ITS FALSE NEIGHBOUR: 'it returns false'. Refute it at one input. -/
def randomIntnWrong : ChangeSpec := { name := "randomIntn", fn := fun _ => fun
  | [d1, d2] => { results := [.lit (.bool false)], args := [d1, d2] }
  | _ => none }
def RandomIntnWrongFalsely : Prop := randomIntnRow.holds Try.pinned (OpenSpec.ofChange randomIntnWrong)

/-- 'plexuslaw06.RandomShuffle': WHATEVER THE INPUT: true; the input reads as it did. -/
def randomShuffleSpec : ChangeSpec := { name := "randomShuffle", fn := fun _ => fun
  | [d1, d2] => { results := [.lit (.bool true)], args := [d1, d2] }
  | _ => none }
def randomShuffleRow : OpenClaim := { program := "ytgbeljgpnhpphaa", sum := "41df142db74df84dc8a27c7f71bdc3b8167bd13b017af71a919ce42c384a1428", func := "plexus/plexuslaw06.RandomShuffle", spec := "randomShuffle", apart := false }
def RandomShuffleSaid : Prop := randomShuffleRow.holds Try.pinned (OpenSpec.ofChange randomShuffleSpec)

/-- ITS FALSE NEIGHBOUR: 'it returns false'. Refute it at one input. -/
def randomShuffleWrong : ChangeSpec := { name := "randomShuffle", fn := fun _ => fun
  | [d1, d2] => { results := [.lit (.bool false)], args := [d1, d2] }
  | _ => none }
def RandomShuffleWrongFalsely : Prop := randomShuffleRow.holds Try.pinned (OpenSpec.ofChange randomShuffleWrong)

/-- 'plexuslaw06.RandomChoose': WHATEVER THE INPUT: true; the input reads as it did. -/
def randomChooseSpec : ChangeSpec := { name := "randomChoose", fn := fun _ => fun
  | [d1, d2] => { results := [.lit (.bool true)], args := [d1, d2] }
  | _ => none }
def randomChooseRow : OpenClaim := { program := "ytgbeljgpnhpphaa", sum := "41df142db74df84dc8a27c7f71bdc3b8167bd13b017af71a919ce42c384a1428", func := "plexus/plexuslaw06.RandomChoose", spec := "randomChoose", apart := false }
def RandomChooseSaid : Prop := randomChooseRow.holds Try.pinned (OpenSpec.ofChange randomChooseSpec)

/-- ITS FALSE NEIGHBOUR: 'it returns false'. Refute it at one input. -/
def randomChooseWrong : ChangeSpec := { name := "randomChoose", fn := fun _ => fun
  | [d1, d2] => { results := [.lit (.bool false)], args := [d1, d2] }
  | _ => none }
def RandomChooseWrongFalsely : Prop := randomChooseRow.holds Try.pinned (OpenSpec.ofChange randomChooseWrong)

/-- 'plexuslaw06.RandomLexicographic': WHATEVER THE INPUT: true; the input reads as it did. -/
def randomLexicographicSpec : ChangeSpec := { name := "randomLexicographic", fn := fun _ => fun
  | [d1, d2, d3, d4, d5] => { results := [.lit (.bool true)], args := [d1, d2, d3, d4, d5] }
  | _ => none }
def randomLexicographicRow : OpenClaim := { program := "ytgbeljgpnhpphaa", sum := "41df142db74df84dc8a27c7f71bdc3b8167bd13b017af71a919ce42c384a1428", func := "plexus/plexuslaw06.RandomLexicographic", spec := "randomLexicographic", apart := false }
def RandomLexicographicSaid : Prop := randomLexicographicRow.holds Try.pinned (OpenSpec.ofChange randomLexicographicSpec)

/-- ITS FALSE NEIGHBOUR: 'it returns false'. Refute it at one input. -/
def randomLexicographicWrong : ChangeSpec := { name := "randomLexicographic", fn := fun _ => fun
  | [d1, d2, d3, d4, d5] => { results := [.lit (.bool false)], args := [d1, d2, d3, d4, d5] }
  | _ => none }
def RandomLexicographicWrongFalsely : Prop := randomLexicographicRow.holds Try.pinned (OpenSpec.ofChange randomLexicographicWrong)

/-- 'plexuslaw06.RandomSkip': WHATEVER THE INPUT: true; the input reads as it did. -/
def randomSkipSpec : ChangeSpec := { name := "randomSkip", fn := fun _ => fun
  | [d1, d2, d3, d4] => { results := [.lit (.bool true)], args := [d1, d2, d3, d4] }
  | _ => none }
def randomSkipRow : OpenClaim := { program := "ytgbeljgpnhpphaa", sum := "41df142db74df84dc8a27c7f71bdc3b8167bd13b017af71a919ce42c384a1428", func := "plexus/plexuslaw06.RandomSkip", spec := "randomSkip", apart := false }
def RandomSkipSaid : Prop := randomSkipRow.holds Try.pinned (OpenSpec.ofChange randomSkipSpec)

/-- ITS FALSE NEIGHBOUR: 'it returns false'. Refute it at one input. -/
def randomSkipWrong : ChangeSpec := { name := "randomSkip", fn := fun _ => fun
  | [d1, d2, d3, d4] => { results := [.lit (.bool false)], args := [d1, d2, d3, d4] }
  | _ => none }
def RandomSkipWrongFalsely : Prop := randomSkipRow.holds Try.pinned (OpenSpec.ofChange randomSkipWrong)

/-- 'plexuslaw06.RandomSplit': WHATEVER THE INPUT: true; the input reads as it did. -/
def randomSplitSpec : ChangeSpec := { name := "randomSplit", fn := fun _ => fun
  | [d] => { results := [.lit (.bool true)], args := [d] }
  | _ => none }
def randomSplitRow : OpenClaim := { program := "ytgbeljgpnhpphaa", sum := "41df142db74df84dc8a27c7f71bdc3b8167bd13b017af71a919ce42c384a1428", func := "plexus/plexuslaw06.RandomSplit", spec := "randomSplit", apart := false }
def RandomSplitSaid : Prop := randomSplitRow.holds Try.pinned (OpenSpec.ofChange randomSplitSpec)

/-- ITS FALSE NEIGHBOUR: 'it returns false'. Refute it at one input. -/
def randomSplitWrong : ChangeSpec := { name := "randomSplit", fn := fun _ => fun
  | [d] => { results := [.lit (.bool false)], args := [d] }
  | _ => none }
def RandomSplitWrongFalsely : Prop := randomSplitRow.holds Try.pinned (OpenSpec.ofChange randomSplitWrong)

/-- 'plexuslaw06.RandomSubsets': WHATEVER THE INPUT: true; the input reads as it did. -/
def randomSubsetsSpec : ChangeSpec := { name := "randomSubsets", fn := fun _ => fun
  | [d1, d2, d3, d4] => { results := [.lit (.bool true)], args := [d1, d2, d3, d4] }
  | _ => none }
def randomSubsetsRow : OpenClaim := { program := "ytgbeljgpnhpphaa", sum := "41df142db74df84dc8a27c7f71bdc3b8167bd13b017af71a919ce42c384a1428", func := "plexus/plexuslaw06.RandomSubsets", spec := "randomSubsets", apart := false }
def RandomSubsetsSaid : Prop := randomSubsetsRow.holds Try.pinned (OpenSpec.ofChange randomSubsetsSpec)

/-- ITS FALSE NEIGHBOUR: 'it returns false'. Refute it at one input. -/
def randomSubsetsWrong : ChangeSpec := { name := "randomSubsets", fn := fun _ => fun
  | [d1, d2, d3, d4] => { results := [.lit (.bool false)], args := [d1, d2, d3, d4] }
  | _ => none }
def RandomSubsetsWrongFalsely : Prop := randomSubsetsRow.holds Try.pinned (OpenSpec.ofChange randomSubsetsWrong)

/-- 'plexuslaw06.RandomMix': WHATEVER THE INPUT: true; the input reads as it did. -/
def randomMixSpec : ChangeSpec := { name := "randomMix", fn := fun _ => fun
  | [d] => { results := [.lit (.bool true)], args := [d] }
  | _ => none }
def randomMixRow : OpenClaim := { program := "ytgbeljgpnhpphaa", sum := "41df142db74df84dc8a27c7f71bdc3b8167bd13b017af71a919ce42c384a1428", func := "plexus/plexuslaw06.RandomMix", spec := "randomMix", apart := false }
def RandomMixSaid : Prop := randomMixRow.holds Try.pinned (OpenSpec.ofChange randomMixSpec)

/-- ITS FALSE NEIGHBOUR: 'it returns false'. Refute it at one input. -/
def randomMixWrong : ChangeSpec := { name := "randomMix", fn := fun _ => fun
  | [d] => { results := [.lit (.bool false)], args := [d] }
  | _ => none }
def RandomMixWrongFalsely : Prop := randomMixRow.holds Try.pinned (OpenSpec.ofChange randomMixWrong)

/-- 'plexuslaw06.RandomPermutations': WHATEVER THE INPUT: true; the input reads as it did. -/
def randomPermutationsSpec : ChangeSpec := { name := "randomPermutations", fn := fun _ => fun
  | [d1, d2, d3] => { results := [.lit (.bool true)], args := [d1, d2, d3] }
  | _ => none }
def randomPermutationsRow : OpenClaim := { program := "ytgbeljgpnhpphaa", sum := "41df142db74df84dc8a27c7f71bdc3b8167bd13b017af71a919ce42c384a1428", func := "plexus/plexuslaw06.RandomPermutations", spec := "randomPermutations", apart := false }
def RandomPermutationsSaid : Prop := randomPermutationsRow.holds Try.pinned (OpenSpec.ofChange randomPermutationsSpec)

/-- ITS FALSE NEIGHBOUR: 'it returns false'. Refute it at one input. -/
def randomPermutationsWrong : ChangeSpec := { name := "randomPermutations", fn := fun _ => fun
  | [d1, d2, d3] => { results := [.lit (.bool false)], args := [d1, d2, d3] }
  | _ => none }
def RandomPermutationsWrongFalsely : Prop := randomPermutationsRow.holds Try.pinned (OpenSpec.ofChange randomPermutationsWrong)

/- THE SECOND FORM. 'bulk': how many values and letters a reading holds, each counted each time it is reached (what is shared counts as often as it is met; a slice's spare places count too). A statement '..UptoSaid' is the law's where the arguments, and the package variables that the reading takes, are together of bulk at most 1048576: NARROWER than '..Said'. Prove '..Said' where nothing that the law and all that it calls make is longer than what came in: it says more and counts as full. Else prove '..UptoSaid'. A law counts once. -/
mutual
def uptoBulk {H : Type} : DataW H → Nat
  | .lit (.string bytes) => bytes.length + 1
  | .lit _ => 1
  | .nil => 1
  | .ptr d => uptoBulk d + 1
  | .slice elems spare => uptoBulkAll elems + uptoBulkAll spare + 1
  | .agg parts => uptoBulkAll parts + 1
  | .iface _ d => uptoBulk d + 1
  | .map entries => uptoBulkEntries entries + 1
  | .held _ => 1
def uptoBulkAll {H : Type} : List (DataW H) → Nat
  | [] => 0
  | d :: r => uptoBulk d + uptoBulkAll r
def uptoBulkEntries {H : Type} : List (Lit × DataW H) → Nat
  | [] => 0
  | x :: r => uptoBulkEntry x + uptoBulkEntries r
def uptoBulkEntry {H : Type} : Lit × DataW H → Nat
  | (.string bytes, d) => bytes.length + uptoBulk d + 1
  | (_, d) => uptoBulk d + 1
 end
def uptoSmall : (H : Type) → List (DataW H) → Bool := fun _ ds => decide (uptoBulkAll ds ≤ 1048576)
def OpenSpec.upto (s : _root_.Go.ChangeSpec) : _root_.Go.OpenSpec := { _root_.Go.OpenSpec.ofChange s with cond := some uptoSmall }

/-- 'plexuslaw06.RandomNext', WHERE WHAT IT READS IS OF BULK AT MOST 1048576: true; the input reads as it did. -/
def randomNextUptoRow : OpenClaim := { program := "ytgbeljgpnhpphaa", sum := "41df142db74df84dc8a27c7f71bdc3b8167bd13b017af71a919ce42c384a1428", func := "plexus/plexuslaw06.RandomNext", spec := "randomNext", apart := false, narrowed := true }
def RandomNextUptoSaid : Prop := randomNextUptoRow.holds Try.pinned (OpenSpec.upto randomNextSpec)

/-- 'plexuslaw06.RandomIntn', WHERE WHAT IT READS IS OF BULK AT MOST 1048576: true; the input reads as it did. -/
def randomIntnUptoRow : OpenClaim := { program := "ytgbeljgpnhpphaa", sum := "41df142db74df84dc8a27c7f71bdc3b8167bd13b017af71a919ce42c384a1428", func := "plexus/plexuslaw06.RandomIntn", spec := "randomIntn", apart := false, narrowed := true }
def RandomIntnUptoSaid : Prop := randomIntnUptoRow.holds Try.pinned (OpenSpec.upto randomIntnSpec)

/-- 'plexuslaw06.RandomShuffle', WHERE WHAT IT READS IS OF BULK AT MOST 1048576: true; the input reads as it did. -/
def randomShuffleUptoRow : OpenClaim := { program := "ytgbeljgpnhpphaa", sum := "41df142db74df84dc8a27c7f71bdc3b8167bd13b017af71a919ce42c384a1428", func := "plexus/plexuslaw06.RandomShuffle", spec := "randomShuffle", apart := false, narrowed := true }
def RandomShuffleUptoSaid : Prop := randomShuffleUptoRow.holds Try.pinned (OpenSpec.upto randomShuffleSpec)

/-- 'plexuslaw06.RandomChoose', WHERE WHAT IT READS IS OF BULK AT MOST 1048576: true; the input reads as it did. -/
def randomChooseUptoRow : OpenClaim := { program := "ytgbeljgpnhpphaa", sum := "41df142db74df84dc8a27c7f71bdc3b8167bd13b017af71a919ce42c384a1428", func := "plexus/plexuslaw06.RandomChoose", spec := "randomChoose", apart := false, narrowed := true }
def RandomChooseUptoSaid : Prop := randomChooseUptoRow.holds Try.pinned (OpenSpec.upto randomChooseSpec)

/-- 'plexuslaw06.RandomLexicographic', WHERE WHAT IT READS IS OF BULK AT MOST 1048576: true; the input reads as it did. -/
def randomLexicographicUptoRow : OpenClaim := { program := "ytgbeljgpnhpphaa", sum := "41df142db74df84dc8a27c7f71bdc3b8167bd13b017af71a919ce42c384a1428", func := "plexus/plexuslaw06.RandomLexicographic", spec := "randomLexicographic", apart := false, narrowed := true }
def RandomLexicographicUptoSaid : Prop := randomLexicographicUptoRow.holds Try.pinned (OpenSpec.upto randomLexicographicSpec)

/-- 'plexuslaw06.RandomSkip', WHERE WHAT IT READS IS OF BULK AT MOST 1048576: true; the input reads as it did. -/
def randomSkipUptoRow : OpenClaim := { program := "ytgbeljgpnhpphaa", sum := "41df142db74df84dc8a27c7f71bdc3b8167bd13b017af71a919ce42c384a1428", func := "plexus/plexuslaw06.RandomSkip", spec := "randomSkip", apart := false, narrowed := true }
def RandomSkipUptoSaid : Prop := randomSkipUptoRow.holds Try.pinned (OpenSpec.upto randomSkipSpec)

/-- 'plexuslaw06.RandomSplit', WHERE WHAT IT READS IS OF BULK AT MOST 1048576: true; the input reads as it did. -/
def randomSplitUptoRow : OpenClaim := { program := "ytgbeljgpnhpphaa", sum := "41df142db74df84dc8a27c7f71bdc3b8167bd13b017af71a919ce42c384a1428", func := "plexus/plexuslaw06.RandomSplit", spec := "randomSplit", apart := false, narrowed := true }
def RandomSplitUptoSaid : Prop := randomSplitUptoRow.holds Try.pinned (OpenSpec.upto randomSplitSpec)

/-- 'plexuslaw06.RandomSubsets', WHERE WHAT IT READS IS OF BULK AT MOST 1048576: true; the input reads as it did. -/
def randomSubsetsUptoRow : OpenClaim := { program := "ytgbeljgpnhpphaa", sum := "41df142db74df84dc8a27c7f71bdc3b8167bd13b017af71a919ce42c384a1428", func := "plexus/plexuslaw06.RandomSubsets", spec := "randomSubsets", apart := false, narrowed := true }
def RandomSubsetsUptoSaid : Prop := randomSubsetsUptoRow.holds Try.pinned (OpenSpec.upto randomSubsetsSpec)

/-- 'plexuslaw06.RandomMix', WHERE WHAT IT READS IS OF BULK AT MOST 1048576: true; the input reads as it did. -/
def randomMixUptoRow : OpenClaim := { program := "ytgbeljgpnhpphaa", sum := "41df142db74df84dc8a27c7f71bdc3b8167bd13b017af71a919ce42c384a1428", func := "plexus/plexuslaw06.RandomMix", spec := "randomMix", apart := false, narrowed := true }
def RandomMixUptoSaid : Prop := randomMixUptoRow.holds Try.pinned (OpenSpec.upto randomMixSpec)

/-- 'plexuslaw06.RandomPermutations', WHERE WHAT IT READS IS OF BULK AT MOST 1048576: true; the input reads as it did. -/
def randomPermutationsUptoRow : OpenClaim := { program := "ytgbeljgpnhpphaa", sum := "41df142db74df84dc8a27c7f71bdc3b8167bd13b017af71a919ce42c384a1428", func := "plexus/plexuslaw06.RandomPermutations", spec := "randomPermutations", apart := false, narrowed := true }
def RandomPermutationsUptoSaid : Prop := randomPermutationsUptoRow.holds Try.pinned (OpenSpec.upto randomPermutationsSpec)

end Rows
end Go.Proofs.Ytgbeljgpnhpphaa
