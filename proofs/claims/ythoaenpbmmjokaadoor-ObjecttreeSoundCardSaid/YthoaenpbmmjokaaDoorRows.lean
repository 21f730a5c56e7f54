/-
  NARROWER THAN 'FOR EVERY INPUT', by the rows' own cells (each row's printed sentence says how): ObjecttreeSound: laid · ObjecttreeComplete: laid · ObjecttreeBits: laid · ObjecttreeCodes: laid · ObjecttreeRoots: laid · ObjecttreeBinds: laid · ObjecttreeProves: laid · ObjecttreeChecks: laid.
  DERIVED. THE GIVEN ROWS OF THIS SEAT. 8 by the template 'for every input the law returns true; each argument reads behind the call as it read before'; 0 by the template 'total and deterministic' (their statements: YthoaenpbmmjokaaDoorTotals.lean).
  GIVEN WITH THE SEED: the statements are not yours to turn. If you find one false, say at which input.
  Laid BY PROGRAM, IN A SANDBOX (cutbox-rows.mjs): the forced cells as the released guide's own fill.sh prints them over the translation deead5be2e8bda97… (all of the seat's roots in one cut). By AI agents, Wed Nov 11 2026. No macro, syntax, notation, axiom, sorry.
-/
import Derived.Test.YthoaenpbmmjokaaDoorChecked
import GoSem.Claim
import GoSem.ClaimJoined
import GoSem.ClaimMapViews
import Derived.JoinedTies
import Derived.KernelRfl
namespace Go.Proofs.YthoaenpbmmjokaaDoor
/- THE CELL 'sum', in the pinned program and in every row, IS THE sha256 OF THE DUMP (.gsa) THAT YthoaenpbmmjokaaDoorProg.lean LOADS. Nothing in Lean hashes anything: it is a label: what it is worth is what the hold of that sum in a sandbox is worth. -/
noncomputable def Tryd.pinned : Pinned := { name := "ythoaenpbmmjokaadoor", sum := "deead5be2e8bda972d5cb0096610ca8622f1a81180cc82c7a7790d2e9f5731f1", checked := Tryd.checked }
namespace Rows
def none {H : Type} : Left H := { results := [], args := [] }

/- WHAT THE LISTED PACKAGE-LEVEL VARIABLES READ AS WHEN THE CALL BEGINS. Each datum BY PROGRAM (the guide's laid-datum.mjs) off the statement by which the dump's own 'gosem.cut.vars' lays the variable. In a bare row this is a premise. The card (YthoaenpbmmjokaaDoorCards.lean) ties it to the program's text. -/
def laid_plexus_sha256_constants {H : Type} : DataW H := .agg [.lit (.int .u32 1116352408), .lit (.int .u32 1899447441), .lit (.int .u32 3049323471), .lit (.int .u32 3921009573), .lit (.int .u32 961987163), .lit (.int .u32 1508970993), .lit (.int .u32 2453635748), .lit (.int .u32 2870763221), .lit (.int .u32 3624381080), .lit (.int .u32 310598401), .lit (.int .u32 607225278), .lit (.int .u32 1426881987), .lit (.int .u32 1925078388), .lit (.int .u32 2162078206), .lit (.int .u32 2614888103), .lit (.int .u32 3248222580), .lit (.int .u32 3835390401), .lit (.int .u32 4022224774), .lit (.int .u32 264347078), .lit (.int .u32 604807628), .lit (.int .u32 770255983), .lit (.int .u32 1249150122), .lit (.int .u32 1555081692), .lit (.int .u32 1996064986), .lit (.int .u32 2554220882), .lit (.int .u32 2821834349), .lit (.int .u32 2952996808), .lit (.int .u32 3210313671), .lit (.int .u32 3336571891), .lit (.int .u32 3584528711), .lit (.int .u32 113926993), .lit (.int .u32 338241895), .lit (.int .u32 666307205), .lit (.int .u32 773529912), .lit (.int .u32 1294757372), .lit (.int .u32 1396182291), .lit (.int .u32 1695183700), .lit (.int .u32 1986661051), .lit (.int .u32 2177026350), .lit (.int .u32 2456956037), .lit (.int .u32 2730485921), .lit (.int .u32 2820302411), .lit (.int .u32 3259730800), .lit (.int .u32 3345764771), .lit (.int .u32 3516065817), .lit (.int .u32 3600352804), .lit (.int .u32 4094571909), .lit (.int .u32 275423344), .lit (.int .u32 430227734), .lit (.int .u32 506948616), .lit (.int .u32 659060556), .lit (.int .u32 883997877), .lit (.int .u32 958139571), .lit (.int .u32 1322822218), .lit (.int .u32 1537002063), .lit (.int .u32 1747873779), .lit (.int .u32 1955562222), .lit (.int .u32 2024104815), .lit (.int .u32 2227730452), .lit (.int .u32 2361852424), .lit (.int .u32 2428436474), .lit (.int .u32 2756734187), .lit (.int .u32 3204031479), .lit (.int .u32 3329325298)]

/-- 'plexuslaw40.ObjecttreeSound': WHATEVER THE INPUT: true; the input reads as it did. -/
def objecttreeSoundSpec : ChangeSpec := { name := "objecttreeSound", fn := fun _ => fun
  | [d1, d2] => { results := [.lit (.bool true)], args := [d1, d2] }
  | _ => none }
def objecttreeSoundRow : OpenClaim := { program := "ythoaenpbmmjokaadoor", sum := "deead5be2e8bda972d5cb0096610ca8622f1a81180cc82c7a7790d2e9f5731f1", func := "plexus/plexuslaw40.ObjecttreeSound", spec := "objecttreeSound", inPlace := ["internal/bytealg.MakeNoZero"], recurses := true, named := ["plexus/sha256.constants"], apart := false, laid := [("plexus/sha256.constants", laid_plexus_sha256_constants)] }
def ObjecttreeSoundSaid : Prop := objecttreeSoundRow.holds Tryd.pinned (OpenSpec.ofChange objecttreeSoundSpec)

/-- ITS FALSE NEIGHBOUR: 'it returns false'. Refute it at one input. -/
def objecttreeSoundWrong : ChangeSpec := { name := "objecttreeSound", fn := fun _ => fun
  | [d1, d2] => { results := [.lit (.bool false)], args := [d1, d2] }
  | _ => none }
def ObjecttreeSoundWrongFalsely : Prop := objecttreeSoundRow.holds Tryd.pinned (OpenSpec.ofChange objecttreeSoundWrong)

/-- 'plexuslaw40.ObjecttreeComplete': WHATEVER THE INPUT: true; the input reads as it did. -/
def objecttreeCompleteSpec : ChangeSpec := { name := "objecttreeComplete", fn := fun _ => fun
  | [d1, d2] => { results := [.lit (.bool true)], args := [d1, d2] }
  | _ => none }
def objecttreeCompleteRow : OpenClaim := { program := "ythoaenpbmmjokaadoor", sum := "deead5be2e8bda972d5cb0096610ca8622f1a81180cc82c7a7790d2e9f5731f1", func := "plexus/plexuslaw40.ObjecttreeComplete", spec := "objecttreeComplete", inPlace := ["internal/bytealg.MakeNoZero"], recurses := true, named := ["plexus/sha256.constants"], apart := false, laid := [("plexus/sha256.constants", laid_plexus_sha256_constants)] }
def ObjecttreeCompleteSaid : Prop := objecttreeCompleteRow.holds Tryd.pinned (OpenSpec.ofChange objecttreeCompleteSpec)

/-- ITS FALSE NEIGHBOUR: 'it returns false'. Refute it at one input. -/
def objecttreeCompleteWrong : ChangeSpec := { name := "objecttreeComplete", fn := fun _ => fun
  | [d1, d2] => { results := [.lit (.bool false)], args := [d1, d2] }
  | _ => none }
def ObjecttreeCompleteWrongFalsely : Prop := objecttreeCompleteRow.holds Tryd.pinned (OpenSpec.ofChange objecttreeCompleteWrong)

/-- 'plexuslaw40.ObjecttreeBits': WHATEVER THE INPUT: true; the input reads as it did. -/
def objecttreeBitsSpec : ChangeSpec := { name := "objecttreeBits", fn := fun _ => fun
  | [d1, d2, d3] => { results := [.lit (.bool true)], args := [d1, d2, d3] }
  | _ => none }
def objecttreeBitsRow : OpenClaim := { program := "ythoaenpbmmjokaadoor", sum := "deead5be2e8bda972d5cb0096610ca8622f1a81180cc82c7a7790d2e9f5731f1", func := "plexus/plexuslaw40.ObjecttreeBits", spec := "objecttreeBits", inPlace := ["internal/bytealg.MakeNoZero"], recurses := true, named := ["plexus/sha256.constants"], apart := false, laid := [("plexus/sha256.constants", laid_plexus_sha256_constants)] }
def ObjecttreeBitsSaid : Prop := objecttreeBitsRow.holds Tryd.pinned (OpenSpec.ofChange objecttreeBitsSpec)

/-- ITS FALSE NEIGHBOUR: 'it returns false'. Refute it at one input. -/
def objecttreeBitsWrong : ChangeSpec := { name := "objecttreeBits", fn := fun _ => fun
  | [d1, d2, d3] => { results := [.lit (.bool false)], args := [d1, d2, d3] }
  | _ => none }
def ObjecttreeBitsWrongFalsely : Prop := objecttreeBitsRow.holds Tryd.pinned (OpenSpec.ofChange objecttreeBitsWrong)

/-- 'plexuslaw40.ObjecttreeCodes': WHATEVER THE INPUT: true; the input reads as it did. -/
def objecttreeCodesSpec : ChangeSpec := { name := "objecttreeCodes", fn := fun _ => fun
  | [d1, d2] => { results := [.lit (.bool true)], args := [d1, d2] }
  | _ => none }
def objecttreeCodesRow : OpenClaim := { program := "ythoaenpbmmjokaadoor", sum := "deead5be2e8bda972d5cb0096610ca8622f1a81180cc82c7a7790d2e9f5731f1", func := "plexus/plexuslaw40.ObjecttreeCodes", spec := "objecttreeCodes", inPlace := ["internal/bytealg.MakeNoZero"], recurses := true, named := ["plexus/sha256.constants"], apart := false, laid := [("plexus/sha256.constants", laid_plexus_sha256_constants)] }
def ObjecttreeCodesSaid : Prop := objecttreeCodesRow.holds Tryd.pinned (OpenSpec.ofChange objecttreeCodesSpec)

/-- ITS FALSE NEIGHBOUR: 'it returns false'. Refute it at one input. -/
def objecttreeCodesWrong : ChangeSpec := { name := "objecttreeCodes", fn := fun _ => fun
  | [d1, d2] => { results := [.lit (.bool false)], args := [d1, d2] }
  | _ => none }
def ObjecttreeCodesWrongFalsely : Prop := objecttreeCodesRow.holds Tryd.pinned (OpenSpec.ofChange objecttreeCodesWrong)

/-- 'plexuslaw40.ObjecttreeRoots': WHATEVER THE INPUT: true; the input reads as it did. -/
def objecttreeRootsSpec : ChangeSpec := { name := "objecttreeRoots", fn := fun _ => fun
  | [d] => { results := [.lit (.bool true)], args := [d] }
  | _ => none }
def objecttreeRootsRow : OpenClaim := { program := "ythoaenpbmmjokaadoor", sum := "deead5be2e8bda972d5cb0096610ca8622f1a81180cc82c7a7790d2e9f5731f1", func := "plexus/plexuslaw40.ObjecttreeRoots", spec := "objecttreeRoots", inPlace := ["internal/bytealg.MakeNoZero"], recurses := true, named := ["plexus/sha256.constants"], apart := false, laid := [("plexus/sha256.constants", laid_plexus_sha256_constants)] }
def ObjecttreeRootsSaid : Prop := objecttreeRootsRow.holds Tryd.pinned (OpenSpec.ofChange objecttreeRootsSpec)

/-- ITS FALSE NEIGHBOUR: 'it returns false'. Refute it at one input. -/
def objecttreeRootsWrong : ChangeSpec := { name := "objecttreeRoots", fn := fun _ => fun
  | [d] => { results := [.lit (.bool false)], args := [d] }
  | _ => none }
def ObjecttreeRootsWrongFalsely : Prop := objecttreeRootsRow.holds Tryd.pinned (OpenSpec.ofChange objecttreeRootsWrong)

/-- 'plexuslaw40.ObjecttreeBinds': WHATEVER THE INPUT: true; the input reads as it did. -/
def objecttreeBindsSpec : ChangeSpec := { name := "objecttreeBinds", fn := fun _ => fun
  | [d1, d2] => { results := [.lit (.bool true)], args := [d1, d2] }
  | _ => none }
def objecttreeBindsRow : OpenClaim := { program := "ythoaenpbmmjokaadoor", sum := "deead5be2e8bda972d5cb0096610ca8622f1a81180cc82c7a7790d2e9f5731f1", func := "plexus/plexuslaw40.ObjecttreeBinds", spec := "objecttreeBinds", inPlace := ["internal/bytealg.MakeNoZero"], recurses := true, named := ["plexus/sha256.constants"], apart := false, laid := [("plexus/sha256.constants", laid_plexus_sha256_constants)] }
def ObjecttreeBindsSaid : Prop := objecttreeBindsRow.holds Tryd.pinned (OpenSpec.ofChange objecttreeBindsSpec)

/-- ITS FALSE NEIGHBOUR: 'it returns false'. Refute it at one input. -/
def objecttreeBindsWrong : ChangeSpec := { name := "objecttreeBinds", fn := fun _ => fun
  | [d1, d2] => { results := [.lit (.bool false)], args := [d1, d2] }
  | _ => none }
def ObjecttreeBindsWrongFalsely : Prop := objecttreeBindsRow.holds Tryd.pinned (OpenSpec.ofChange objecttreeBindsWrong)

/-- 'plexuslaw40.ObjecttreeProves': WHATEVER THE INPUT: true; the input reads as it did. -/
def objecttreeProvesSpec : ChangeSpec := { name := "objecttreeProves", fn := fun _ => fun
  | [d1, d2] => { results := [.lit (.bool true)], args := [d1, d2] }
  | _ => none }
def objecttreeProvesRow : OpenClaim := { program := "ythoaenpbmmjokaadoor", sum := "deead5be2e8bda972d5cb0096610ca8622f1a81180cc82c7a7790d2e9f5731f1", func := "plexus/plexuslaw40.ObjecttreeProves", spec := "objecttreeProves", inPlace := ["internal/bytealg.MakeNoZero"], recurses := true, named := ["plexus/sha256.constants"], apart := false, laid := [("plexus/sha256.constants", laid_plexus_sha256_constants)] }
def ObjecttreeProvesSaid : Prop := objecttreeProvesRow.holds Tryd.pinned (OpenSpec.ofChange objecttreeProvesSpec)

/-- ITS FALSE NEIGHBOUR: 'it returns false'. Refute it at one input. -/
def objecttreeProvesWrong : ChangeSpec := { name := "objecttreeProves", fn := fun _ => fun
  | [d1, d2] => { results := [.lit (.bool false)], args := [d1, d2] }
  | _ => none }
def ObjecttreeProvesWrongFalsely : Prop := objecttreeProvesRow.holds Tryd.pinned (OpenSpec.ofChange objecttreeProvesWrong)

/-- 'plexuslaw40.ObjecttreeChecks': WHATEVER THE INPUT: true; the input reads as it did. -/
def objecttreeChecksSpec : ChangeSpec := { name := "objecttreeChecks", fn := fun _ => fun
  | [d1, d2] => { results := [.lit (.bool true)], args := [d1, d2] }
  | _ => none }
def objecttreeChecksRow : OpenClaim := { program := "ythoaenpbmmjokaadoor", sum := "deead5be2e8bda972d5cb0096610ca8622f1a81180cc82c7a7790d2e9f5731f1", func := "plexus/plexuslaw40.ObjecttreeChecks", spec := "objecttreeChecks", inPlace := ["internal/bytealg.MakeNoZero"], recurses := true, named := ["plexus/sha256.constants"], apart := false, laid := [("plexus/sha256.constants", laid_plexus_sha256_constants)] }
def ObjecttreeChecksSaid : Prop := objecttreeChecksRow.holds Tryd.pinned (OpenSpec.ofChange objecttreeChecksSpec)

/-- ITS FALSE NEIGHBOUR: 'it returns false'. Refute it at one input. -/
def objecttreeChecksWrong : ChangeSpec := { name := "objecttreeChecks", fn := fun _ => fun
  | [d1, d2] => { results := [.lit (.bool false)], args := [d1, d2] }
  | _ => none }
def ObjecttreeChecksWrongFalsely : Prop := objecttreeChecksRow.holds Tryd.pinned (OpenSpec.ofChange objecttreeChecksWrong)

/- THE SECOND FORM. 'bulk': how many values and letters a reading holds, each counted each time it is reached (what is shared counts as often as it is met; a slice's spare places count too). A statement '..UptoSaid' is the law's where the arguments, and the package variables that the reading takes, are together of bulk at most 1048576: NARROWER than '..Said'. Prove '..Said' where nothing that the law and all that it calls make is longer than what came in: it says more and counts as full. Else prove '..UptoSaid'. A law counts once. -/
mutual
def uptoBulk {H : Type} : DataW H → Nat
  | .lit (.string bytes) => bytes.length + 1
  | .lit _ => 1
  | .nil => 1
  | .ptr d => uptoBulk d + 1
  | .slice elems spare => uptoBulkAll elems + uptoBulkAll spare + 1
  | .agg parts => uptoBulkAll parts + 1
  | .iface _ d => uptoBulk d + 1
  | .map entries => uptoBulkEntries entries + 1
  | .held _ => 1
def uptoBulkAll {H : Type} : List (DataW H) → Nat
  | [] => 0
  | d :: r => uptoBulk d + uptoBulkAll r
def uptoBulkEntries {H : Type} : List (Lit × DataW H) → Nat
  | [] => 0
  | x :: r => uptoBulkEntry x + uptoBulkEntries r
def uptoBulkEntry {H : Type} : Lit × DataW H → Nat
  | (.string bytes, d) => bytes.length + uptoBulk d + 1
  | (_, d) => uptoBulk d + 1
 end
def uptoSmall : (H : Type) → List (DataW H) → Bool := fun _ ds => decide (uptoBulkAll ds ≤ 1048576)
def OpenSpec.upto (s : _root_.Go.ChangeSpec) : _root_.Go.OpenSpec := { _root_.Go.OpenSpec.ofChange s with cond := some uptoSmall }

/-- 'plexuslaw40.ObjecttreeSound', WHERE WHAT IT READS IS OF BULK AT MOST 1048576: true; the input reads as it did. -/
def objecttreeSoundUptoRow : OpenClaim := { program := "ythoaenpbmmjokaadoor", sum := "deead5be2e8bda972d5cb0096610ca8622f1a81180cc82c7a7790d2e9f5731f1", func := "plexus/plexuslaw40.ObjecttreeSound", spec := "objecttreeSound", inPlace := ["internal/bytealg.MakeNoZero"], recurses := true, named := ["plexus/sha256.constants"], apart := false, laid := [("plexus/sha256.constants", laid_plexus_sha256_constants)], narrowed := true }
def ObjecttreeSoundUptoSaid : Prop := objecttreeSoundUptoRow.holds Tryd.pinned (OpenSpec.upto objecttreeSoundSpec)

/-- 'plexuslaw40.ObjecttreeComplete', WHERE WHAT IT READS IS OF BULK AT MOST 1048576: true; the input reads as it did. -/
def objecttreeCompleteUptoRow : OpenClaim := { program := "ythoaenpbmmjokaadoor", sum := "deead5be2e8bda972d5cb0096610ca8622f1a81180cc82c7a7790d2e9f5731f1", func := "plexus/plexuslaw40.ObjecttreeComplete", spec := "objecttreeComplete", inPlace := ["internal/bytealg.MakeNoZero"], recurses := true, named := ["plexus/sha256.constants"], apart := false, laid := [("plexus/sha256.constants", laid_plexus_sha256_constants)], narrowed := true }
def ObjecttreeCompleteUptoSaid : Prop := objecttreeCompleteUptoRow.holds Tryd.pinned (OpenSpec.upto objecttreeCompleteSpec)

/-- 'plexuslaw40.ObjecttreeBits', WHERE WHAT IT READS IS OF BULK AT MOST 1048576: true; the input reads as it did. -/
def objecttreeBitsUptoRow : OpenClaim := { program := "ythoaenpbmmjokaadoor", sum := "deead5be2e8bda972d5cb0096610ca8622f1a81180cc82c7a7790d2e9f5731f1", func := "plexus/plexuslaw40.ObjecttreeBits", spec := "objecttreeBits", inPlace := ["internal/bytealg.MakeNoZero"], recurses := true, named := ["plexus/sha256.constants"], apart := false, laid := [("plexus/sha256.constants", laid_plexus_sha256_constants)], narrowed := true }
def ObjecttreeBitsUptoSaid : Prop := objecttreeBitsUptoRow.holds Tryd.pinned (OpenSpec.upto objecttreeBitsSpec)

/-- 'plexuslaw40.ObjecttreeCodes', WHERE WHAT IT READS IS OF BULK AT MOST 1048576: true; the input reads as it did. -/
def objecttreeCodesUptoRow : OpenClaim := { program := "ythoaenpbmmjokaadoor", sum := "deead5be2e8bda972d5cb0096610ca8622f1a81180cc82c7a7790d2e9f5731f1", func := "plexus/plexuslaw40.ObjecttreeCodes", spec := "objecttreeCodes", inPlace := ["internal/bytealg.MakeNoZero"], recurses := true, named := ["plexus/sha256.constants"], apart := false, laid := [("plexus/sha256.constants", laid_plexus_sha256_constants)], narrowed := true }
def ObjecttreeCodesUptoSaid : Prop := objecttreeCodesUptoRow.holds Tryd.pinned (OpenSpec.upto objecttreeCodesSpec)

/-- 'plexuslaw40.ObjecttreeRoots', WHERE WHAT IT READS IS OF BULK AT MOST 1048576: true; the input reads as it did. -/
def objecttreeRootsUptoRow : OpenClaim := { program := "ythoaenpbmmjokaadoor", sum := "deead5be2e8bda972d5cb0096610ca8622f1a81180cc82c7a7790d2e9f5731f1", func := "plexus/plexuslaw40.ObjecttreeRoots", spec := "objecttreeRoots", inPlace := ["internal/bytealg.MakeNoZero"], recurses := true, named := ["plexus/sha256.constants"], apart := false, laid := [("plexus/sha256.constants", laid_plexus_sha256_constants)], narrowed := true }
def ObjecttreeRootsUptoSaid : Prop := objecttreeRootsUptoRow.holds Tryd.pinned (OpenSpec.upto objecttreeRootsSpec)

/-- 'plexuslaw40.ObjecttreeBinds', WHERE WHAT IT READS IS OF BULK AT MOST 1048576: true; the input reads as it did. -/
def objecttreeBindsUptoRow : OpenClaim := { program := "ythoaenpbmmjokaadoor", sum := "deead5be2e8bda972d5cb0096610ca8622f1a81180cc82c7a7790d2e9f5731f1", func := "plexus/plexuslaw40.ObjecttreeBinds", spec := "objecttreeBinds", inPlace := ["internal/bytealg.MakeNoZero"], recurses := true, named := ["plexus/sha256.constants"], apart := false, laid := [("plexus/sha256.constants", laid_plexus_sha256_constants)], narrowed := true }
def ObjecttreeBindsUptoSaid : Prop := objecttreeBindsUptoRow.holds Tryd.pinned (OpenSpec.upto objecttreeBindsSpec)

/-- 'plexuslaw40.ObjecttreeProves', WHERE WHAT IT READS IS OF BULK AT MOST 1048576: true; the input reads as it did. -/
def objecttreeProvesUptoRow : OpenClaim := { program := "ythoaenpbmmjokaadoor", sum := "deead5be2e8bda972d5cb0096610ca8622f1a81180cc82c7a7790d2e9f5731f1", func := "plexus/plexuslaw40.ObjecttreeProves", spec := "objecttreeProves", inPlace := ["internal/bytealg.MakeNoZero"], recurses := true, named := ["plexus/sha256.constants"], apart := false, laid := [("plexus/sha256.constants", laid_plexus_sha256_constants)], narrowed := true }
def ObjecttreeProvesUptoSaid : Prop := objecttreeProvesUptoRow.holds Tryd.pinned (OpenSpec.upto objecttreeProvesSpec)

/-- 'plexuslaw40.ObjecttreeChecks', WHERE WHAT IT READS IS OF BULK AT MOST 1048576: true; the input reads as it did. -/
def objecttreeChecksUptoRow : OpenClaim := { program := "ythoaenpbmmjokaadoor", sum := "deead5be2e8bda972d5cb0096610ca8622f1a81180cc82c7a7790d2e9f5731f1", func := "plexus/plexuslaw40.ObjecttreeChecks", spec := "objecttreeChecks", inPlace := ["internal/bytealg.MakeNoZero"], recurses := true, named := ["plexus/sha256.constants"], apart := false, laid := [("plexus/sha256.constants", laid_plexus_sha256_constants)], narrowed := true }
def ObjecttreeChecksUptoSaid : Prop := objecttreeChecksUptoRow.holds Tryd.pinned (OpenSpec.upto objecttreeChecksSpec)

end Rows
end Go.Proofs.YthoaenpbmmjokaaDoor
