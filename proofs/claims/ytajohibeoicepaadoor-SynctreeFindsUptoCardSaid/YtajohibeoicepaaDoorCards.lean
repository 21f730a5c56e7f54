/-
  DERIVED. GIVEN WITH THE SEED: THE CARDS: each row of YtajohibeoicepaaDoorRows.lean that lists a variable, with what it lists TIED to the program's text (the seventh form; the later family's looks); each row that meets fmt, with fmt's text TOLD by the authors' own Lean function (tested against real Go, not proved from fmt's source: count such statements apart). THE CARD IS WHAT COUNTS. Prove the row's statement (the work); the ties are given (YtajohibeoicepaaDoorTie.lean); close each card by the builder's one call (the guide's Derived/Test/ToyasCard.lean, 'card_holds'). Laid BY PROGRAM, IN A SANDBOX (cutbox-door.mjs). By AI agents, Wed Nov 11 2026. No macro, syntax, notation, axiom, sorry.
-/
import Derived.Test.YtajohibeoicepaaDoorRows
import GoSem.ClaimSeven
namespace Go.Proofs.YtajohibeoicepaaDoor
namespace Rows

/-- THE TIED CARD OF 'plexuslaw45.SynctreeParts'. -/
def synctreePartsCard : Claim7 := { stood := { row := synctreePartsRow, standIns := [], harness := (true, "63aee3a38e31a81faa24aea9874006938dc820d5e8d3ec454f5cfca756c0d73d"), looks := false }, kinds := [], alts := [], laidByText := true, laidKinds := [.data], laidTests := true, laidLooks := .later }
def SynctreePartsCardSaid : Prop := Claim7.holds Tryd.pinned (.plain (OpenSpec.ofChange synctreePartsSpec)) synctreePartsCard

/-- THE TIED CARD OF 'plexuslaw45.SynctreeSplits'. -/
def synctreeSplitsCard : Claim7 := { stood := { row := synctreeSplitsRow, standIns := [], harness := (true, "63aee3a38e31a81faa24aea9874006938dc820d5e8d3ec454f5cfca756c0d73d"), looks := false }, kinds := [], alts := [], laidByText := true, laidKinds := [.data], laidTests := true, laidLooks := .later }
def SynctreeSplitsCardSaid : Prop := Claim7.holds Tryd.pinned (.plain (OpenSpec.ofChange synctreeSplitsSpec)) synctreeSplitsCard

/-- THE TIED CARD OF 'plexuslaw45.SynctreeValid'. -/
def synctreeValidCard : Claim7 := { stood := { row := synctreeValidRow, standIns := [], harness := (true, "63aee3a38e31a81faa24aea9874006938dc820d5e8d3ec454f5cfca756c0d73d"), looks := false }, kinds := [], alts := [], laidByText := true, laidKinds := [.data], laidTests := true, laidLooks := .later }
def SynctreeValidCardSaid : Prop := Claim7.holds Tryd.pinned (.plain (OpenSpec.ofChange synctreeValidSpec)) synctreeValidCard

/-- THE TIED CARD OF 'plexuslaw45.SynctreeAnswers'. -/
def synctreeAnswersCard : Claim7 := { stood := { row := synctreeAnswersRow, standIns := [], harness := (true, "63aee3a38e31a81faa24aea9874006938dc820d5e8d3ec454f5cfca756c0d73d"), looks := false }, kinds := [], alts := [], laidByText := true, laidKinds := [.data], laidTests := true, laidLooks := .later }
def SynctreeAnswersCardSaid : Prop := Claim7.holds Tryd.pinned (.plain (OpenSpec.ofChange synctreeAnswersSpec)) synctreeAnswersCard

/-- THE TIED CARD OF 'plexuslaw45.SynctreeDiffers'. -/
def synctreeDiffersCard : Claim7 := { stood := { row := synctreeDiffersRow, standIns := [], harness := (true, "63aee3a38e31a81faa24aea9874006938dc820d5e8d3ec454f5cfca756c0d73d"), looks := false }, kinds := [], alts := [], laidByText := true, laidKinds := [.data], laidTests := true, laidLooks := .later }
def SynctreeDiffersCardSaid : Prop := Claim7.holds Tryd.pinned (.plain (OpenSpec.ofChange synctreeDiffersSpec)) synctreeDiffersCard

/-- THE TIED CARD OF 'plexuslaw45.SynctreeFinds'. -/
def synctreeFindsCard : Claim7 := { stood := { row := synctreeFindsRow, standIns := [], harness := (true, "63aee3a38e31a81faa24aea9874006938dc820d5e8d3ec454f5cfca756c0d73d"), looks := false }, kinds := [], alts := [], laidByText := true, laidKinds := [.data], laidTests := true, laidLooks := .later }
def SynctreeFindsCardSaid : Prop := Claim7.holds Tryd.pinned (.plain (OpenSpec.ofChange synctreeFindsSpec)) synctreeFindsCard

/-- THE SECOND FORM's CARD OF 'plexuslaw45.SynctreeParts'. -/
def synctreePartsUptoCard : Claim7 := { stood := { row := synctreePartsUptoRow, standIns := [], harness := (true, "63aee3a38e31a81faa24aea9874006938dc820d5e8d3ec454f5cfca756c0d73d"), looks := false }, kinds := [], alts := [], laidByText := true, laidKinds := [.data], laidTests := true, laidLooks := .later }
def SynctreePartsUptoCardSaid : Prop := Claim7.holds Tryd.pinned (.plain (OpenSpec.upto synctreePartsSpec)) synctreePartsUptoCard

/-- THE SECOND FORM's CARD OF 'plexuslaw45.SynctreeSplits'. -/
def synctreeSplitsUptoCard : Claim7 := { stood := { row := synctreeSplitsUptoRow, standIns := [], harness := (true, "63aee3a38e31a81faa24aea9874006938dc820d5e8d3ec454f5cfca756c0d73d"), looks := false }, kinds := [], alts := [], laidByText := true, laidKinds := [.data], laidTests := true, laidLooks := .later }
def SynctreeSplitsUptoCardSaid : Prop := Claim7.holds Tryd.pinned (.plain (OpenSpec.upto synctreeSplitsSpec)) synctreeSplitsUptoCard

/-- THE SECOND FORM's CARD OF 'plexuslaw45.SynctreeValid'. -/
def synctreeValidUptoCard : Claim7 := { stood := { row := synctreeValidUptoRow, standIns := [], harness := (true, "63aee3a38e31a81faa24aea9874006938dc820d5e8d3ec454f5cfca756c0d73d"), looks := false }, kinds := [], alts := [], laidByText := true, laidKinds := [.data], laidTests := true, laidLooks := .later }
def SynctreeValidUptoCardSaid : Prop := Claim7.holds Tryd.pinned (.plain (OpenSpec.upto synctreeValidSpec)) synctreeValidUptoCard

/-- THE SECOND FORM's CARD OF 'plexuslaw45.SynctreeAnswers'. -/
def synctreeAnswersUptoCard : Claim7 := { stood := { row := synctreeAnswersUptoRow, standIns := [], harness := (true, "63aee3a38e31a81faa24aea9874006938dc820d5e8d3ec454f5cfca756c0d73d"), looks := false }, kinds := [], alts := [], laidByText := true, laidKinds := [.data], laidTests := true, laidLooks := .later }
def SynctreeAnswersUptoCardSaid : Prop := Claim7.holds Tryd.pinned (.plain (OpenSpec.upto synctreeAnswersSpec)) synctreeAnswersUptoCard

/-- THE SECOND FORM's CARD OF 'plexuslaw45.SynctreeDiffers'. -/
def synctreeDiffersUptoCard : Claim7 := { stood := { row := synctreeDiffersUptoRow, standIns := [], harness := (true, "63aee3a38e31a81faa24aea9874006938dc820d5e8d3ec454f5cfca756c0d73d"), looks := false }, kinds := [], alts := [], laidByText := true, laidKinds := [.data], laidTests := true, laidLooks := .later }
def SynctreeDiffersUptoCardSaid : Prop := Claim7.holds Tryd.pinned (.plain (OpenSpec.upto synctreeDiffersSpec)) synctreeDiffersUptoCard

/-- THE SECOND FORM's CARD OF 'plexuslaw45.SynctreeFinds'. -/
def synctreeFindsUptoCard : Claim7 := { stood := { row := synctreeFindsUptoRow, standIns := [], harness := (true, "63aee3a38e31a81faa24aea9874006938dc820d5e8d3ec454f5cfca756c0d73d"), looks := false }, kinds := [], alts := [], laidByText := true, laidKinds := [.data], laidTests := true, laidLooks := .later }
def SynctreeFindsUptoCardSaid : Prop := Claim7.holds Tryd.pinned (.plain (OpenSpec.upto synctreeFindsSpec)) synctreeFindsUptoCard
end Rows
end Go.Proofs.YtajohibeoicepaaDoor
