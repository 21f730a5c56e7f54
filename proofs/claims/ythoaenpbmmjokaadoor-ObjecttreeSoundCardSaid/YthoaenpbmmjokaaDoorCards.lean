/-
  DERIVED. GIVEN WITH THE SEED: THE CARDS: each row of YthoaenpbmmjokaaDoorRows.lean that lists a variable, with what it lists TIED to the program's text (the seventh form; the later family's looks); each row that meets fmt, with fmt's text TOLD by the authors' own Lean function (tested against real Go, not proved from fmt's source: count such statements apart). THE CARD IS WHAT COUNTS. Prove the row's statement (the work); the ties are given (YthoaenpbmmjokaaDoorTie.lean); close each card by the builder's one call (the guide's Derived/Test/ToyasCard.lean, 'card_holds'). Laid BY PROGRAM, IN A SANDBOX (cutbox-door.mjs). By AI agents, Wed Nov 11 2026. No macro, syntax, notation, axiom, sorry.
-/
import Derived.Test.YthoaenpbmmjokaaDoorRows
import GoSem.ClaimSeven
namespace Go.Proofs.YthoaenpbmmjokaaDoor
namespace Rows

/-- THE TIED CARD OF 'plexuslaw40.ObjecttreeSound'. -/
def objecttreeSoundCard : Claim7 := { stood := { row := objecttreeSoundRow, standIns := [], harness := (true, "5c70fcacfd03a7b3a5fdcb287ac806bf917241de8217148ac23ea2fb023393a1"), looks := false }, kinds := [], alts := [], laidByText := true, laidKinds := [.data], laidTests := true, laidLooks := .later }
def ObjecttreeSoundCardSaid : Prop := Claim7.holds Tryd.pinned (.plain (OpenSpec.ofChange objecttreeSoundSpec)) objecttreeSoundCard

/-- THE TIED CARD OF 'plexuslaw40.ObjecttreeComplete'. -/
def objecttreeCompleteCard : Claim7 := { stood := { row := objecttreeCompleteRow, standIns := [], harness := (true, "5c70fcacfd03a7b3a5fdcb287ac806bf917241de8217148ac23ea2fb023393a1"), looks := false }, kinds := [], alts := [], laidByText := true, laidKinds := [.data], laidTests := true, laidLooks := .later }
def ObjecttreeCompleteCardSaid : Prop := Claim7.holds Tryd.pinned (.plain (OpenSpec.ofChange objecttreeCompleteSpec)) objecttreeCompleteCard

/-- THE TIED CARD OF 'plexuslaw40.ObjecttreeBits'. -/
def objecttreeBitsCard : Claim7 := { stood := { row := objecttreeBitsRow, standIns := [], harness := (true, "5c70fcacfd03a7b3a5fdcb287ac806bf917241de8217148ac23ea2fb023393a1"), looks := false }, kinds := [], alts := [], laidByText := true, laidKinds := [.data], laidTests := true, laidLooks := .later }
def ObjecttreeBitsCardSaid : Prop := Claim7.holds Tryd.pinned (.plain (OpenSpec.ofChange objecttreeBitsSpec)) objecttreeBitsCard

/-- THE TIED CARD OF 'plexuslaw40.ObjecttreeCodes'. -/
def objecttreeCodesCard : Claim7 := { stood := { row := objecttreeCodesRow, standIns := [], harness := (true, "5c70fcacfd03a7b3a5fdcb287ac806bf917241de8217148ac23ea2fb023393a1"), looks := false }, kinds := [], alts := [], laidByText := true, laidKinds := [.data], laidTests := true, laidLooks := .later }
def ObjecttreeCodesCardSaid : Prop := Claim7.holds Tryd.pinned (.plain (OpenSpec.ofChange objecttreeCodesSpec)) objecttreeCodesCard

/-- THE TIED CARD OF 'plexuslaw40.ObjecttreeRoots'. -/
def objecttreeRootsCard : Claim7 := { stood := { row := objecttreeRootsRow, standIns := [], harness := (true, "5c70fcacfd03a7b3a5fdcb287ac806bf917241de8217148ac23ea2fb023393a1"), looks := false }, kinds := [], alts := [], laidByText := true, laidKinds := [.data], laidTests := true, laidLooks := .later }
def ObjecttreeRootsCardSaid : Prop := Claim7.holds Tryd.pinned (.plain (OpenSpec.ofChange objecttreeRootsSpec)) objecttreeRootsCard

/-- THE TIED CARD OF 'plexuslaw40.ObjecttreeBinds'. -/
def objecttreeBindsCard : Claim7 := { stood := { row := objecttreeBindsRow, standIns := [], harness := (true, "5c70fcacfd03a7b3a5fdcb287ac806bf917241de8217148ac23ea2fb023393a1"), looks := false }, kinds := [], alts := [], laidByText := true, laidKinds := [.data], laidTests := true, laidLooks := .later }
def ObjecttreeBindsCardSaid : Prop := Claim7.holds Tryd.pinned (.plain (OpenSpec.ofChange objecttreeBindsSpec)) objecttreeBindsCard

/-- THE TIED CARD OF 'plexuslaw40.ObjecttreeProves'. -/
def objecttreeProvesCard : Claim7 := { stood := { row := objecttreeProvesRow, standIns := [], harness := (true, "5c70fcacfd03a7b3a5fdcb287ac806bf917241de8217148ac23ea2fb023393a1"), looks := false }, kinds := [], alts := [], laidByText := true, laidKinds := [.data], laidTests := true, laidLooks := .later }
def ObjecttreeProvesCardSaid : Prop := Claim7.holds Tryd.pinned (.plain (OpenSpec.ofChange objecttreeProvesSpec)) objecttreeProvesCard

/-- THE TIED CARD OF 'plexuslaw40.ObjecttreeChecks'. -/
def objecttreeChecksCard : Claim7 := { stood := { row := objecttreeChecksRow, standIns := [], harness := (true, "5c70fcacfd03a7b3a5fdcb287ac806bf917241de8217148ac23ea2fb023393a1"), looks := false }, kinds := [], alts := [], laidByText := true, laidKinds := [.data], laidTests := true, laidLooks := .later }
def ObjecttreeChecksCardSaid : Prop := Claim7.holds Tryd.pinned (.plain (OpenSpec.ofChange objecttreeChecksSpec)) objecttreeChecksCard

/-- THE SECOND FORM's CARD OF 'plexuslaw40.ObjecttreeSound'. -/
def objecttreeSoundUptoCard : Claim7 := { stood := { row := objecttreeSoundUptoRow, standIns := [], harness := (true, "5c70fcacfd03a7b3a5fdcb287ac806bf917241de8217148ac23ea2fb023393a1"), looks := false }, kinds := [], alts := [], laidByText := true, laidKinds := [.data], laidTests := true, laidLooks := .later }
def ObjecttreeSoundUptoCardSaid : Prop := Claim7.holds Tryd.pinned (.plain (OpenSpec.upto objecttreeSoundSpec)) objecttreeSoundUptoCard

/-- THE SECOND FORM's CARD OF 'plexuslaw40.ObjecttreeComplete'. -/
def objecttreeCompleteUptoCard : Claim7 := { stood := { row := objecttreeCompleteUptoRow, standIns := [], harness := (true, "5c70fcacfd03a7b3a5fdcb287ac806bf917241de8217148ac23ea2fb023393a1"), looks := false }, kinds := [], alts := [], laidByText := true, laidKinds := [.data], laidTests := true, laidLooks := .later }
def ObjecttreeCompleteUptoCardSaid : Prop := Claim7.holds Tryd.pinned (.plain (OpenSpec.upto objecttreeCompleteSpec)) objecttreeCompleteUptoCard

/-- THE SECOND FORM's CARD OF 'plexuslaw40.ObjecttreeBits'. -/
def objecttreeBitsUptoCard : Claim7 := { stood := { row := objecttreeBitsUptoRow, standIns := [], harness := (true, "5c70fcacfd03a7b3a5fdcb287ac806bf917241de8217148ac23ea2fb023393a1"), looks := false }, kinds := [], alts := [], laidByText := true, laidKinds := [.data], laidTests := true, laidLooks := .later }
def ObjecttreeBitsUptoCardSaid : Prop := Claim7.holds Tryd.pinned (.plain (OpenSpec.upto objecttreeBitsSpec)) objecttreeBitsUptoCard

/-- THE SECOND FORM's CARD OF 'plexuslaw40.ObjecttreeCodes'. -/
def objecttreeCodesUptoCard : Claim7 := { stood := { row := objecttreeCodesUptoRow, standIns := [], harness := (true, "5c70fcacfd03a7b3a5fdcb287ac806bf917241de8217148ac23ea2fb023393a1"), looks := false }, kinds := [], alts := [], laidByText := true, laidKinds := [.data], laidTests := true, laidLooks := .later }
def ObjecttreeCodesUptoCardSaid : Prop := Claim7.holds Tryd.pinned (.plain (OpenSpec.upto objecttreeCodesSpec)) objecttreeCodesUptoCard

/-- THE SECOND FORM's CARD OF 'plexuslaw40.ObjecttreeRoots'. -/
def objecttreeRootsUptoCard : Claim7 := { stood := { row := objecttreeRootsUptoRow, standIns := [], harness := (true, "5c70fcacfd03a7b3a5fdcb287ac806bf917241de8217148ac23ea2fb023393a1"), looks := false }, kinds := [], alts := [], laidByText := true, laidKinds := [.data], laidTests := true, laidLooks := .later }
def ObjecttreeRootsUptoCardSaid : Prop := Claim7.holds Tryd.pinned (.plain (OpenSpec.upto objecttreeRootsSpec)) objecttreeRootsUptoCard

/-- THE SECOND FORM's CARD OF 'plexuslaw40.ObjecttreeBinds'. -/
def objecttreeBindsUptoCard : Claim7 := { stood := { row := objecttreeBindsUptoRow, standIns := [], harness := (true, "5c70fcacfd03a7b3a5fdcb287ac806bf917241de8217148ac23ea2fb023393a1"), looks := false }, kinds := [], alts := [], laidByText := true, laidKinds := [.data], laidTests := true, laidLooks := .later }
def ObjecttreeBindsUptoCardSaid : Prop := Claim7.holds Tryd.pinned (.plain (OpenSpec.upto objecttreeBindsSpec)) objecttreeBindsUptoCard

/-- THE SECOND FORM's CARD OF 'plexuslaw40.ObjecttreeProves'. -/
def objecttreeProvesUptoCard : Claim7 := { stood := { row := objecttreeProvesUptoRow, standIns := [], harness := (true, "5c70fcacfd03a7b3a5fdcb287ac806bf917241de8217148ac23ea2fb023393a1"), looks := false }, kinds := [], alts := [], laidByText := true, laidKinds := [.data], laidTests := true, laidLooks := .later }
def ObjecttreeProvesUptoCardSaid : Prop := Claim7.holds Tryd.pinned (.plain (OpenSpec.upto objecttreeProvesSpec)) objecttreeProvesUptoCard

/-- THE SECOND FORM's CARD OF 'plexuslaw40.ObjecttreeChecks'. -/
def objecttreeChecksUptoCard : Claim7 := { stood := { row := objecttreeChecksUptoRow, standIns := [], harness := (true, "5c70fcacfd03a7b3a5fdcb287ac806bf917241de8217148ac23ea2fb023393a1"), looks := false }, kinds := [], alts := [], laidByText := true, laidKinds := [.data], laidTests := true, laidLooks := .later }
def ObjecttreeChecksUptoCardSaid : Prop := Claim7.holds Tryd.pinned (.plain (OpenSpec.upto objecttreeChecksSpec)) objecttreeChecksUptoCard
end Rows
end Go.Proofs.YthoaenpbmmjokaaDoor
