/-
  DERIVED. GIVEN WITH THE SEED: THE CARDS: each row of YtlofgcglnpjceaaDoorRows.lean that lists a variable, with what it lists TIED to the program's text (the seventh form; the later family's looks); each row that meets fmt, with fmt's text TOLD by the authors' own Lean function (tested against real Go, not proved from fmt's source: count such statements apart). THE CARD IS WHAT COUNTS. Prove the row's statement (the work); the ties are given (YtlofgcglnpjceaaDoorTie.lean); close each card by the builder's one call (the guide's Derived/Test/ToyasCard.lean, 'card_holds'). Laid BY PROGRAM, IN A SANDBOX (cutbox-door.mjs). By AI agents, Wed Nov 11 2026. No macro, syntax, notation, axiom, sorry.
-/
import Derived.Test.YtlofgcglnpjceaaDoorRows
import GoSem.ClaimSeven
namespace Go.Proofs.YtlofgcglnpjceaaDoor
namespace Rows

/-- THE TIED CARD OF 'plexuslaw05.KeyedTag'. -/
def keyedTagCard : Claim7 := { stood := { row := keyedTagRow, standIns := [], harness := (true, "84d99069385340493baaefa515164d8f6f0250448fd02ff8a3c22619613b4c06"), looks := false }, kinds := [], alts := [], laidByText := true, laidKinds := [.data], laidTests := true, laidLooks := .later }
def KeyedTagCardSaid : Prop := Claim7.holds Tryd.pinned (.plain (OpenSpec.ofChange keyedTagSpec)) keyedTagCard

/-- THE TIED CARD OF 'plexuslaw05.KeyedDerive'. -/
def keyedDeriveCard : Claim7 := { stood := { row := keyedDeriveRow, standIns := [], harness := (true, "84d99069385340493baaefa515164d8f6f0250448fd02ff8a3c22619613b4c06"), looks := false }, kinds := [], alts := [], laidByText := true, laidKinds := [.data], laidTests := true, laidLooks := .later }
def KeyedDeriveCardSaid : Prop := Claim7.holds Tryd.pinned (.plain (OpenSpec.ofChange keyedDeriveSpec)) keyedDeriveCard

/-- THE TIED CARD OF 'plexuslaw05.KeyedPlays'. -/
def keyedPlaysCard : Claim7 := { stood := { row := keyedPlaysRow, standIns := [], harness := (true, "84d99069385340493baaefa515164d8f6f0250448fd02ff8a3c22619613b4c06"), looks := false }, kinds := [], alts := [], laidByText := true, laidKinds := [.data], laidTests := true, laidLooks := .later }
def KeyedPlaysCardSaid : Prop := Claim7.holds Tryd.pinned (.plain (OpenSpec.ofChange keyedPlaysSpec)) keyedPlaysCard

/-- THE TIED CARD OF 'plexuslaw05.KeyedShared'. -/
def keyedSharedCard : Claim7 := { stood := { row := keyedSharedRow, standIns := [], harness := (true, "84d99069385340493baaefa515164d8f6f0250448fd02ff8a3c22619613b4c06"), looks := false }, kinds := [], alts := [], laidByText := true, laidKinds := [.data], laidTests := true, laidLooks := .later }
def KeyedSharedCardSaid : Prop := Claim7.holds Tryd.pinned (.plain (OpenSpec.ofChange keyedSharedSpec)) keyedSharedCard

/-- THE TIED CARD OF 'plexuslaw05.KeyedStale'. -/
def keyedStaleCard : Claim7 := { stood := { row := keyedStaleRow, standIns := [], harness := (true, "84d99069385340493baaefa515164d8f6f0250448fd02ff8a3c22619613b4c06"), looks := false }, kinds := [], alts := [], laidByText := true, laidKinds := [.data], laidTests := true, laidLooks := .later }
def KeyedStaleCardSaid : Prop := Claim7.holds Tryd.pinned (.plain (OpenSpec.ofChange keyedStaleSpec)) keyedStaleCard

/-- THE TIED CARD OF 'plexuslaw05.KeyedBlocks'. -/
def keyedBlocksCard : Claim7 := { stood := { row := keyedBlocksRow, standIns := [], harness := (true, "84d99069385340493baaefa515164d8f6f0250448fd02ff8a3c22619613b4c06"), looks := false }, kinds := [], alts := [], laidByText := true, laidKinds := [.data], laidTests := true, laidLooks := .later }
def KeyedBlocksCardSaid : Prop := Claim7.holds Tryd.pinned (.plain (OpenSpec.ofChange keyedBlocksSpec)) keyedBlocksCard

/-- THE TIED CARD OF 'plexuslaw05.KeyedMemory'. -/
def keyedMemoryCard : Claim7 := { stood := { row := keyedMemoryRow, standIns := [], harness := (true, "84d99069385340493baaefa515164d8f6f0250448fd02ff8a3c22619613b4c06"), looks := false }, kinds := [], alts := [], laidByText := true, laidKinds := [.data], laidTests := true, laidLooks := .later }
def KeyedMemoryCardSaid : Prop := Claim7.holds Tryd.pinned (.plain (OpenSpec.ofChange keyedMemorySpec)) keyedMemoryCard

/-- THE SECOND FORM's CARD OF 'plexuslaw05.KeyedTag'. -/
def keyedTagUptoCard : Claim7 := { stood := { row := keyedTagUptoRow, standIns := [], harness := (true, "84d99069385340493baaefa515164d8f6f0250448fd02ff8a3c22619613b4c06"), looks := false }, kinds := [], alts := [], laidByText := true, laidKinds := [.data], laidTests := true, laidLooks := .later }
def KeyedTagUptoCardSaid : Prop := Claim7.holds Tryd.pinned (.plain (OpenSpec.upto keyedTagSpec)) keyedTagUptoCard

/-- THE SECOND FORM's CARD OF 'plexuslaw05.KeyedDerive'. -/
def keyedDeriveUptoCard : Claim7 := { stood := { row := keyedDeriveUptoRow, standIns := [], harness := (true, "84d99069385340493baaefa515164d8f6f0250448fd02ff8a3c22619613b4c06"), looks := false }, kinds := [], alts := [], laidByText := true, laidKinds := [.data], laidTests := true, laidLooks := .later }
def KeyedDeriveUptoCardSaid : Prop := Claim7.holds Tryd.pinned (.plain (OpenSpec.upto keyedDeriveSpec)) keyedDeriveUptoCard

/-- THE SECOND FORM's CARD OF 'plexuslaw05.KeyedPlays'. -/
def keyedPlaysUptoCard : Claim7 := { stood := { row := keyedPlaysUptoRow, standIns := [], harness := (true, "84d99069385340493baaefa515164d8f6f0250448fd02ff8a3c22619613b4c06"), looks := false }, kinds := [], alts := [], laidByText := true, laidKinds := [.data], laidTests := true, laidLooks := .later }
def KeyedPlaysUptoCardSaid : Prop := Claim7.holds Tryd.pinned (.plain (OpenSpec.upto keyedPlaysSpec)) keyedPlaysUptoCard

/-- THE SECOND FORM's CARD OF 'plexuslaw05.KeyedShared'. -/
def keyedSharedUptoCard : Claim7 := { stood := { row := keyedSharedUptoRow, standIns := [], harness := (true, "84d99069385340493baaefa515164d8f6f0250448fd02ff8a3c22619613b4c06"), looks := false }, kinds := [], alts := [], laidByText := true, laidKinds := [.data], laidTests := true, laidLooks := .later }
def KeyedSharedUptoCardSaid : Prop := Claim7.holds Tryd.pinned (.plain (OpenSpec.upto keyedSharedSpec)) keyedSharedUptoCard

/-- THE SECOND FORM's CARD OF 'plexuslaw05.KeyedStale'. -/
def keyedStaleUptoCard : Claim7 := { stood := { row := keyedStaleUptoRow, standIns := [], harness := (true, "84d99069385340493baaefa515164d8f6f0250448fd02ff8a3c22619613b4c06"), looks := false }, kinds := [], alts := [], laidByText := true, laidKinds := [.data], laidTests := true, laidLooks := .later }
def KeyedStaleUptoCardSaid : Prop := Claim7.holds Tryd.pinned (.plain (OpenSpec.upto keyedStaleSpec)) keyedStaleUptoCard

/-- THE SECOND FORM's CARD OF 'plexuslaw05.KeyedBlocks'. -/
def keyedBlocksUptoCard : Claim7 := { stood := { row := keyedBlocksUptoRow, standIns := [], harness := (true, "84d99069385340493baaefa515164d8f6f0250448fd02ff8a3c22619613b4c06"), looks := false }, kinds := [], alts := [], laidByText := true, laidKinds := [.data], laidTests := true, laidLooks := .later }
def KeyedBlocksUptoCardSaid : Prop := Claim7.holds Tryd.pinned (.plain (OpenSpec.upto keyedBlocksSpec)) keyedBlocksUptoCard

/-- THE SECOND FORM's CARD OF 'plexuslaw05.KeyedMemory'. -/
def keyedMemoryUptoCard : Claim7 := { stood := { row := keyedMemoryUptoRow, standIns := [], harness := (true, "84d99069385340493baaefa515164d8f6f0250448fd02ff8a3c22619613b4c06"), looks := false }, kinds := [], alts := [], laidByText := true, laidKinds := [.data], laidTests := true, laidLooks := .later }
def KeyedMemoryUptoCardSaid : Prop := Claim7.holds Tryd.pinned (.plain (OpenSpec.upto keyedMemorySpec)) keyedMemoryUptoCard
end Rows
end Go.Proofs.YtlofgcglnpjceaaDoor
