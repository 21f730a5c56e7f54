/-
  DERIVED. GIVEN WITH THE SEED: THE CARDS: each row of YtacbbfmjjfbpoaaDoorRows.lean that lists a variable, with what it lists TIED to the program's text (the seventh form; the later family's looks); each row that meets fmt, with fmt's text TOLD by the authors' own Lean function (tested against real Go, not proved from fmt's source: count such statements apart). THE CARD IS WHAT COUNTS. Prove the row's statement (the work); the ties are given (YtacbbfmjjfbpoaaDoorTie.lean); close each card by the builder's one call (the guide's Derived/Test/ToyasCard.lean, 'card_holds'). Laid BY PROGRAM, IN A SANDBOX (cutbox-door.mjs). By AI agents, Wed Nov 11 2026. No macro, syntax, notation, axiom, sorry.
-/
import Derived.Test.YtacbbfmjjfbpoaaDoorRows
import GoSem.ClaimSeven
namespace Go.Proofs.YtacbbfmjjfbpoaaDoor
namespace Rows

/-- THE TIED CARD OF 'plexuslaw03.ShaSums'. -/
def shaSumsCard : Claim7 := { stood := { row := shaSumsRow, standIns := [], harness := (true, "c36a641a97199600a290cf2d815f755bb3c1251b8a7734016bc327650e0da27f"), looks := false }, kinds := [], alts := [], laidByText := true, laidKinds := [.data], laidTests := true, laidLooks := .later }
def ShaSumsCardSaid : Prop := Claim7.holds Tryd.pinned (.plain (OpenSpec.ofChange shaSumsSpec)) shaSumsCard

/-- THE TIED CARD OF 'plexuslaw03.ShaCuts'. -/
def shaCutsCard : Claim7 := { stood := { row := shaCutsRow, standIns := [], harness := (true, "c36a641a97199600a290cf2d815f755bb3c1251b8a7734016bc327650e0da27f"), looks := false }, kinds := [], alts := [], laidByText := true, laidKinds := [.data], laidTests := true, laidLooks := .later }
def ShaCutsCardSaid : Prop := Claim7.holds Tryd.pinned (.plain (OpenSpec.ofChange shaCutsSpec)) shaCutsCard

/-- THE TIED CARD OF 'plexuslaw03.ShaInterrupts'. -/
def shaInterruptsCard : Claim7 := { stood := { row := shaInterruptsRow, standIns := [], harness := (true, "c36a641a97199600a290cf2d815f755bb3c1251b8a7734016bc327650e0da27f"), looks := false }, kinds := [], alts := [], laidByText := true, laidKinds := [.data], laidTests := true, laidLooks := .later }
def ShaInterruptsCardSaid : Prop := Claim7.holds Tryd.pinned (.plain (OpenSpec.ofChange shaInterruptsSpec)) shaInterruptsCard

/-- THE TIED CARD OF 'plexuslaw03.ShaClones'. -/
def shaClonesCard : Claim7 := { stood := { row := shaClonesRow, standIns := [], harness := (true, "c36a641a97199600a290cf2d815f755bb3c1251b8a7734016bc327650e0da27f"), looks := false }, kinds := [], alts := [], laidByText := true, laidKinds := [.data], laidTests := true, laidLooks := .later }
def ShaClonesCardSaid : Prop := Claim7.holds Tryd.pinned (.plain (OpenSpec.ofChange shaClonesSpec)) shaClonesCard

/-- THE TIED CARD OF 'plexuslaw03.ShaForgets'. -/
def shaForgetsCard : Claim7 := { stood := { row := shaForgetsRow, standIns := [], harness := (true, "c36a641a97199600a290cf2d815f755bb3c1251b8a7734016bc327650e0da27f"), looks := false }, kinds := [], alts := [], laidByText := true, laidKinds := [.data], laidTests := true, laidLooks := .later }
def ShaForgetsCardSaid : Prop := Claim7.holds Tryd.pinned (.plain (OpenSpec.ofChange shaForgetsSpec)) shaForgetsCard

/-- THE TIED CARD OF 'plexuslaw03.ShaHex'. -/
def shaHexCard : Claim7 := { stood := { row := shaHexRow, standIns := [], harness := (true, "c36a641a97199600a290cf2d815f755bb3c1251b8a7734016bc327650e0da27f"), looks := false }, kinds := [], alts := [], laidByText := true, laidKinds := [.data], laidTests := true, laidLooks := .later }
def ShaHexCardSaid : Prop := Claim7.holds Tryd.pinned (.plain (OpenSpec.ofChange shaHexSpec)) shaHexCard

/-- THE TIED CARD OF 'plexuslaw03.ShaUnhex'. -/
def shaUnhexCard : Claim7 := { stood := { row := shaUnhexRow, standIns := [], harness := (true, "c36a641a97199600a290cf2d815f755bb3c1251b8a7734016bc327650e0da27f"), looks := false }, kinds := [], alts := [], laidByText := true, laidKinds := [.data], laidTests := true, laidLooks := .later }
def ShaUnhexCardSaid : Prop := Claim7.holds Tryd.pinned (.plain (OpenSpec.ofChange shaUnhexSpec)) shaUnhexCard

/-- THE SECOND FORM's CARD OF 'plexuslaw03.ShaSums'. -/
def shaSumsUptoCard : Claim7 := { stood := { row := shaSumsUptoRow, standIns := [], harness := (true, "c36a641a97199600a290cf2d815f755bb3c1251b8a7734016bc327650e0da27f"), looks := false }, kinds := [], alts := [], laidByText := true, laidKinds := [.data], laidTests := true, laidLooks := .later }
def ShaSumsUptoCardSaid : Prop := Claim7.holds Tryd.pinned (.plain (OpenSpec.upto shaSumsSpec)) shaSumsUptoCard

/-- THE SECOND FORM's CARD OF 'plexuslaw03.ShaCuts'. -/
def shaCutsUptoCard : Claim7 := { stood := { row := shaCutsUptoRow, standIns := [], harness := (true, "c36a641a97199600a290cf2d815f755bb3c1251b8a7734016bc327650e0da27f"), looks := false }, kinds := [], alts := [], laidByText := true, laidKinds := [.data], laidTests := true, laidLooks := .later }
def ShaCutsUptoCardSaid : Prop := Claim7.holds Tryd.pinned (.plain (OpenSpec.upto shaCutsSpec)) shaCutsUptoCard

/-- THE SECOND FORM's CARD OF 'plexuslaw03.ShaInterrupts'. -/
def shaInterruptsUptoCard : Claim7 := { stood := { row := shaInterruptsUptoRow, standIns := [], harness := (true, "c36a641a97199600a290cf2d815f755bb3c1251b8a7734016bc327650e0da27f"), looks := false }, kinds := [], alts := [], laidByText := true, laidKinds := [.data], laidTests := true, laidLooks := .later }
def ShaInterruptsUptoCardSaid : Prop := Claim7.holds Tryd.pinned (.plain (OpenSpec.upto shaInterruptsSpec)) shaInterruptsUptoCard

/-- THE SECOND FORM's CARD OF 'plexuslaw03.ShaClones'. -/
def shaClonesUptoCard : Claim7 := { stood := { row := shaClonesUptoRow, standIns := [], harness := (true, "c36a641a97199600a290cf2d815f755bb3c1251b8a7734016bc327650e0da27f"), looks := false }, kinds := [], alts := [], laidByText := true, laidKinds := [.data], laidTests := true, laidLooks := .later }
def ShaClonesUptoCardSaid : Prop := Claim7.holds Tryd.pinned (.plain (OpenSpec.upto shaClonesSpec)) shaClonesUptoCard

/-- THE SECOND FORM's CARD OF 'plexuslaw03.ShaForgets'. -/
def shaForgetsUptoCard : Claim7 := { stood := { row := shaForgetsUptoRow, standIns := [], harness := (true, "c36a641a97199600a290cf2d815f755bb3c1251b8a7734016bc327650e0da27f"), looks := false }, kinds := [], alts := [], laidByText := true, laidKinds := [.data], laidTests := true, laidLooks := .later }
def ShaForgetsUptoCardSaid : Prop := Claim7.holds Tryd.pinned (.plain (OpenSpec.upto shaForgetsSpec)) shaForgetsUptoCard

/-- THE SECOND FORM's CARD OF 'plexuslaw03.ShaHex'. -/
def shaHexUptoCard : Claim7 := { stood := { row := shaHexUptoRow, standIns := [], harness := (true, "c36a641a97199600a290cf2d815f755bb3c1251b8a7734016bc327650e0da27f"), looks := false }, kinds := [], alts := [], laidByText := true, laidKinds := [.data], laidTests := true, laidLooks := .later }
def ShaHexUptoCardSaid : Prop := Claim7.holds Tryd.pinned (.plain (OpenSpec.upto shaHexSpec)) shaHexUptoCard

/-- THE SECOND FORM's CARD OF 'plexuslaw03.ShaUnhex'. -/
def shaUnhexUptoCard : Claim7 := { stood := { row := shaUnhexUptoRow, standIns := [], harness := (true, "c36a641a97199600a290cf2d815f755bb3c1251b8a7734016bc327650e0da27f"), looks := false }, kinds := [], alts := [], laidByText := true, laidKinds := [.data], laidTests := true, laidLooks := .later }
def ShaUnhexUptoCardSaid : Prop := Claim7.holds Tryd.pinned (.plain (OpenSpec.upto shaUnhexSpec)) shaUnhexUptoCard
end Rows
end Go.Proofs.YtacbbfmjjfbpoaaDoor
