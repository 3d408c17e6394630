/-
  DERIVED. GIVEN WITH THE SEED: THE CARDS: each row of YtpapbnmacjoihaaDoorRows.lean that lists a variable, with what it lists TIED to the program's text (the seventh form; the later family's looks); each row that meets fmt, with fmt's text TOLD by the authors' own Lean function (tested against real Go, not proved from fmt's source: count such statements apart). THE CARD IS WHAT COUNTS. Prove the row's statement (the work); the ties are given (YtpapbnmacjoihaaDoorTie.lean); close each card by the builder's one call (the guide's Derived/Test/ToyasCard.lean, 'card_holds'). Laid BY PROGRAM, IN A SANDBOX (cutbox-door.mjs). By AI agents, Wed Nov 11 2026. No macro, syntax, notation, axiom, sorry.
-/
import Derived.Test.YtpapbnmacjoihaaDoorRows
import GoSem.ClaimSeven
namespace Go.Proofs.YtpapbnmacjoihaaDoor
namespace Rows

/-- THE TIED CARD OF 'bindlelaw04.HeadParses'. -/
def headParsesCard : Claim7 := { stood := { row := headParsesRow, standIns := [], harness := (true, "d3697ccb9857dcadba2a689db06ea9bd5c509b1757d1c93e0fbba0513503a95f"), looks := false }, kinds := [], alts := [], laidByText := true, laidKinds := [.data, .wider, .data, .data, .data, .data, .data, .wider, .wider, .wider, .wider, .pinned], laidTests := true, laidLooks := .later }
def HeadParsesCardSaid : Prop := Claim7.holds Tryd.pinned (.plain (OpenSpec.ofChange headParsesSpec)) headParsesCard

/-- THE TIED CARD OF 'bindlelaw04.HeadPuts'. -/
def headPutsCard : Claim7 := { stood := { row := headPutsRow, standIns := [], harness := (true, "d3697ccb9857dcadba2a689db06ea9bd5c509b1757d1c93e0fbba0513503a95f"), looks := false }, kinds := [], alts := [], laidByText := true, laidKinds := [.data, .wider, .data, .data, .data, .data, .data, .wider, .wider, .wider, .wider, .pinned], laidTests := true, laidLooks := .later }
def HeadPutsCardSaid : Prop := Claim7.holds Tryd.pinned (.plain (OpenSpec.ofChange headPutsSpec)) headPutsCard

/-- THE TIED CARD OF 'bindlelaw04.HeadSums'. -/
def headSumsCard : Claim7 := { stood := { row := headSumsRow, standIns := [], harness := (true, "d3697ccb9857dcadba2a689db06ea9bd5c509b1757d1c93e0fbba0513503a95f"), looks := false }, kinds := [], alts := [], laidByText := true, laidKinds := [.data, .wider, .data, .data, .data, .data, .data, .wider, .wider, .wider, .wider, .pinned], laidTests := true, laidLooks := .later }
def HeadSumsCardSaid : Prop := Claim7.holds Tryd.pinned (.plain (OpenSpec.ofChange headSumsSpec)) headSumsCard

/-- THE TIED CARD OF 'bindlelaw04.HeadCuts'. -/
def headCutsCard : Claim7 := { stood := { row := headCutsRow, standIns := [], harness := (true, "d3697ccb9857dcadba2a689db06ea9bd5c509b1757d1c93e0fbba0513503a95f"), looks := false }, kinds := [], alts := [], laidByText := true, laidKinds := [.data, .wider, .data, .data, .data, .data, .data, .wider, .wider, .wider, .wider, .pinned], laidTests := true, laidLooks := .later }
def HeadCutsCardSaid : Prop := Claim7.holds Tryd.pinned (.plain (OpenSpec.ofChange headCutsSpec)) headCutsCard

/-- THE TIED CARD OF 'bindlelaw04.HeadZero'. -/
def headZeroCard : Claim7 := { stood := { row := headZeroRow, standIns := [], harness := (true, "d3697ccb9857dcadba2a689db06ea9bd5c509b1757d1c93e0fbba0513503a95f"), looks := false }, kinds := [], alts := [], laidByText := true, laidKinds := [.data, .wider, .data, .data, .data, .data, .data, .wider, .wider, .wider, .wider, .pinned], laidTests := true, laidLooks := .later }
def HeadZeroCardSaid : Prop := Claim7.holds Tryd.pinned (.plain (OpenSpec.ofChange headZeroSpec)) headZeroCard

/-- THE TIED CARD OF 'bindlelaw04.HeadFree'. -/
def headFreeCard : Claim7 := { stood := { row := headFreeRow, standIns := [], harness := (true, "d3697ccb9857dcadba2a689db06ea9bd5c509b1757d1c93e0fbba0513503a95f"), looks := false }, kinds := [], alts := [], laidByText := true, laidKinds := [.data, .wider, .data, .data, .data, .data, .data, .wider, .wider, .wider, .wider, .pinned], laidTests := true, laidLooks := .later }
def HeadFreeCardSaid : Prop := Claim7.holds Tryd.pinned (.plain (OpenSpec.ofChange headFreeSpec)) headFreeCard

/-- THE TIED CARD OF 'bindlelaw09.WritePuts'. -/
def writePutsCard : Claim7 := { stood := { row := writePutsRow, standIns := [], harness := (true, "d3697ccb9857dcadba2a689db06ea9bd5c509b1757d1c93e0fbba0513503a95f"), looks := false }, kinds := [], alts := [], laidByText := true, laidKinds := [.data, .data, .data, .data, .wider, .data, .data, .data, .data, .data, .wider, .wider, .wider, .wider, .pinned], laidTests := true, laidLooks := .later }
def WritePutsCardSaid : Prop := Claim7.holds Tryd.pinned (.plain (OpenSpec.ofChange writePutsSpec)) writePutsCard

/-- THE TIED CARD OF 'bindlelaw09.WriteJoins'. -/
def writeJoinsCard : Claim7 := { stood := { row := writeJoinsRow, standIns := [], harness := (true, "d3697ccb9857dcadba2a689db06ea9bd5c509b1757d1c93e0fbba0513503a95f"), looks := false }, kinds := [], alts := [], laidByText := true, laidKinds := [.data, .data, .data, .data, .wider, .data, .data, .data, .data, .data, .wider, .wider, .wider, .wider, .pinned], laidTests := true, laidLooks := .later }
def WriteJoinsCardSaid : Prop := Claim7.holds Tryd.pinned (.plain (OpenSpec.ofChange writeJoinsSpec)) writeJoinsCard

/-- THE TIED CARD OF 'bindlelaw09.WriteShort'. -/
def writeShortCard : Claim7 := { stood := { row := writeShortRow, standIns := [], harness := (true, "d3697ccb9857dcadba2a689db06ea9bd5c509b1757d1c93e0fbba0513503a95f"), looks := false }, kinds := [], alts := [], laidByText := true, laidKinds := [.data, .data, .data, .data, .wider, .data, .data, .data, .data, .data, .wider, .wider, .wider, .wider, .pinned], laidTests := true, laidLooks := .later }
def WriteShortCardSaid : Prop := Claim7.holds Tryd.pinned (.plain (OpenSpec.ofChange writeShortSpec)) writeShortCard

/-- THE SECOND FORM's CARD OF 'bindlelaw04.HeadParses'. -/
def headParsesUptoCard : Claim7 := { stood := { row := headParsesUptoRow, standIns := [], harness := (true, "d3697ccb9857dcadba2a689db06ea9bd5c509b1757d1c93e0fbba0513503a95f"), looks := false }, kinds := [], alts := [], laidByText := true, laidKinds := [.data, .wider, .data, .data, .data, .data, .data, .wider, .wider, .wider, .wider, .pinned], laidTests := true, laidLooks := .later }
def HeadParsesUptoCardSaid : Prop := Claim7.holds Tryd.pinned (.plain (OpenSpec.upto headParsesSpec)) headParsesUptoCard

/-- THE SECOND FORM's CARD OF 'bindlelaw04.HeadPuts'. -/
def headPutsUptoCard : Claim7 := { stood := { row := headPutsUptoRow, standIns := [], harness := (true, "d3697ccb9857dcadba2a689db06ea9bd5c509b1757d1c93e0fbba0513503a95f"), looks := false }, kinds := [], alts := [], laidByText := true, laidKinds := [.data, .wider, .data, .data, .data, .data, .data, .wider, .wider, .wider, .wider, .pinned], laidTests := true, laidLooks := .later }
def HeadPutsUptoCardSaid : Prop := Claim7.holds Tryd.pinned (.plain (OpenSpec.upto headPutsSpec)) headPutsUptoCard

/-- THE SECOND FORM's CARD OF 'bindlelaw04.HeadSums'. -/
def headSumsUptoCard : Claim7 := { stood := { row := headSumsUptoRow, standIns := [], harness := (true, "d3697ccb9857dcadba2a689db06ea9bd5c509b1757d1c93e0fbba0513503a95f"), looks := false }, kinds := [], alts := [], laidByText := true, laidKinds := [.data, .wider, .data, .data, .data, .data, .data, .wider, .wider, .wider, .wider, .pinned], laidTests := true, laidLooks := .later }
def HeadSumsUptoCardSaid : Prop := Claim7.holds Tryd.pinned (.plain (OpenSpec.upto headSumsSpec)) headSumsUptoCard

/-- THE SECOND FORM's CARD OF 'bindlelaw04.HeadCuts'. -/
def headCutsUptoCard : Claim7 := { stood := { row := headCutsUptoRow, standIns := [], harness := (true, "d3697ccb9857dcadba2a689db06ea9bd5c509b1757d1c93e0fbba0513503a95f"), looks := false }, kinds := [], alts := [], laidByText := true, laidKinds := [.data, .wider, .data, .data, .data, .data, .data, .wider, .wider, .wider, .wider, .pinned], laidTests := true, laidLooks := .later }
def HeadCutsUptoCardSaid : Prop := Claim7.holds Tryd.pinned (.plain (OpenSpec.upto headCutsSpec)) headCutsUptoCard

/-- THE SECOND FORM's CARD OF 'bindlelaw04.HeadZero'. -/
def headZeroUptoCard : Claim7 := { stood := { row := headZeroUptoRow, standIns := [], harness := (true, "d3697ccb9857dcadba2a689db06ea9bd5c509b1757d1c93e0fbba0513503a95f"), looks := false }, kinds := [], alts := [], laidByText := true, laidKinds := [.data, .wider, .data, .data, .data, .data, .data, .wider, .wider, .wider, .wider, .pinned], laidTests := true, laidLooks := .later }
def HeadZeroUptoCardSaid : Prop := Claim7.holds Tryd.pinned (.plain (OpenSpec.upto headZeroSpec)) headZeroUptoCard

/-- THE SECOND FORM's CARD OF 'bindlelaw04.HeadFree'. -/
def headFreeUptoCard : Claim7 := { stood := { row := headFreeUptoRow, standIns := [], harness := (true, "d3697ccb9857dcadba2a689db06ea9bd5c509b1757d1c93e0fbba0513503a95f"), looks := false }, kinds := [], alts := [], laidByText := true, laidKinds := [.data, .wider, .data, .data, .data, .data, .data, .wider, .wider, .wider, .wider, .pinned], laidTests := true, laidLooks := .later }
def HeadFreeUptoCardSaid : Prop := Claim7.holds Tryd.pinned (.plain (OpenSpec.upto headFreeSpec)) headFreeUptoCard

/-- THE SECOND FORM's CARD OF 'bindlelaw09.WritePuts'. -/
def writePutsUptoCard : Claim7 := { stood := { row := writePutsUptoRow, standIns := [], harness := (true, "d3697ccb9857dcadba2a689db06ea9bd5c509b1757d1c93e0fbba0513503a95f"), looks := false }, kinds := [], alts := [], laidByText := true, laidKinds := [.data, .data, .data, .data, .wider, .data, .data, .data, .data, .data, .wider, .wider, .wider, .wider, .pinned], laidTests := true, laidLooks := .later }
def WritePutsUptoCardSaid : Prop := Claim7.holds Tryd.pinned (.plain (OpenSpec.upto writePutsSpec)) writePutsUptoCard

/-- THE SECOND FORM's CARD OF 'bindlelaw09.WriteJoins'. -/
def writeJoinsUptoCard : Claim7 := { stood := { row := writeJoinsUptoRow, standIns := [], harness := (true, "d3697ccb9857dcadba2a689db06ea9bd5c509b1757d1c93e0fbba0513503a95f"), looks := false }, kinds := [], alts := [], laidByText := true, laidKinds := [.data, .data, .data, .data, .wider, .data, .data, .data, .data, .data, .wider, .wider, .wider, .wider, .pinned], laidTests := true, laidLooks := .later }
def WriteJoinsUptoCardSaid : Prop := Claim7.holds Tryd.pinned (.plain (OpenSpec.upto writeJoinsSpec)) writeJoinsUptoCard

/-- THE SECOND FORM's CARD OF 'bindlelaw09.WriteShort'. -/
def writeShortUptoCard : Claim7 := { stood := { row := writeShortUptoRow, standIns := [], harness := (true, "d3697ccb9857dcadba2a689db06ea9bd5c509b1757d1c93e0fbba0513503a95f"), looks := false }, kinds := [], alts := [], laidByText := true, laidKinds := [.data, .data, .data, .data, .wider, .data, .data, .data, .data, .data, .wider, .wider, .wider, .wider, .pinned], laidTests := true, laidLooks := .later }
def WriteShortUptoCardSaid : Prop := Claim7.holds Tryd.pinned (.plain (OpenSpec.upto writeShortSpec)) writeShortUptoCard
end Rows
end Go.Proofs.YtpapbnmacjoihaaDoor
