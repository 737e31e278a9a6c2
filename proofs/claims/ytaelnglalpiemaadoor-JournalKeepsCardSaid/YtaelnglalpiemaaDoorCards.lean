/-
  DERIVED. GIVEN WITH THE SEED: THE CARDS: each row of YtaelnglalpiemaaDoorRows.lean that lists a variable, with what it lists TIED to the program's text (the seventh form; the later family's looks); each row that meets fmt, with fmt's text TOLD by the authors' own Lean function (tested against real Go, not proved from fmt's source: count such statements apart). THE CARD IS WHAT COUNTS. Prove the row's statement (the work); the ties are given (YtaelnglalpiemaaDoorTie.lean); close each card by the builder's one call (the guide's Derived/Test/ToyasCard.lean, 'card_holds'). Laid BY PROGRAM, IN A SANDBOX (cutbox-door.mjs). By AI agents, Wed Nov 11 2026. No macro, syntax, notation, axiom, sorry.
-/
import Derived.Test.YtaelnglalpiemaaDoorRows
import GoSem.ClaimSeven
namespace Go.Proofs.YtaelnglalpiemaaDoor
namespace Rows

/-- THE TIED CARD OF 'macaroonlaw12.CaveatValid'. -/
def caveatValidCard : Claim7 := { stood := { row := caveatValidRow, standIns := [], harness := (true, "fb0df57a04796a6d53f498e1ae172a5f7cb0f745b3ef42f4317e03a271a61f8b"), looks := false }, kinds := [], alts := [], laidByText := true, laidKinds := [.data], laidTests := true, laidLooks := .later }
def CaveatValidCardSaid : Prop := Claim7.holds Tryd.pinned (.plain (OpenSpec.ofChange caveatValidSpec)) caveatValidCard

/-- THE TIED CARD OF 'macaroonlaw19.JournalFrame'. -/
def journalFrameCard : Claim7 := { stood := { row := journalFrameRow, standIns := [], harness := (true, "fb0df57a04796a6d53f498e1ae172a5f7cb0f745b3ef42f4317e03a271a61f8b"), looks := false }, kinds := [], alts := [], laidByText := true, laidKinds := [.data], laidTests := true, laidLooks := .later }
def JournalFrameCardSaid : Prop := Claim7.holds Tryd.pinned (.plain (OpenSpec.ofChange journalFrameSpec)) journalFrameCard

/-- THE TIED CARD OF 'macaroonlaw19.JournalKeeps'. -/
def journalKeepsCard : Claim7 := { stood := { row := journalKeepsRow, standIns := [], harness := (true, "fb0df57a04796a6d53f498e1ae172a5f7cb0f745b3ef42f4317e03a271a61f8b"), looks := false }, kinds := [], alts := [], laidByText := true, laidKinds := [.data], laidTests := true, laidLooks := .later }
def JournalKeepsCardSaid : Prop := Claim7.holds Tryd.pinned (.plain (OpenSpec.ofChange journalKeepsSpec)) journalKeepsCard

/-- THE TIED CARD OF 'macaroonlaw19.JournalWrite'. -/
def journalWriteCard : Claim7 := { stood := { row := journalWriteRow, standIns := [], harness := (true, "fb0df57a04796a6d53f498e1ae172a5f7cb0f745b3ef42f4317e03a271a61f8b"), looks := false }, kinds := [], alts := [], laidByText := true, laidKinds := [.data], laidTests := true, laidLooks := .later }
def JournalWriteCardSaid : Prop := Claim7.holds Tryd.pinned (.plain (OpenSpec.ofChange journalWriteSpec)) journalWriteCard

/-- THE TIED CARD OF 'macaroonlaw19.JournalSwitch'. -/
def journalSwitchCard : Claim7 := { stood := { row := journalSwitchRow, standIns := [], harness := (true, "fb0df57a04796a6d53f498e1ae172a5f7cb0f745b3ef42f4317e03a271a61f8b"), looks := false }, kinds := [], alts := [], laidByText := true, laidKinds := [.data], laidTests := true, laidLooks := .later }
def JournalSwitchCardSaid : Prop := Claim7.holds Tryd.pinned (.plain (OpenSpec.ofChange journalSwitchSpec)) journalSwitchCard

/-- THE TIED CARD OF 'macaroonlaw12.CaveatCode'. -/
def caveatCodeCard : Claim7 := { stood := { row := caveatCodeRow, standIns := [], harness := (true, "fb0df57a04796a6d53f498e1ae172a5f7cb0f745b3ef42f4317e03a271a61f8b"), looks := false }, kinds := [], alts := [], laidByText := true, laidKinds := [.data], laidTests := true, laidLooks := .later }
def CaveatCodeCardSaid : Prop := Claim7.holds Tryd.pinned (.plain (OpenSpec.ofChange caveatCodeSpec)) caveatCodeCard

/-- THE TIED CARD OF 'macaroonlaw12.CaveatBack'. -/
def caveatBackCard : Claim7 := { stood := { row := caveatBackRow, standIns := [], harness := (true, "fb0df57a04796a6d53f498e1ae172a5f7cb0f745b3ef42f4317e03a271a61f8b"), looks := false }, kinds := [], alts := [], laidByText := true, laidKinds := [.data], laidTests := true, laidLooks := .later }
def CaveatBackCardSaid : Prop := Claim7.holds Tryd.pinned (.plain (OpenSpec.ofChange caveatBackSpec)) caveatBackCard

/-- THE TIED CARD OF 'macaroonlaw12.CaveatUnique'. -/
def caveatUniqueCard : Claim7 := { stood := { row := caveatUniqueRow, standIns := [], harness := (true, "fb0df57a04796a6d53f498e1ae172a5f7cb0f745b3ef42f4317e03a271a61f8b"), looks := false }, kinds := [], alts := [], laidByText := true, laidKinds := [.data], laidTests := true, laidLooks := .later }
def CaveatUniqueCardSaid : Prop := Claim7.holds Tryd.pinned (.plain (OpenSpec.ofChange caveatUniqueSpec)) caveatUniqueCard

/-- THE SECOND FORM's CARD OF 'macaroonlaw12.CaveatValid'. -/
def caveatValidUptoCard : Claim7 := { stood := { row := caveatValidUptoRow, standIns := [], harness := (true, "fb0df57a04796a6d53f498e1ae172a5f7cb0f745b3ef42f4317e03a271a61f8b"), looks := false }, kinds := [], alts := [], laidByText := true, laidKinds := [.data], laidTests := true, laidLooks := .later }
def CaveatValidUptoCardSaid : Prop := Claim7.holds Tryd.pinned (.plain (OpenSpec.upto caveatValidSpec)) caveatValidUptoCard

/-- THE SECOND FORM's CARD OF 'macaroonlaw19.JournalFrame'. -/
def journalFrameUptoCard : Claim7 := { stood := { row := journalFrameUptoRow, standIns := [], harness := (true, "fb0df57a04796a6d53f498e1ae172a5f7cb0f745b3ef42f4317e03a271a61f8b"), looks := false }, kinds := [], alts := [], laidByText := true, laidKinds := [.data], laidTests := true, laidLooks := .later }
def JournalFrameUptoCardSaid : Prop := Claim7.holds Tryd.pinned (.plain (OpenSpec.upto journalFrameSpec)) journalFrameUptoCard

/-- THE SECOND FORM's CARD OF 'macaroonlaw19.JournalKeeps'. -/
def journalKeepsUptoCard : Claim7 := { stood := { row := journalKeepsUptoRow, standIns := [], harness := (true, "fb0df57a04796a6d53f498e1ae172a5f7cb0f745b3ef42f4317e03a271a61f8b"), looks := false }, kinds := [], alts := [], laidByText := true, laidKinds := [.data], laidTests := true, laidLooks := .later }
def JournalKeepsUptoCardSaid : Prop := Claim7.holds Tryd.pinned (.plain (OpenSpec.upto journalKeepsSpec)) journalKeepsUptoCard

/-- THE SECOND FORM's CARD OF 'macaroonlaw19.JournalWrite'. -/
def journalWriteUptoCard : Claim7 := { stood := { row := journalWriteUptoRow, standIns := [], harness := (true, "fb0df57a04796a6d53f498e1ae172a5f7cb0f745b3ef42f4317e03a271a61f8b"), looks := false }, kinds := [], alts := [], laidByText := true, laidKinds := [.data], laidTests := true, laidLooks := .later }
def JournalWriteUptoCardSaid : Prop := Claim7.holds Tryd.pinned (.plain (OpenSpec.upto journalWriteSpec)) journalWriteUptoCard

/-- THE SECOND FORM's CARD OF 'macaroonlaw19.JournalSwitch'. -/
def journalSwitchUptoCard : Claim7 := { stood := { row := journalSwitchUptoRow, standIns := [], harness := (true, "fb0df57a04796a6d53f498e1ae172a5f7cb0f745b3ef42f4317e03a271a61f8b"), looks := false }, kinds := [], alts := [], laidByText := true, laidKinds := [.data], laidTests := true, laidLooks := .later }
def JournalSwitchUptoCardSaid : Prop := Claim7.holds Tryd.pinned (.plain (OpenSpec.upto journalSwitchSpec)) journalSwitchUptoCard

/-- THE SECOND FORM's CARD OF 'macaroonlaw12.CaveatCode'. -/
def caveatCodeUptoCard : Claim7 := { stood := { row := caveatCodeUptoRow, standIns := [], harness := (true, "fb0df57a04796a6d53f498e1ae172a5f7cb0f745b3ef42f4317e03a271a61f8b"), looks := false }, kinds := [], alts := [], laidByText := true, laidKinds := [.data], laidTests := true, laidLooks := .later }
def CaveatCodeUptoCardSaid : Prop := Claim7.holds Tryd.pinned (.plain (OpenSpec.upto caveatCodeSpec)) caveatCodeUptoCard

/-- THE SECOND FORM's CARD OF 'macaroonlaw12.CaveatBack'. -/
def caveatBackUptoCard : Claim7 := { stood := { row := caveatBackUptoRow, standIns := [], harness := (true, "fb0df57a04796a6d53f498e1ae172a5f7cb0f745b3ef42f4317e03a271a61f8b"), looks := false }, kinds := [], alts := [], laidByText := true, laidKinds := [.data], laidTests := true, laidLooks := .later }
def CaveatBackUptoCardSaid : Prop := Claim7.holds Tryd.pinned (.plain (OpenSpec.upto caveatBackSpec)) caveatBackUptoCard

/-- THE SECOND FORM's CARD OF 'macaroonlaw12.CaveatUnique'. -/
def caveatUniqueUptoCard : Claim7 := { stood := { row := caveatUniqueUptoRow, standIns := [], harness := (true, "fb0df57a04796a6d53f498e1ae172a5f7cb0f745b3ef42f4317e03a271a61f8b"), looks := false }, kinds := [], alts := [], laidByText := true, laidKinds := [.data], laidTests := true, laidLooks := .later }
def CaveatUniqueUptoCardSaid : Prop := Claim7.holds Tryd.pinned (.plain (OpenSpec.upto caveatUniqueSpec)) caveatUniqueUptoCard
end Rows
end Go.Proofs.YtaelnglalpiemaaDoor
