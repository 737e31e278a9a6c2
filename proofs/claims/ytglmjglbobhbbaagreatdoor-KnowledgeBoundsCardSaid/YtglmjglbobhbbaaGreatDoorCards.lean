/-
  DERIVED. GIVEN WITH THE SEED: THE CARDS: each row of YtglmjglbobhbbaaGreatDoorRows.lean that lists a variable, with what it lists TIED to the program's text (the seventh form; the later family's looks); each row that meets fmt, with fmt's text TOLD by the authors' own Lean function (tested against real Go, not proved from fmt's source: count such statements apart). THE CARD IS WHAT COUNTS. Prove the row's statement (the work); the ties are given (YtglmjglbobhbbaaGreatDoorTie.lean); close each card by the builder's one call (the guide's Derived/Test/ToyasCard.lean, 'card_holds'). Laid BY PROGRAM, IN A SANDBOX (cutbox-door.mjs). By AI agents, Wed Nov 11 2026. No macro, syntax, notation, axiom, sorry.
-/
import Derived.Test.YtglmjglbobhbbaaGreatDoorRows
import GoSem.ClaimSeven
namespace Go.Proofs.YtglmjglbobhbbaaGreatDoor
namespace Rows

/-- THE TIED CARD OF 'macaroonlaw30.WalletSteps'. -/
def walletStepsCard : Claim7 := { stood := { row := walletStepsRow, standIns := [], harness := (true, "6c00cf291ec34f4bd82620a62150857964474c294eacc9f8f158c7c79e568430"), looks := true }, kinds := [], alts := [], laidByText := true, laidKinds := [.data, .data], laidTests := true, laidLooks := .later }
def WalletStepsCardSaid : Prop := Claim7.holds Tryz.pinned (.plain (OpenSpec.ofChange walletStepsSpec)) walletStepsCard

/-- THE TIED CARD OF 'macaroonlaw31.KnowledgeUnknown'. -/
def knowledgeUnknownCard : Claim7 := { stood := { row := knowledgeUnknownRow, standIns := [], harness := (true, "6c00cf291ec34f4bd82620a62150857964474c294eacc9f8f158c7c79e568430"), looks := true }, kinds := [], alts := [], laidByText := true, laidKinds := [.data, .data], laidTests := true, laidLooks := .later }
def KnowledgeUnknownCardSaid : Prop := Claim7.holds Tryz.pinned (.plain (OpenSpec.ofChange knowledgeUnknownSpec)) knowledgeUnknownCard

/-- THE TIED CARD OF 'macaroonlaw31.KnowledgeSteps'. -/
def knowledgeStepsCard : Claim7 := { stood := { row := knowledgeStepsRow, standIns := [], harness := (true, "6c00cf291ec34f4bd82620a62150857964474c294eacc9f8f158c7c79e568430"), looks := true }, kinds := [], alts := [], laidByText := true, laidKinds := [.data, .data], laidTests := true, laidLooks := .later }
def KnowledgeStepsCardSaid : Prop := Claim7.holds Tryz.pinned (.plain (OpenSpec.ofChange knowledgeStepsSpec)) knowledgeStepsCard

/-- THE TIED CARD OF 'macaroonlaw30.WalletMakes'. -/
def walletMakesCard : Claim7 := { stood := { row := walletMakesRow, standIns := [], harness := (true, "6c00cf291ec34f4bd82620a62150857964474c294eacc9f8f158c7c79e568430"), looks := true }, kinds := [], alts := [], laidByText := true, laidKinds := [.data, .data], laidTests := true, laidLooks := .later }
def WalletMakesCardSaid : Prop := Claim7.holds Tryz.pinned (.plain (OpenSpec.ofChange walletMakesSpec)) walletMakesCard

/-- THE TIED CARD OF 'macaroonlaw31.KnowledgeBounds'. -/
def knowledgeBoundsCard : Claim7 := { stood := { row := knowledgeBoundsRow, standIns := [], harness := (true, "6c00cf291ec34f4bd82620a62150857964474c294eacc9f8f158c7c79e568430"), looks := true }, kinds := [], alts := [], laidByText := true, laidKinds := [.data, .data], laidTests := true, laidLooks := .later }
def KnowledgeBoundsCardSaid : Prop := Claim7.holds Tryz.pinned (.plain (OpenSpec.ofChange knowledgeBoundsSpec)) knowledgeBoundsCard

/-- THE TIED CARD OF 'macaroonlaw30.WalletGives'. -/
def walletGivesCard : Claim7 := { stood := { row := walletGivesRow, standIns := [], harness := (true, "6c00cf291ec34f4bd82620a62150857964474c294eacc9f8f158c7c79e568430"), looks := true }, kinds := [], alts := [], laidByText := true, laidKinds := [.data, .data], laidTests := true, laidLooks := .later }
def WalletGivesCardSaid : Prop := Claim7.holds Tryz.pinned (.plain (OpenSpec.ofChange walletGivesSpec)) walletGivesCard

/-- THE SECOND FORM's CARD OF 'macaroonlaw30.WalletSteps'. -/
def walletStepsUptoCard : Claim7 := { stood := { row := walletStepsUptoRow, standIns := [], harness := (true, "6c00cf291ec34f4bd82620a62150857964474c294eacc9f8f158c7c79e568430"), looks := true }, kinds := [], alts := [], laidByText := true, laidKinds := [.data, .data], laidTests := true, laidLooks := .later }
def WalletStepsUptoCardSaid : Prop := Claim7.holds Tryz.pinned (.plain (OpenSpec.upto walletStepsSpec)) walletStepsUptoCard

/-- THE SECOND FORM's CARD OF 'macaroonlaw31.KnowledgeUnknown'. -/
def knowledgeUnknownUptoCard : Claim7 := { stood := { row := knowledgeUnknownUptoRow, standIns := [], harness := (true, "6c00cf291ec34f4bd82620a62150857964474c294eacc9f8f158c7c79e568430"), looks := true }, kinds := [], alts := [], laidByText := true, laidKinds := [.data, .data], laidTests := true, laidLooks := .later }
def KnowledgeUnknownUptoCardSaid : Prop := Claim7.holds Tryz.pinned (.plain (OpenSpec.upto knowledgeUnknownSpec)) knowledgeUnknownUptoCard

/-- THE SECOND FORM's CARD OF 'macaroonlaw31.KnowledgeSteps'. -/
def knowledgeStepsUptoCard : Claim7 := { stood := { row := knowledgeStepsUptoRow, standIns := [], harness := (true, "6c00cf291ec34f4bd82620a62150857964474c294eacc9f8f158c7c79e568430"), looks := true }, kinds := [], alts := [], laidByText := true, laidKinds := [.data, .data], laidTests := true, laidLooks := .later }
def KnowledgeStepsUptoCardSaid : Prop := Claim7.holds Tryz.pinned (.plain (OpenSpec.upto knowledgeStepsSpec)) knowledgeStepsUptoCard

/-- THE SECOND FORM's CARD OF 'macaroonlaw30.WalletMakes'. -/
def walletMakesUptoCard : Claim7 := { stood := { row := walletMakesUptoRow, standIns := [], harness := (true, "6c00cf291ec34f4bd82620a62150857964474c294eacc9f8f158c7c79e568430"), looks := true }, kinds := [], alts := [], laidByText := true, laidKinds := [.data, .data], laidTests := true, laidLooks := .later }
def WalletMakesUptoCardSaid : Prop := Claim7.holds Tryz.pinned (.plain (OpenSpec.upto walletMakesSpec)) walletMakesUptoCard

/-- THE SECOND FORM's CARD OF 'macaroonlaw31.KnowledgeBounds'. -/
def knowledgeBoundsUptoCard : Claim7 := { stood := { row := knowledgeBoundsUptoRow, standIns := [], harness := (true, "6c00cf291ec34f4bd82620a62150857964474c294eacc9f8f158c7c79e568430"), looks := true }, kinds := [], alts := [], laidByText := true, laidKinds := [.data, .data], laidTests := true, laidLooks := .later }
def KnowledgeBoundsUptoCardSaid : Prop := Claim7.holds Tryz.pinned (.plain (OpenSpec.upto knowledgeBoundsSpec)) knowledgeBoundsUptoCard

/-- THE SECOND FORM's CARD OF 'macaroonlaw30.WalletGives'. -/
def walletGivesUptoCard : Claim7 := { stood := { row := walletGivesUptoRow, standIns := [], harness := (true, "6c00cf291ec34f4bd82620a62150857964474c294eacc9f8f158c7c79e568430"), looks := true }, kinds := [], alts := [], laidByText := true, laidKinds := [.data, .data], laidTests := true, laidLooks := .later }
def WalletGivesUptoCardSaid : Prop := Claim7.holds Tryz.pinned (.plain (OpenSpec.upto walletGivesSpec)) walletGivesUptoCard
end Rows
end Go.Proofs.YtglmjglbobhbbaaGreatDoor
