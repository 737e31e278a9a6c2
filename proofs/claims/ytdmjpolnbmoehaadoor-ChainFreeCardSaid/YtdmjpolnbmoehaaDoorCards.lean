/-
  DERIVED. GIVEN WITH THE SEED: THE CARDS: each row of YtdmjpolnbmoehaaDoorRows.lean that lists a variable, with what it lists TIED to the program's text (the seventh form; the later family's looks); each row that meets fmt, with fmt's text TOLD by the authors' own Lean function (tested against real Go, not proved from fmt's source: count such statements apart). THE CARD IS WHAT COUNTS. Prove the row's statement (the work); the ties are given (YtdmjpolnbmoehaaDoorTie.lean); close each card by the builder's one call (the guide's Derived/Test/ToyasCard.lean, 'card_holds'). Laid BY PROGRAM, IN A SANDBOX (cutbox-door.mjs). By AI agents, Wed Nov 11 2026. No macro, syntax, notation, axiom, sorry.
-/
import Derived.Test.YtdmjpolnbmoehaaDoorRows
import GoSem.ClaimSeven
namespace Go.Proofs.YtdmjpolnbmoehaaDoor
namespace Rows

/-- THE TIED CARD OF 'macaroonlaw13.ChainMint'. -/
def chainMintCard : Claim7 := { stood := { row := chainMintRow, standIns := [], harness := (true, "65ac5f693265834e5bd6765c074ae1858485d115af526ef1145ec255c93732cc"), looks := true }, kinds := [], alts := [], laidByText := true, laidKinds := [.data, .data], laidTests := true, laidLooks := .later }
def ChainMintCardSaid : Prop := Claim7.holds Tryd.pinned (.plain (OpenSpec.ofChange chainMintSpec)) chainMintCard

/-- THE TIED CARD OF 'macaroonlaw13.ChainFree'. -/
def chainFreeCard : Claim7 := { stood := { row := chainFreeRow, standIns := [], harness := (true, "65ac5f693265834e5bd6765c074ae1858485d115af526ef1145ec255c93732cc"), looks := true }, kinds := [], alts := [], laidByText := true, laidKinds := [.data, .data], laidTests := true, laidLooks := .later }
def ChainFreeCardSaid : Prop := Claim7.holds Tryd.pinned (.plain (OpenSpec.ofChange chainFreeSpec)) chainFreeCard

/-- THE TIED CARD OF 'macaroonlaw14.TicketBlank'. -/
def ticketBlankCard : Claim7 := { stood := { row := ticketBlankRow, standIns := [], harness := (true, "65ac5f693265834e5bd6765c074ae1858485d115af526ef1145ec255c93732cc"), looks := true }, kinds := [], alts := [], laidByText := true, laidKinds := [.data], laidTests := true, laidLooks := .later }
def TicketBlankCardSaid : Prop := Claim7.holds Tryd.pinned (.plain (OpenSpec.ofChange ticketBlankSpec)) ticketBlankCard

/-- THE TIED CARD OF 'macaroonlaw14.TicketOpen'. -/
def ticketOpenCard : Claim7 := { stood := { row := ticketOpenRow, standIns := [], harness := (true, "65ac5f693265834e5bd6765c074ae1858485d115af526ef1145ec255c93732cc"), looks := true }, kinds := [], alts := [], laidByText := true, laidKinds := [.data], laidTests := true, laidLooks := .later }
def TicketOpenCardSaid : Prop := Claim7.holds Tryd.pinned (.plain (OpenSpec.ofChange ticketOpenSpec)) ticketOpenCard

/-- THE TIED CARD OF 'macaroonlaw14.TicketBack'. -/
def ticketBackCard : Claim7 := { stood := { row := ticketBackRow, standIns := [], harness := (true, "65ac5f693265834e5bd6765c074ae1858485d115af526ef1145ec255c93732cc"), looks := true }, kinds := [], alts := [], laidByText := true, laidKinds := [.data], laidTests := true, laidLooks := .later }
def TicketBackCardSaid : Prop := Claim7.holds Tryd.pinned (.plain (OpenSpec.ofChange ticketBackSpec)) ticketBackCard

/-- THE TIED CARD OF 'macaroonlaw15.DischargeTerms'. -/
def dischargeTermsCard : Claim7 := { stood := { row := dischargeTermsRow, standIns := [], harness := (true, "65ac5f693265834e5bd6765c074ae1858485d115af526ef1145ec255c93732cc"), looks := true }, kinds := [], alts := [], laidByText := true, laidKinds := [.data, .data], laidTests := true, laidLooks := .later }
def DischargeTermsCardSaid : Prop := Claim7.holds Tryd.pinned (.plain (OpenSpec.ofChange dischargeTermsSpec)) dischargeTermsCard

/-- THE SECOND FORM's CARD OF 'macaroonlaw13.ChainMint'. -/
def chainMintUptoCard : Claim7 := { stood := { row := chainMintUptoRow, standIns := [], harness := (true, "65ac5f693265834e5bd6765c074ae1858485d115af526ef1145ec255c93732cc"), looks := true }, kinds := [], alts := [], laidByText := true, laidKinds := [.data, .data], laidTests := true, laidLooks := .later }
def ChainMintUptoCardSaid : Prop := Claim7.holds Tryd.pinned (.plain (OpenSpec.upto chainMintSpec)) chainMintUptoCard

/-- THE SECOND FORM's CARD OF 'macaroonlaw13.ChainFree'. -/
def chainFreeUptoCard : Claim7 := { stood := { row := chainFreeUptoRow, standIns := [], harness := (true, "65ac5f693265834e5bd6765c074ae1858485d115af526ef1145ec255c93732cc"), looks := true }, kinds := [], alts := [], laidByText := true, laidKinds := [.data, .data], laidTests := true, laidLooks := .later }
def ChainFreeUptoCardSaid : Prop := Claim7.holds Tryd.pinned (.plain (OpenSpec.upto chainFreeSpec)) chainFreeUptoCard

/-- THE SECOND FORM's CARD OF 'macaroonlaw14.TicketBlank'. -/
def ticketBlankUptoCard : Claim7 := { stood := { row := ticketBlankUptoRow, standIns := [], harness := (true, "65ac5f693265834e5bd6765c074ae1858485d115af526ef1145ec255c93732cc"), looks := true }, kinds := [], alts := [], laidByText := true, laidKinds := [.data], laidTests := true, laidLooks := .later }
def TicketBlankUptoCardSaid : Prop := Claim7.holds Tryd.pinned (.plain (OpenSpec.upto ticketBlankSpec)) ticketBlankUptoCard

/-- THE SECOND FORM's CARD OF 'macaroonlaw14.TicketOpen'. -/
def ticketOpenUptoCard : Claim7 := { stood := { row := ticketOpenUptoRow, standIns := [], harness := (true, "65ac5f693265834e5bd6765c074ae1858485d115af526ef1145ec255c93732cc"), looks := true }, kinds := [], alts := [], laidByText := true, laidKinds := [.data], laidTests := true, laidLooks := .later }
def TicketOpenUptoCardSaid : Prop := Claim7.holds Tryd.pinned (.plain (OpenSpec.upto ticketOpenSpec)) ticketOpenUptoCard

/-- THE SECOND FORM's CARD OF 'macaroonlaw14.TicketBack'. -/
def ticketBackUptoCard : Claim7 := { stood := { row := ticketBackUptoRow, standIns := [], harness := (true, "65ac5f693265834e5bd6765c074ae1858485d115af526ef1145ec255c93732cc"), looks := true }, kinds := [], alts := [], laidByText := true, laidKinds := [.data], laidTests := true, laidLooks := .later }
def TicketBackUptoCardSaid : Prop := Claim7.holds Tryd.pinned (.plain (OpenSpec.upto ticketBackSpec)) ticketBackUptoCard

/-- THE SECOND FORM's CARD OF 'macaroonlaw15.DischargeTerms'. -/
def dischargeTermsUptoCard : Claim7 := { stood := { row := dischargeTermsUptoRow, standIns := [], harness := (true, "65ac5f693265834e5bd6765c074ae1858485d115af526ef1145ec255c93732cc"), looks := true }, kinds := [], alts := [], laidByText := true, laidKinds := [.data, .data], laidTests := true, laidLooks := .later }
def DischargeTermsUptoCardSaid : Prop := Claim7.holds Tryd.pinned (.plain (OpenSpec.upto dischargeTermsSpec)) dischargeTermsUptoCard
end Rows
end Go.Proofs.YtdmjpolnbmoehaaDoor
