/-
  DERIVED. GIVEN WITH THE SEED: THE CARDS: each row of YtdmjpolnbmoehaaGreatDoorRows.lean that lists a variable, with what it lists TIED to the program's text (the seventh form; the later family's looks); each row that meets fmt, with fmt's text TOLD by the authors' own Lean function (tested against real Go, not proved from fmt's source: count such statements apart). THE CARD IS WHAT COUNTS. Prove the row's statement (the work); the ties are given (YtdmjpolnbmoehaaGreatDoorTie.lean); close each card by the builder's one call (the guide's Derived/Test/ToyasCard.lean, 'card_holds'). Laid BY PROGRAM, IN A SANDBOX (cutbox-door.mjs). By AI agents, Wed Nov 11 2026. No macro, syntax, notation, axiom, sorry.
-/
import Derived.Test.YtdmjpolnbmoehaaGreatDoorRows
import GoSem.ClaimSeven
namespace Go.Proofs.YtdmjpolnbmoehaaGreatDoor
namespace Rows

/-- THE TIED CARD OF 'macaroonlaw15.DischargeRestrict'. -/
def dischargeRestrictCard : Claim7 := { stood := { row := dischargeRestrictRow, standIns := [], harness := (true, "cb19d40451585d5f7400f6917a922d22ec5f16ce4307e87960bd9e265e863125"), looks := true }, kinds := [], alts := [], laidByText := true, laidKinds := [.data, .data], laidTests := true, laidLooks := .later }
def DischargeRestrictCardSaid : Prop := Claim7.holds Tryz.pinned (.plain (OpenSpec.ofChange dischargeRestrictSpec)) dischargeRestrictCard

/-- THE TIED CARD OF 'macaroonlaw15.DischargeBind'. -/
def dischargeBindCard : Claim7 := { stood := { row := dischargeBindRow, standIns := [], harness := (true, "cb19d40451585d5f7400f6917a922d22ec5f16ce4307e87960bd9e265e863125"), looks := true }, kinds := [], alts := [], laidByText := true, laidKinds := [.data, .data], laidTests := true, laidLooks := .later }
def DischargeBindCardSaid : Prop := Claim7.holds Tryz.pinned (.plain (OpenSpec.ofChange dischargeBindSpec)) dischargeBindCard

/-- THE TIED CARD OF 'macaroonlaw13.ChainAttenuate'. -/
def chainAttenuateCard : Claim7 := { stood := { row := chainAttenuateRow, standIns := [], harness := (true, "cb19d40451585d5f7400f6917a922d22ec5f16ce4307e87960bd9e265e863125"), looks := true }, kinds := [], alts := [], laidByText := true, laidKinds := [.data, .data], laidTests := true, laidLooks := .later }
def ChainAttenuateCardSaid : Prop := Claim7.holds Tryz.pinned (.plain (OpenSpec.ofChange chainAttenuateSpec)) chainAttenuateCard

/-- THE TIED CARD OF 'macaroonlaw13.ChainTags'. -/
def chainTagsCard : Claim7 := { stood := { row := chainTagsRow, standIns := [], harness := (true, "cb19d40451585d5f7400f6917a922d22ec5f16ce4307e87960bd9e265e863125"), looks := true }, kinds := [], alts := [], laidByText := true, laidKinds := [.data, .data], laidTests := true, laidLooks := .later }
def ChainTagsCardSaid : Prop := Claim7.holds Tryz.pinned (.plain (OpenSpec.ofChange chainTagsSpec)) chainTagsCard

/-- THE TIED CARD OF 'macaroonlaw13.ChainFound'. -/
def chainFoundCard : Claim7 := { stood := { row := chainFoundRow, standIns := [], harness := (true, "cb19d40451585d5f7400f6917a922d22ec5f16ce4307e87960bd9e265e863125"), looks := true }, kinds := [], alts := [], laidByText := true, laidKinds := [.data, .data], laidTests := true, laidLooks := .later }
def ChainFoundCardSaid : Prop := Claim7.holds Tryz.pinned (.plain (OpenSpec.ofChange chainFoundSpec)) chainFoundCard

/-- THE TIED CARD OF 'macaroonlaw16.BundleHides'. -/
def bundleHidesCard : Claim7 := { stood := { row := bundleHidesRow, standIns := [], harness := (true, "cb19d40451585d5f7400f6917a922d22ec5f16ce4307e87960bd9e265e863125"), looks := true }, kinds := [], alts := [], laidByText := true, laidKinds := [.data, .data], laidTests := true, laidLooks := .later }
def BundleHidesCardSaid : Prop := Claim7.holds Tryz.pinned (.plain (OpenSpec.ofChange bundleHidesSpec)) bundleHidesCard

/-- THE TIED CARD OF 'macaroonlaw15.DischargeGrant'. -/
def dischargeGrantCard : Claim7 := { stood := { row := dischargeGrantRow, standIns := [], harness := (true, "cb19d40451585d5f7400f6917a922d22ec5f16ce4307e87960bd9e265e863125"), looks := true }, kinds := [], alts := [], laidByText := true, laidKinds := [.data, .data], laidTests := true, laidLooks := .later }
def DischargeGrantCardSaid : Prop := Claim7.holds Tryz.pinned (.plain (OpenSpec.ofChange dischargeGrantSpec)) dischargeGrantCard

/-- THE TIED CARD OF 'macaroonlaw16.BundlePresent'. -/
def bundlePresentCard : Claim7 := { stood := { row := bundlePresentRow, standIns := [], harness := (true, "cb19d40451585d5f7400f6917a922d22ec5f16ce4307e87960bd9e265e863125"), looks := true }, kinds := [], alts := [], laidByText := true, laidKinds := [.data, .data], laidTests := true, laidLooks := .later }
def BundlePresentCardSaid : Prop := Claim7.holds Tryz.pinned (.plain (OpenSpec.ofChange bundlePresentSpec)) bundlePresentCard

/-- THE TIED CARD OF 'macaroonlaw15.DischargeFound'. -/
def dischargeFoundCard : Claim7 := { stood := { row := dischargeFoundRow, standIns := [], harness := (true, "cb19d40451585d5f7400f6917a922d22ec5f16ce4307e87960bd9e265e863125"), looks := true }, kinds := [], alts := [], laidByText := true, laidKinds := [.data, .data], laidTests := true, laidLooks := .later }
def DischargeFoundCardSaid : Prop := Claim7.holds Tryz.pinned (.plain (OpenSpec.ofChange dischargeFoundSpec)) dischargeFoundCard

/-- THE TIED CARD OF 'macaroonlaw14.TicketAdd'. -/
def ticketAddCard : Claim7 := { stood := { row := ticketAddRow, standIns := [], harness := (true, "cb19d40451585d5f7400f6917a922d22ec5f16ce4307e87960bd9e265e863125"), looks := true }, kinds := [], alts := [], laidByText := true, laidKinds := [.data, .data], laidTests := true, laidLooks := .later }
def TicketAddCardSaid : Prop := Claim7.holds Tryz.pinned (.plain (OpenSpec.ofChange ticketAddSpec)) ticketAddCard

/-- THE TIED CARD OF 'macaroonlaw14.TicketGate'. -/
def ticketGateCard : Claim7 := { stood := { row := ticketGateRow, standIns := [], harness := (true, "cb19d40451585d5f7400f6917a922d22ec5f16ce4307e87960bd9e265e863125"), looks := true }, kinds := [], alts := [], laidByText := true, laidKinds := [.data, .data], laidTests := true, laidLooks := .later }
def TicketGateCardSaid : Prop := Claim7.holds Tryz.pinned (.plain (OpenSpec.ofChange ticketGateSpec)) ticketGateCard

/-- THE SECOND FORM's CARD OF 'macaroonlaw15.DischargeRestrict'. -/
def dischargeRestrictUptoCard : Claim7 := { stood := { row := dischargeRestrictUptoRow, standIns := [], harness := (true, "cb19d40451585d5f7400f6917a922d22ec5f16ce4307e87960bd9e265e863125"), looks := true }, kinds := [], alts := [], laidByText := true, laidKinds := [.data, .data], laidTests := true, laidLooks := .later }
def DischargeRestrictUptoCardSaid : Prop := Claim7.holds Tryz.pinned (.plain (OpenSpec.upto dischargeRestrictSpec)) dischargeRestrictUptoCard

/-- THE SECOND FORM's CARD OF 'macaroonlaw15.DischargeBind'. -/
def dischargeBindUptoCard : Claim7 := { stood := { row := dischargeBindUptoRow, standIns := [], harness := (true, "cb19d40451585d5f7400f6917a922d22ec5f16ce4307e87960bd9e265e863125"), looks := true }, kinds := [], alts := [], laidByText := true, laidKinds := [.data, .data], laidTests := true, laidLooks := .later }
def DischargeBindUptoCardSaid : Prop := Claim7.holds Tryz.pinned (.plain (OpenSpec.upto dischargeBindSpec)) dischargeBindUptoCard

/-- THE SECOND FORM's CARD OF 'macaroonlaw13.ChainAttenuate'. -/
def chainAttenuateUptoCard : Claim7 := { stood := { row := chainAttenuateUptoRow, standIns := [], harness := (true, "cb19d40451585d5f7400f6917a922d22ec5f16ce4307e87960bd9e265e863125"), looks := true }, kinds := [], alts := [], laidByText := true, laidKinds := [.data, .data], laidTests := true, laidLooks := .later }
def ChainAttenuateUptoCardSaid : Prop := Claim7.holds Tryz.pinned (.plain (OpenSpec.upto chainAttenuateSpec)) chainAttenuateUptoCard

/-- THE SECOND FORM's CARD OF 'macaroonlaw13.ChainTags'. -/
def chainTagsUptoCard : Claim7 := { stood := { row := chainTagsUptoRow, standIns := [], harness := (true, "cb19d40451585d5f7400f6917a922d22ec5f16ce4307e87960bd9e265e863125"), looks := true }, kinds := [], alts := [], laidByText := true, laidKinds := [.data, .data], laidTests := true, laidLooks := .later }
def ChainTagsUptoCardSaid : Prop := Claim7.holds Tryz.pinned (.plain (OpenSpec.upto chainTagsSpec)) chainTagsUptoCard

/-- THE SECOND FORM's CARD OF 'macaroonlaw13.ChainFound'. -/
def chainFoundUptoCard : Claim7 := { stood := { row := chainFoundUptoRow, standIns := [], harness := (true, "cb19d40451585d5f7400f6917a922d22ec5f16ce4307e87960bd9e265e863125"), looks := true }, kinds := [], alts := [], laidByText := true, laidKinds := [.data, .data], laidTests := true, laidLooks := .later }
def ChainFoundUptoCardSaid : Prop := Claim7.holds Tryz.pinned (.plain (OpenSpec.upto chainFoundSpec)) chainFoundUptoCard

/-- THE SECOND FORM's CARD OF 'macaroonlaw16.BundleHides'. -/
def bundleHidesUptoCard : Claim7 := { stood := { row := bundleHidesUptoRow, standIns := [], harness := (true, "cb19d40451585d5f7400f6917a922d22ec5f16ce4307e87960bd9e265e863125"), looks := true }, kinds := [], alts := [], laidByText := true, laidKinds := [.data, .data], laidTests := true, laidLooks := .later }
def BundleHidesUptoCardSaid : Prop := Claim7.holds Tryz.pinned (.plain (OpenSpec.upto bundleHidesSpec)) bundleHidesUptoCard

/-- THE SECOND FORM's CARD OF 'macaroonlaw15.DischargeGrant'. -/
def dischargeGrantUptoCard : Claim7 := { stood := { row := dischargeGrantUptoRow, standIns := [], harness := (true, "cb19d40451585d5f7400f6917a922d22ec5f16ce4307e87960bd9e265e863125"), looks := true }, kinds := [], alts := [], laidByText := true, laidKinds := [.data, .data], laidTests := true, laidLooks := .later }
def DischargeGrantUptoCardSaid : Prop := Claim7.holds Tryz.pinned (.plain (OpenSpec.upto dischargeGrantSpec)) dischargeGrantUptoCard

/-- THE SECOND FORM's CARD OF 'macaroonlaw16.BundlePresent'. -/
def bundlePresentUptoCard : Claim7 := { stood := { row := bundlePresentUptoRow, standIns := [], harness := (true, "cb19d40451585d5f7400f6917a922d22ec5f16ce4307e87960bd9e265e863125"), looks := true }, kinds := [], alts := [], laidByText := true, laidKinds := [.data, .data], laidTests := true, laidLooks := .later }
def BundlePresentUptoCardSaid : Prop := Claim7.holds Tryz.pinned (.plain (OpenSpec.upto bundlePresentSpec)) bundlePresentUptoCard

/-- THE SECOND FORM's CARD OF 'macaroonlaw15.DischargeFound'. -/
def dischargeFoundUptoCard : Claim7 := { stood := { row := dischargeFoundUptoRow, standIns := [], harness := (true, "cb19d40451585d5f7400f6917a922d22ec5f16ce4307e87960bd9e265e863125"), looks := true }, kinds := [], alts := [], laidByText := true, laidKinds := [.data, .data], laidTests := true, laidLooks := .later }
def DischargeFoundUptoCardSaid : Prop := Claim7.holds Tryz.pinned (.plain (OpenSpec.upto dischargeFoundSpec)) dischargeFoundUptoCard

/-- THE SECOND FORM's CARD OF 'macaroonlaw14.TicketAdd'. -/
def ticketAddUptoCard : Claim7 := { stood := { row := ticketAddUptoRow, standIns := [], harness := (true, "cb19d40451585d5f7400f6917a922d22ec5f16ce4307e87960bd9e265e863125"), looks := true }, kinds := [], alts := [], laidByText := true, laidKinds := [.data, .data], laidTests := true, laidLooks := .later }
def TicketAddUptoCardSaid : Prop := Claim7.holds Tryz.pinned (.plain (OpenSpec.upto ticketAddSpec)) ticketAddUptoCard

/-- THE SECOND FORM's CARD OF 'macaroonlaw14.TicketGate'. -/
def ticketGateUptoCard : Claim7 := { stood := { row := ticketGateUptoRow, standIns := [], harness := (true, "cb19d40451585d5f7400f6917a922d22ec5f16ce4307e87960bd9e265e863125"), looks := true }, kinds := [], alts := [], laidByText := true, laidKinds := [.data, .data], laidTests := true, laidLooks := .later }
def TicketGateUptoCardSaid : Prop := Claim7.holds Tryz.pinned (.plain (OpenSpec.upto ticketGateSpec)) ticketGateUptoCard
end Rows
end Go.Proofs.YtdmjpolnbmoehaaGreatDoor
