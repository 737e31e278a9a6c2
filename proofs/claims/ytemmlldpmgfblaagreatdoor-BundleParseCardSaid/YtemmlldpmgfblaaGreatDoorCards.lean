/-
  DERIVED. GIVEN WITH THE SEED: THE CARDS: each row of YtemmlldpmgfblaaGreatDoorRows.lean that lists a variable, with what it lists TIED to the program's text (the seventh form; the later family's looks); each row that meets fmt, with fmt's text TOLD by the authors' own Lean function (tested against real Go, not proved from fmt's source: count such statements apart). THE CARD IS WHAT COUNTS. Prove the row's statement (the work); the ties are given (YtemmlldpmgfblaaGreatDoorTie.lean); close each card by the builder's one call (the guide's Derived/Test/ToyasCard.lean, 'card_holds'). Laid BY PROGRAM, IN A SANDBOX (cutbox-door.mjs). By AI agents, Wed Nov 11 2026. No macro, syntax, notation, axiom, sorry.
-/
import Derived.Test.YtemmlldpmgfblaaGreatDoorRows
import GoSem.ClaimSeven
namespace Go.Proofs.YtemmlldpmgfblaaGreatDoor
namespace Rows

/-- THE TIED CARD OF 'macaroonlaw16.BundleCheck'. -/
def bundleCheckCard : Claim7 := { stood := { row := bundleCheckRow, standIns := [], harness := (true, "b86f05889e8c923eab02f4dccdbba25fbf132d3f0b702154bf20be6c1fd4442c"), looks := true }, kinds := [], alts := [], laidByText := true, laidKinds := [.data], laidTests := true, laidLooks := .later }
def BundleCheckCardSaid : Prop := Claim7.holds Tryz.pinned (.plain (OpenSpec.ofChange bundleCheckSpec)) bundleCheckCard

/-- THE TIED CARD OF 'macaroonlaw16.BundleEncode'. -/
def bundleEncodeCard : Claim7 := { stood := { row := bundleEncodeRow, standIns := [], harness := (true, "b86f05889e8c923eab02f4dccdbba25fbf132d3f0b702154bf20be6c1fd4442c"), looks := true }, kinds := [], alts := [], laidByText := true, laidKinds := [.data], laidTests := true, laidLooks := .later }
def BundleEncodeCardSaid : Prop := Claim7.holds Tryz.pinned (.plain (OpenSpec.ofChange bundleEncodeSpec)) bundleEncodeCard

/-- THE TIED CARD OF 'macaroonlaw16.BundleHides'. -/
def bundleHidesCard : Claim7 := { stood := { row := bundleHidesRow, standIns := [], harness := (true, "b86f05889e8c923eab02f4dccdbba25fbf132d3f0b702154bf20be6c1fd4442c"), looks := true }, kinds := [], alts := [], laidByText := true, laidKinds := [.data, .data], laidTests := true, laidLooks := .later }
def BundleHidesCardSaid : Prop := Claim7.holds Tryz.pinned (.plain (OpenSpec.ofChange bundleHidesSpec)) bundleHidesCard

/-- THE TIED CARD OF 'macaroonlaw15.DischargeGrant'. -/
def dischargeGrantCard : Claim7 := { stood := { row := dischargeGrantRow, standIns := [], harness := (true, "b86f05889e8c923eab02f4dccdbba25fbf132d3f0b702154bf20be6c1fd4442c"), looks := true }, kinds := [], alts := [], laidByText := true, laidKinds := [.data, .data], laidTests := true, laidLooks := .later }
def DischargeGrantCardSaid : Prop := Claim7.holds Tryz.pinned (.plain (OpenSpec.ofChange dischargeGrantSpec)) dischargeGrantCard

/-- THE TIED CARD OF 'macaroonlaw16.BundleDecode'. -/
def bundleDecodeCard : Claim7 := { stood := { row := bundleDecodeRow, standIns := [], harness := (true, "b86f05889e8c923eab02f4dccdbba25fbf132d3f0b702154bf20be6c1fd4442c"), looks := true }, kinds := [], alts := [], laidByText := true, laidKinds := [.data], laidTests := true, laidLooks := .later }
def BundleDecodeCardSaid : Prop := Claim7.holds Tryz.pinned (.plain (OpenSpec.ofChange bundleDecodeSpec)) bundleDecodeCard

/-- THE TIED CARD OF 'macaroonlaw16.BundlePresent'. -/
def bundlePresentCard : Claim7 := { stood := { row := bundlePresentRow, standIns := [], harness := (true, "b86f05889e8c923eab02f4dccdbba25fbf132d3f0b702154bf20be6c1fd4442c"), looks := true }, kinds := [], alts := [], laidByText := true, laidKinds := [.data, .data], laidTests := true, laidLooks := .later }
def BundlePresentCardSaid : Prop := Claim7.holds Tryz.pinned (.plain (OpenSpec.ofChange bundlePresentSpec)) bundlePresentCard

/-- THE TIED CARD OF 'macaroonlaw16.BundleParse'. -/
def bundleParseCard : Claim7 := { stood := { row := bundleParseRow, standIns := [], harness := (true, "b86f05889e8c923eab02f4dccdbba25fbf132d3f0b702154bf20be6c1fd4442c"), looks := true }, kinds := [], alts := [], laidByText := true, laidKinds := [.data], laidTests := true, laidLooks := .later }
def BundleParseCardSaid : Prop := Claim7.holds Tryz.pinned (.plain (OpenSpec.ofChange bundleParseSpec)) bundleParseCard

/-- THE TIED CARD OF 'macaroonlaw16.BundleUnique'. -/
def bundleUniqueCard : Claim7 := { stood := { row := bundleUniqueRow, standIns := [], harness := (true, "b86f05889e8c923eab02f4dccdbba25fbf132d3f0b702154bf20be6c1fd4442c"), looks := true }, kinds := [], alts := [], laidByText := true, laidKinds := [.data], laidTests := true, laidLooks := .later }
def BundleUniqueCardSaid : Prop := Claim7.holds Tryz.pinned (.plain (OpenSpec.ofChange bundleUniqueSpec)) bundleUniqueCard

/-- THE TIED CARD OF 'macaroonlaw15.DischargeFound'. -/
def dischargeFoundCard : Claim7 := { stood := { row := dischargeFoundRow, standIns := [], harness := (true, "b86f05889e8c923eab02f4dccdbba25fbf132d3f0b702154bf20be6c1fd4442c"), looks := true }, kinds := [], alts := [], laidByText := true, laidKinds := [.data, .data], laidTests := true, laidLooks := .later }
def DischargeFoundCardSaid : Prop := Claim7.holds Tryz.pinned (.plain (OpenSpec.ofChange dischargeFoundSpec)) dischargeFoundCard

/-- THE TIED CARD OF 'macaroonlaw16.BundleBack'. -/
def bundleBackCard : Claim7 := { stood := { row := bundleBackRow, standIns := [], harness := (true, "b86f05889e8c923eab02f4dccdbba25fbf132d3f0b702154bf20be6c1fd4442c"), looks := true }, kinds := [], alts := [], laidByText := true, laidKinds := [.data], laidTests := true, laidLooks := .later }
def BundleBackCardSaid : Prop := Claim7.holds Tryz.pinned (.plain (OpenSpec.ofChange bundleBackSpec)) bundleBackCard

/-- THE SECOND FORM's CARD OF 'macaroonlaw16.BundleCheck'. -/
def bundleCheckUptoCard : Claim7 := { stood := { row := bundleCheckUptoRow, standIns := [], harness := (true, "b86f05889e8c923eab02f4dccdbba25fbf132d3f0b702154bf20be6c1fd4442c"), looks := true }, kinds := [], alts := [], laidByText := true, laidKinds := [.data], laidTests := true, laidLooks := .later }
def BundleCheckUptoCardSaid : Prop := Claim7.holds Tryz.pinned (.plain (OpenSpec.upto bundleCheckSpec)) bundleCheckUptoCard

/-- THE SECOND FORM's CARD OF 'macaroonlaw16.BundleEncode'. -/
def bundleEncodeUptoCard : Claim7 := { stood := { row := bundleEncodeUptoRow, standIns := [], harness := (true, "b86f05889e8c923eab02f4dccdbba25fbf132d3f0b702154bf20be6c1fd4442c"), looks := true }, kinds := [], alts := [], laidByText := true, laidKinds := [.data], laidTests := true, laidLooks := .later }
def BundleEncodeUptoCardSaid : Prop := Claim7.holds Tryz.pinned (.plain (OpenSpec.upto bundleEncodeSpec)) bundleEncodeUptoCard

/-- THE SECOND FORM's CARD OF 'macaroonlaw16.BundleHides'. -/
def bundleHidesUptoCard : Claim7 := { stood := { row := bundleHidesUptoRow, standIns := [], harness := (true, "b86f05889e8c923eab02f4dccdbba25fbf132d3f0b702154bf20be6c1fd4442c"), looks := true }, kinds := [], alts := [], laidByText := true, laidKinds := [.data, .data], laidTests := true, laidLooks := .later }
def BundleHidesUptoCardSaid : Prop := Claim7.holds Tryz.pinned (.plain (OpenSpec.upto bundleHidesSpec)) bundleHidesUptoCard

/-- THE SECOND FORM's CARD OF 'macaroonlaw15.DischargeGrant'. -/
def dischargeGrantUptoCard : Claim7 := { stood := { row := dischargeGrantUptoRow, standIns := [], harness := (true, "b86f05889e8c923eab02f4dccdbba25fbf132d3f0b702154bf20be6c1fd4442c"), looks := true }, kinds := [], alts := [], laidByText := true, laidKinds := [.data, .data], laidTests := true, laidLooks := .later }
def DischargeGrantUptoCardSaid : Prop := Claim7.holds Tryz.pinned (.plain (OpenSpec.upto dischargeGrantSpec)) dischargeGrantUptoCard

/-- THE SECOND FORM's CARD OF 'macaroonlaw16.BundleDecode'. -/
def bundleDecodeUptoCard : Claim7 := { stood := { row := bundleDecodeUptoRow, standIns := [], harness := (true, "b86f05889e8c923eab02f4dccdbba25fbf132d3f0b702154bf20be6c1fd4442c"), looks := true }, kinds := [], alts := [], laidByText := true, laidKinds := [.data], laidTests := true, laidLooks := .later }
def BundleDecodeUptoCardSaid : Prop := Claim7.holds Tryz.pinned (.plain (OpenSpec.upto bundleDecodeSpec)) bundleDecodeUptoCard

/-- THE SECOND FORM's CARD OF 'macaroonlaw16.BundlePresent'. -/
def bundlePresentUptoCard : Claim7 := { stood := { row := bundlePresentUptoRow, standIns := [], harness := (true, "b86f05889e8c923eab02f4dccdbba25fbf132d3f0b702154bf20be6c1fd4442c"), looks := true }, kinds := [], alts := [], laidByText := true, laidKinds := [.data, .data], laidTests := true, laidLooks := .later }
def BundlePresentUptoCardSaid : Prop := Claim7.holds Tryz.pinned (.plain (OpenSpec.upto bundlePresentSpec)) bundlePresentUptoCard

/-- THE SECOND FORM's CARD OF 'macaroonlaw16.BundleParse'. -/
def bundleParseUptoCard : Claim7 := { stood := { row := bundleParseUptoRow, standIns := [], harness := (true, "b86f05889e8c923eab02f4dccdbba25fbf132d3f0b702154bf20be6c1fd4442c"), looks := true }, kinds := [], alts := [], laidByText := true, laidKinds := [.data], laidTests := true, laidLooks := .later }
def BundleParseUptoCardSaid : Prop := Claim7.holds Tryz.pinned (.plain (OpenSpec.upto bundleParseSpec)) bundleParseUptoCard

/-- THE SECOND FORM's CARD OF 'macaroonlaw16.BundleUnique'. -/
def bundleUniqueUptoCard : Claim7 := { stood := { row := bundleUniqueUptoRow, standIns := [], harness := (true, "b86f05889e8c923eab02f4dccdbba25fbf132d3f0b702154bf20be6c1fd4442c"), looks := true }, kinds := [], alts := [], laidByText := true, laidKinds := [.data], laidTests := true, laidLooks := .later }
def BundleUniqueUptoCardSaid : Prop := Claim7.holds Tryz.pinned (.plain (OpenSpec.upto bundleUniqueSpec)) bundleUniqueUptoCard

/-- THE SECOND FORM's CARD OF 'macaroonlaw15.DischargeFound'. -/
def dischargeFoundUptoCard : Claim7 := { stood := { row := dischargeFoundUptoRow, standIns := [], harness := (true, "b86f05889e8c923eab02f4dccdbba25fbf132d3f0b702154bf20be6c1fd4442c"), looks := true }, kinds := [], alts := [], laidByText := true, laidKinds := [.data, .data], laidTests := true, laidLooks := .later }
def DischargeFoundUptoCardSaid : Prop := Claim7.holds Tryz.pinned (.plain (OpenSpec.upto dischargeFoundSpec)) dischargeFoundUptoCard

/-- THE SECOND FORM's CARD OF 'macaroonlaw16.BundleBack'. -/
def bundleBackUptoCard : Claim7 := { stood := { row := bundleBackUptoRow, standIns := [], harness := (true, "b86f05889e8c923eab02f4dccdbba25fbf132d3f0b702154bf20be6c1fd4442c"), looks := true }, kinds := [], alts := [], laidByText := true, laidKinds := [.data], laidTests := true, laidLooks := .later }
def BundleBackUptoCardSaid : Prop := Claim7.holds Tryz.pinned (.plain (OpenSpec.upto bundleBackSpec)) bundleBackUptoCard
end Rows
end Go.Proofs.YtemmlldpmgfblaaGreatDoor
