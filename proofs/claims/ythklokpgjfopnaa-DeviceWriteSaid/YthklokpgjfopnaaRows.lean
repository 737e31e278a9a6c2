/-
  No cell of these rows narrows 'for every input' (looked for: loops, veiled, ifaces, maps, wideKeys, modest, calm, conditions, laid).
  DERIVED. THE GIVEN ROWS OF THIS SEAT. 12 by the template 'for every input the law returns true; each argument reads behind the call as it read before'; 0 by the template 'total and deterministic' (their statements: YthklokpgjfopnaaTotals.lean).
  GIVEN WITH THE SEED: the statements are not yours to turn. If you find one false, say at which input.
  Laid BY PROGRAM, IN A SANDBOX (cutbox-rows.mjs): the forced cells as the released guide's own fill.sh prints them over the translation dd3e25d1bbe172cc… (all of the seat's roots in one cut). By AI agents, Wed Nov 11 2026. No macro, syntax, notation, axiom, sorry.
-/
import Derived.Test.YthklokpgjfopnaaChecked
import GoSem.Claim
import GoSem.ClaimJoined
import GoSem.ClaimMapViews
import Derived.JoinedTies
import Derived.KernelRfl
namespace Go.Proofs.Ythklokpgjfopnaa
/- THE CELL 'sum', in the pinned program and in every row, IS THE sha256 OF THE DUMP (.gsa) THAT YthklokpgjfopnaaProg.lean LOADS. Nothing in Lean hashes anything: it is a label: what it is worth is what the hold of that sum in a sandbox is worth. -/
noncomputable def Try.pinned : Pinned := { name := "ythklokpgjfopnaa", sum := "dd3e25d1bbe172ccd00d7324d39055c74153aca2f88245a1f907aab74d1f78e0", checked := Try.checked }
namespace Rows
def none {H : Type} : Left H := { results := [], args := [] }

/-- 'macaroonlaw15.DischargeAge': WHATEVER THE INPUT: true; the input reads as it did. -/
def dischargeAgeSpec : ChangeSpec := { name := "dischargeAge", fn := fun _ => fun
  | [d1, d2, d3, d4] => { results := [.lit (.bool true)], args := [d1, d2, d3, d4] }
  | _ => none }
def dischargeAgeRow : OpenClaim := { program := "ythklokpgjfopnaa", sum := "dd3e25d1bbe172ccd00d7324d39055c74153aca2f88245a1f907aab74d1f78e0", func := "macaroon/macaroonlaw15.DischargeAge", spec := "dischargeAge", apart := false }
def DischargeAgeSaid : Prop := dischargeAgeRow.holds Try.pinned (OpenSpec.ofChange dischargeAgeSpec)

/-- ITS FALSE NEIGHBOUR: 'it returns false'. Refute it at one input. -/
def dischargeAgeWrong : ChangeSpec := { name := "dischargeAge", fn := fun _ => fun
  | [d1, d2, d3, d4] => { results := [.lit (.bool false)], args := [d1, d2, d3, d4] }
  | _ => none }
def DischargeAgeWrongFalsely : Prop := dischargeAgeRow.holds Try.pinned (OpenSpec.ofChange dischargeAgeWrong)

/-- 'macaroonlaw23.RevokeSteps': WHATEVER THE INPUT: true; the input reads as it did. -/
def revokeStepsSpec : ChangeSpec := { name := "revokeSteps", fn := fun _ => fun
  | [d1, d2, d3] => { results := [.lit (.bool true)], args := [d1, d2, d3] }
  | _ => none }
def revokeStepsRow : OpenClaim := { program := "ythklokpgjfopnaa", sum := "dd3e25d1bbe172ccd00d7324d39055c74153aca2f88245a1f907aab74d1f78e0", func := "macaroon/macaroonlaw23.RevokeSteps", spec := "revokeSteps", unfollowed := true, recurses := true, apart := false }
def RevokeStepsSaid : Prop := revokeStepsRow.holds Try.pinned (OpenSpec.ofChange revokeStepsSpec)

/-- ITS FALSE NEIGHBOUR: 'it returns false'. Refute it at one input. -/
def revokeStepsWrong : ChangeSpec := { name := "revokeSteps", fn := fun _ => fun
  | [d1, d2, d3] => { results := [.lit (.bool false)], args := [d1, d2, d3] }
  | _ => none }
def RevokeStepsWrongFalsely : Prop := revokeStepsRow.holds Try.pinned (OpenSpec.ofChange revokeStepsWrong)

/-- 'macaroonlaw23.RevokeKeeps': WHATEVER THE INPUT: true; the input reads as it did. -/
def revokeKeepsSpec : ChangeSpec := { name := "revokeKeeps", fn := fun _ => fun
  | [d1, d2, d3, d4] => { results := [.lit (.bool true)], args := [d1, d2, d3, d4] }
  | _ => none }
def revokeKeepsRow : OpenClaim := { program := "ythklokpgjfopnaa", sum := "dd3e25d1bbe172ccd00d7324d39055c74153aca2f88245a1f907aab74d1f78e0", func := "macaroon/macaroonlaw23.RevokeKeeps", spec := "revokeKeeps", unfollowed := true, recurses := true, apart := false }
def RevokeKeepsSaid : Prop := revokeKeepsRow.holds Try.pinned (OpenSpec.ofChange revokeKeepsSpec)

/-- ITS FALSE NEIGHBOUR: 'it returns false'. Refute it at one input. -/
def revokeKeepsWrong : ChangeSpec := { name := "revokeKeeps", fn := fun _ => fun
  | [d1, d2, d3, d4] => { results := [.lit (.bool false)], args := [d1, d2, d3, d4] }
  | _ => none }
def RevokeKeepsWrongFalsely : Prop := revokeKeepsRow.holds Try.pinned (OpenSpec.ofChange revokeKeepsWrong)

/-- 'macaroonlaw23.RevokeFull': WHATEVER THE INPUT: true; the input reads as it did. -/
def revokeFullSpec : ChangeSpec := { name := "revokeFull", fn := fun _ => fun
  | [d1, d2] => { results := [.lit (.bool true)], args := [d1, d2] }
  | _ => none }
def revokeFullRow : OpenClaim := { program := "ythklokpgjfopnaa", sum := "dd3e25d1bbe172ccd00d7324d39055c74153aca2f88245a1f907aab74d1f78e0", func := "macaroon/macaroonlaw23.RevokeFull", spec := "revokeFull", unfollowed := true, recurses := true, apart := false }
def RevokeFullSaid : Prop := revokeFullRow.holds Try.pinned (OpenSpec.ofChange revokeFullSpec)

/-- ITS FALSE NEIGHBOUR: 'it returns false'. Refute it at one input. -/
def revokeFullWrong : ChangeSpec := { name := "revokeFull", fn := fun _ => fun
  | [d1, d2] => { results := [.lit (.bool false)], args := [d1, d2] }
  | _ => none }
def RevokeFullWrongFalsely : Prop := revokeFullRow.holds Try.pinned (OpenSpec.ofChange revokeFullWrong)

/-- 'macaroonlaw18.DeviceWrite': WHATEVER THE INPUT: true; the input reads as it did. -/
def deviceWriteSpec : ChangeSpec := { name := "deviceWrite", fn := fun _ => fun
  | [d1, d2, d3] => { results := [.lit (.bool true)], args := [d1, d2, d3] }
  | _ => none }
def deviceWriteRow : OpenClaim := { program := "ythklokpgjfopnaa", sum := "dd3e25d1bbe172ccd00d7324d39055c74153aca2f88245a1f907aab74d1f78e0", func := "macaroon/macaroonlaw18.DeviceWrite", spec := "deviceWrite", apart := false }
def DeviceWriteSaid : Prop := deviceWriteRow.holds Try.pinned (OpenSpec.ofChange deviceWriteSpec)

/-- ITS FALSE NEIGHBOUR: 'it returns false'. Refute it at one input. -/
def deviceWriteWrong : ChangeSpec := { name := "deviceWrite", fn := fun _ => fun
  | [d1, d2, d3] => { results := [.lit (.bool false)], args := [d1, d2, d3] }
  | _ => none }
def DeviceWriteWrongFalsely : Prop := deviceWriteRow.holds Try.pinned (OpenSpec.ofChange deviceWriteWrong)

/-- 'macaroonlaw18.DeviceFull': WHATEVER THE INPUT: true; the input reads as it did. -/
def deviceFullSpec : ChangeSpec := { name := "deviceFull", fn := fun _ => fun
  | [d1, d2] => { results := [.lit (.bool true)], args := [d1, d2] }
  | _ => none }
def deviceFullRow : OpenClaim := { program := "ythklokpgjfopnaa", sum := "dd3e25d1bbe172ccd00d7324d39055c74153aca2f88245a1f907aab74d1f78e0", func := "macaroon/macaroonlaw18.DeviceFull", spec := "deviceFull", apart := false }
def DeviceFullSaid : Prop := deviceFullRow.holds Try.pinned (OpenSpec.ofChange deviceFullSpec)

/-- ITS FALSE NEIGHBOUR: 'it returns false'. Refute it at one input. -/
def deviceFullWrong : ChangeSpec := { name := "deviceFull", fn := fun _ => fun
  | [d1, d2] => { results := [.lit (.bool false)], args := [d1, d2] }
  | _ => none }
def DeviceFullWrongFalsely : Prop := deviceFullRow.holds Try.pinned (OpenSpec.ofChange deviceFullWrong)

/-- 'macaroonlaw18.DeviceNew': WHATEVER THE INPUT: true; the input reads as it did. -/
def deviceNewSpec : ChangeSpec := { name := "deviceNew", fn := fun _ => fun
  | [d1, d2, d3] => { results := [.lit (.bool true)], args := [d1, d2, d3] }
  | _ => none }
def deviceNewRow : OpenClaim := { program := "ythklokpgjfopnaa", sum := "dd3e25d1bbe172ccd00d7324d39055c74153aca2f88245a1f907aab74d1f78e0", func := "macaroon/macaroonlaw18.DeviceNew", spec := "deviceNew", apart := false }
def DeviceNewSaid : Prop := deviceNewRow.holds Try.pinned (OpenSpec.ofChange deviceNewSpec)

/-- ITS FALSE NEIGHBOUR: 'it returns false'. Refute it at one input. -/
def deviceNewWrong : ChangeSpec := { name := "deviceNew", fn := fun _ => fun
  | [d1, d2, d3] => { results := [.lit (.bool false)], args := [d1, d2, d3] }
  | _ => none }
def DeviceNewWrongFalsely : Prop := deviceNewRow.holds Try.pinned (OpenSpec.ofChange deviceNewWrong)

/-- 'macaroonlaw18.DeviceTorn': WHATEVER THE INPUT: true; the input reads as it did. -/
def deviceTornSpec : ChangeSpec := { name := "deviceTorn", fn := fun _ => fun
  | [d1, d2, d3] => { results := [.lit (.bool true)], args := [d1, d2, d3] }
  | _ => none }
def deviceTornRow : OpenClaim := { program := "ythklokpgjfopnaa", sum := "dd3e25d1bbe172ccd00d7324d39055c74153aca2f88245a1f907aab74d1f78e0", func := "macaroon/macaroonlaw18.DeviceTorn", spec := "deviceTorn", apart := false }
def DeviceTornSaid : Prop := deviceTornRow.holds Try.pinned (OpenSpec.ofChange deviceTornSpec)

/-- ITS FALSE NEIGHBOUR: 'it returns false'. Refute it at one input. -/
def deviceTornWrong : ChangeSpec := { name := "deviceTorn", fn := fun _ => fun
  | [d1, d2, d3] => { results := [.lit (.bool false)], args := [d1, d2, d3] }
  | _ => none }
def DeviceTornWrongFalsely : Prop := deviceTornRow.holds Try.pinned (OpenSpec.ofChange deviceTornWrong)

/-- 'macaroonlaw05.Base64Encode': WHATEVER THE INPUT: true; the input reads as it did. -/
def base64EncodeSpec : ChangeSpec := { name := "base64Encode", fn := fun _ => fun
  | [d1, d2] => { results := [.lit (.bool true)], args := [d1, d2] }
  | _ => none }
def base64EncodeRow : OpenClaim := { program := "ythklokpgjfopnaa", sum := "dd3e25d1bbe172ccd00d7324d39055c74153aca2f88245a1f907aab74d1f78e0", func := "macaroon/macaroonlaw05.Base64Encode", spec := "base64Encode", apart := false }
def Base64EncodeSaid : Prop := base64EncodeRow.holds Try.pinned (OpenSpec.ofChange base64EncodeSpec)

/-- ITS FALSE NEIGHBOUR: 'it returns false'. Refute it at one input. -/
def base64EncodeWrong : ChangeSpec := { name := "base64Encode", fn := fun _ => fun
  | [d1, d2] => { results := [.lit (.bool false)], args := [d1, d2] }
  | _ => none }
def Base64EncodeWrongFalsely : Prop := base64EncodeRow.holds Try.pinned (OpenSpec.ofChange base64EncodeWrong)

/-- 'macaroonlaw05.Base64Decode': WHATEVER THE INPUT: true; the input reads as it did. -/
def base64DecodeSpec : ChangeSpec := { name := "base64Decode", fn := fun _ => fun
  | [d1, d2, d3, d4, d5] => { results := [.lit (.bool true)], args := [d1, d2, d3, d4, d5] }
  | _ => none }
def base64DecodeRow : OpenClaim := { program := "ythklokpgjfopnaa", sum := "dd3e25d1bbe172ccd00d7324d39055c74153aca2f88245a1f907aab74d1f78e0", func := "macaroon/macaroonlaw05.Base64Decode", spec := "base64Decode", apart := false }
def Base64DecodeSaid : Prop := base64DecodeRow.holds Try.pinned (OpenSpec.ofChange base64DecodeSpec)

/-- ITS FALSE NEIGHBOUR: 'it returns false'. Refute it at one input. -/
def base64DecodeWrong : ChangeSpec := { name := "base64Decode", fn := fun _ => fun
  | [d1, d2, d3, d4, d5] => { results := [.lit (.bool false)], args := [d1, d2, d3, d4, d5] }
  | _ => none }
def Base64DecodeWrongFalsely : Prop := base64DecodeRow.holds Try.pinned (OpenSpec.ofChange base64DecodeWrong)

/-- 'macaroonlaw05.Base64Back': WHATEVER THE INPUT: true; the input reads as it did. -/
def base64BackSpec : ChangeSpec := { name := "base64Back", fn := fun _ => fun
  | [d] => { results := [.lit (.bool true)], args := [d] }
  | _ => none }
def base64BackRow : OpenClaim := { program := "ythklokpgjfopnaa", sum := "dd3e25d1bbe172ccd00d7324d39055c74153aca2f88245a1f907aab74d1f78e0", func := "macaroon/macaroonlaw05.Base64Back", spec := "base64Back", apart := false }
def Base64BackSaid : Prop := base64BackRow.holds Try.pinned (OpenSpec.ofChange base64BackSpec)

/-- ITS FALSE NEIGHBOUR: 'it returns false'. Refute it at one input. -/
def base64BackWrong : ChangeSpec := { name := "base64Back", fn := fun _ => fun
  | [d] => { results := [.lit (.bool false)], args := [d] }
  | _ => none }
def Base64BackWrongFalsely : Prop := base64BackRow.holds Try.pinned (OpenSpec.ofChange base64BackWrong)

/-- 'macaroonlaw05.Base64Unique': WHATEVER THE INPUT: true; the input reads as it did. -/
def base64UniqueSpec : ChangeSpec := { name := "base64Unique", fn := fun _ => fun
  | [d1, d2, d3] => { results := [.lit (.bool true)], args := [d1, d2, d3] }
  | _ => none }
def base64UniqueRow : OpenClaim := { program := "ythklokpgjfopnaa", sum := "dd3e25d1bbe172ccd00d7324d39055c74153aca2f88245a1f907aab74d1f78e0", func := "macaroon/macaroonlaw05.Base64Unique", spec := "base64Unique", apart := false }
def Base64UniqueSaid : Prop := base64UniqueRow.holds Try.pinned (OpenSpec.ofChange base64UniqueSpec)

/-- ITS FALSE NEIGHBOUR: 'it returns false'. Refute it at one input. -/
def base64UniqueWrong : ChangeSpec := { name := "base64Unique", fn := fun _ => fun
  | [d1, d2, d3] => { results := [.lit (.bool false)], args := [d1, d2, d3] }
  | _ => none }
def Base64UniqueWrongFalsely : Prop := base64UniqueRow.holds Try.pinned (OpenSpec.ofChange base64UniqueWrong)

/- THE SECOND FORM. 'bulk': how many values and letters a reading holds, each counted each time it is reached (what is shared counts as often as it is met; a slice's spare places count too). A statement '..UptoSaid' is the law's where the arguments, and the package variables that the reading takes, are together of bulk at most 1048576: NARROWER than '..Said'. Prove '..Said' where nothing that the law and all that it calls make is longer than what came in: it says more and counts as full. Else prove '..UptoSaid'. A law counts once. -/
mutual
def uptoBulk {H : Type} : DataW H → Nat
  | .lit (.string bytes) => bytes.length + 1
  | .lit _ => 1
  | .nil => 1
  | .ptr d => uptoBulk d + 1
  | .slice elems spare => uptoBulkAll elems + uptoBulkAll spare + 1
  | .agg parts => uptoBulkAll parts + 1
  | .iface _ d => uptoBulk d + 1
  | .map entries => uptoBulkEntries entries + 1
  | .held _ => 1
def uptoBulkAll {H : Type} : List (DataW H) → Nat
  | [] => 0
  | d :: r => uptoBulk d + uptoBulkAll r
def uptoBulkEntries {H : Type} : List (Lit × DataW H) → Nat
  | [] => 0
  | x :: r => uptoBulkEntry x + uptoBulkEntries r
def uptoBulkEntry {H : Type} : Lit × DataW H → Nat
  | (.string bytes, d) => bytes.length + uptoBulk d + 1
  | (_, d) => uptoBulk d + 1
 end
def uptoSmall : (H : Type) → List (DataW H) → Bool := fun _ ds => decide (uptoBulkAll ds ≤ 1048576)
def OpenSpec.upto (s : _root_.Go.ChangeSpec) : _root_.Go.OpenSpec := { _root_.Go.OpenSpec.ofChange s with cond := some uptoSmall }

/-- 'macaroonlaw15.DischargeAge', WHERE WHAT IT READS IS OF BULK AT MOST 1048576: true; the input reads as it did. -/
def dischargeAgeUptoRow : OpenClaim := { program := "ythklokpgjfopnaa", sum := "dd3e25d1bbe172ccd00d7324d39055c74153aca2f88245a1f907aab74d1f78e0", func := "macaroon/macaroonlaw15.DischargeAge", spec := "dischargeAge", apart := false, narrowed := true }
def DischargeAgeUptoSaid : Prop := dischargeAgeUptoRow.holds Try.pinned (OpenSpec.upto dischargeAgeSpec)

/-- 'macaroonlaw23.RevokeSteps', WHERE WHAT IT READS IS OF BULK AT MOST 1048576: true; the input reads as it did. -/
def revokeStepsUptoRow : OpenClaim := { program := "ythklokpgjfopnaa", sum := "dd3e25d1bbe172ccd00d7324d39055c74153aca2f88245a1f907aab74d1f78e0", func := "macaroon/macaroonlaw23.RevokeSteps", spec := "revokeSteps", unfollowed := true, recurses := true, apart := false, narrowed := true }
def RevokeStepsUptoSaid : Prop := revokeStepsUptoRow.holds Try.pinned (OpenSpec.upto revokeStepsSpec)

/-- 'macaroonlaw23.RevokeKeeps', WHERE WHAT IT READS IS OF BULK AT MOST 1048576: true; the input reads as it did. -/
def revokeKeepsUptoRow : OpenClaim := { program := "ythklokpgjfopnaa", sum := "dd3e25d1bbe172ccd00d7324d39055c74153aca2f88245a1f907aab74d1f78e0", func := "macaroon/macaroonlaw23.RevokeKeeps", spec := "revokeKeeps", unfollowed := true, recurses := true, apart := false, narrowed := true }
def RevokeKeepsUptoSaid : Prop := revokeKeepsUptoRow.holds Try.pinned (OpenSpec.upto revokeKeepsSpec)

/-- 'macaroonlaw23.RevokeFull', WHERE WHAT IT READS IS OF BULK AT MOST 1048576: true; the input reads as it did. -/
def revokeFullUptoRow : OpenClaim := { program := "ythklokpgjfopnaa", sum := "dd3e25d1bbe172ccd00d7324d39055c74153aca2f88245a1f907aab74d1f78e0", func := "macaroon/macaroonlaw23.RevokeFull", spec := "revokeFull", unfollowed := true, recurses := true, apart := false, narrowed := true }
def RevokeFullUptoSaid : Prop := revokeFullUptoRow.holds Try.pinned (OpenSpec.upto revokeFullSpec)

/-- 'macaroonlaw18.DeviceWrite', WHERE WHAT IT READS IS OF BULK AT MOST 1048576: true; the input reads as it did. -/
def deviceWriteUptoRow : OpenClaim := { program := "ythklokpgjfopnaa", sum := "dd3e25d1bbe172ccd00d7324d39055c74153aca2f88245a1f907aab74d1f78e0", func := "macaroon/macaroonlaw18.DeviceWrite", spec := "deviceWrite", apart := false, narrowed := true }
def DeviceWriteUptoSaid : Prop := deviceWriteUptoRow.holds Try.pinned (OpenSpec.upto deviceWriteSpec)

/-- 'macaroonlaw18.DeviceFull', WHERE WHAT IT READS IS OF BULK AT MOST 1048576: true; the input reads as it did. -/
def deviceFullUptoRow : OpenClaim := { program := "ythklokpgjfopnaa", sum := "dd3e25d1bbe172ccd00d7324d39055c74153aca2f88245a1f907aab74d1f78e0", func := "macaroon/macaroonlaw18.DeviceFull", spec := "deviceFull", apart := false, narrowed := true }
def DeviceFullUptoSaid : Prop := deviceFullUptoRow.holds Try.pinned (OpenSpec.upto deviceFullSpec)

/-- 'macaroonlaw18.DeviceNew', WHERE WHAT IT READS IS OF BULK AT MOST 1048576: true; the input reads as it did. -/
def deviceNewUptoRow : OpenClaim := { program := "ythklokpgjfopnaa", sum := "dd3e25d1bbe172ccd00d7324d39055c74153aca2f88245a1f907aab74d1f78e0", func := "macaroon/macaroonlaw18.DeviceNew", spec := "deviceNew", apart := false, narrowed := true }
def DeviceNewUptoSaid : Prop := deviceNewUptoRow.holds Try.pinned (OpenSpec.upto deviceNewSpec)

/-- 'macaroonlaw18.DeviceTorn', WHERE WHAT IT READS IS OF BULK AT MOST 1048576: true; the input reads as it did. -/
def deviceTornUptoRow : OpenClaim := { program := "ythklokpgjfopnaa", sum := "dd3e25d1bbe172ccd00d7324d39055c74153aca2f88245a1f907aab74d1f78e0", func := "macaroon/macaroonlaw18.DeviceTorn", spec := "deviceTorn", apart := false, narrowed := true }
def DeviceTornUptoSaid : Prop := deviceTornUptoRow.holds Try.pinned (OpenSpec.upto deviceTornSpec)

/-- 'macaroonlaw05.Base64Encode', WHERE WHAT IT READS IS OF BULK AT MOST 1048576: true; the input reads as it did. -/
def base64EncodeUptoRow : OpenClaim := { program := "ythklokpgjfopnaa", sum := "dd3e25d1bbe172ccd00d7324d39055c74153aca2f88245a1f907aab74d1f78e0", func := "macaroon/macaroonlaw05.Base64Encode", spec := "base64Encode", apart := false, narrowed := true }
def Base64EncodeUptoSaid : Prop := base64EncodeUptoRow.holds Try.pinned (OpenSpec.upto base64EncodeSpec)

/-- 'macaroonlaw05.Base64Decode', WHERE WHAT IT READS IS OF BULK AT MOST 1048576: true; the input reads as it did. -/
def base64DecodeUptoRow : OpenClaim := { program := "ythklokpgjfopnaa", sum := "dd3e25d1bbe172ccd00d7324d39055c74153aca2f88245a1f907aab74d1f78e0", func := "macaroon/macaroonlaw05.Base64Decode", spec := "base64Decode", apart := false, narrowed := true }
def Base64DecodeUptoSaid : Prop := base64DecodeUptoRow.holds Try.pinned (OpenSpec.upto base64DecodeSpec)

/-- 'macaroonlaw05.Base64Back', WHERE WHAT IT READS IS OF BULK AT MOST 1048576: true; the input reads as it did. -/
def base64BackUptoRow : OpenClaim := { program := "ythklokpgjfopnaa", sum := "dd3e25d1bbe172ccd00d7324d39055c74153aca2f88245a1f907aab74d1f78e0", func := "macaroon/macaroonlaw05.Base64Back", spec := "base64Back", apart := false, narrowed := true }
def Base64BackUptoSaid : Prop := base64BackUptoRow.holds Try.pinned (OpenSpec.upto base64BackSpec)

/-- 'macaroonlaw05.Base64Unique', WHERE WHAT IT READS IS OF BULK AT MOST 1048576: true; the input reads as it did. -/
def base64UniqueUptoRow : OpenClaim := { program := "ythklokpgjfopnaa", sum := "dd3e25d1bbe172ccd00d7324d39055c74153aca2f88245a1f907aab74d1f78e0", func := "macaroon/macaroonlaw05.Base64Unique", spec := "base64Unique", apart := false, narrowed := true }
def Base64UniqueUptoSaid : Prop := base64UniqueUptoRow.holds Try.pinned (OpenSpec.upto base64UniqueSpec)

end Rows
end Go.Proofs.Ythklokpgjfopnaa
