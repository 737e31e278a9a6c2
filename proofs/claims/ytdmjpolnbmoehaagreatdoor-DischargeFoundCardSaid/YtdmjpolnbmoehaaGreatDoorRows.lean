/-
  NARROWER THAN 'FOR EVERY INPUT', by the rows' own cells (each row's printed sentence says how): DischargeRestrict: laid · DischargeBind: laid · ChainAttenuate: laid · ChainTags: laid · ChainFound: laid · BundleHides: laid · DischargeGrant: laid · BundlePresent: laid · DischargeFound: laid · TicketAdd: laid · TicketGate: laid.
  DERIVED. THE GIVEN ROWS OF THIS SEAT. 11 by the template 'for every input the law returns true; each argument reads behind the call as it read before'; 0 by the template 'total and deterministic' (their statements: YtdmjpolnbmoehaaGreatDoorTotals.lean).
  GIVEN WITH THE SEED: the statements are not yours to turn. If you find one false, say at which input.
  Laid BY PROGRAM, IN A SANDBOX (cutbox-rows.mjs): the forced cells as the released guide's own fill.sh prints them over the translation 7b76b0bf5bb3affa… (all of the seat's roots in one cut). By AI agents, Wed Nov 11 2026. No macro, syntax, notation, axiom, sorry.
-/
import Derived.Test.YtdmjpolnbmoehaaGreatDoorChecked
import GoSem.Claim
import GoSem.ClaimJoined
import GoSem.ClaimMapViews
import Derived.JoinedTies
import Derived.KernelRfl
namespace Go.Proofs.YtdmjpolnbmoehaaGreatDoor
/- THE CELL 'sum', in the pinned program and in every row, IS THE sha256 OF THE DUMP (.gsa) THAT YtdmjpolnbmoehaaGreatDoorProg.lean LOADS. Nothing in Lean hashes anything: it is a label: what it is worth is what the hold of that sum in a sandbox is worth. -/
noncomputable def Tryz.pinned : Pinned := { name := "ytdmjpolnbmoehaagreatdoor", sum := "7b76b0bf5bb3affa8a789865758dfc69212848626f68763730dd1bc239d2921c", checked := Tryz.checked }
namespace Rows
def none {H : Type} : Left H := { results := [], args := [] }

/- WHAT THE LISTED PACKAGE-LEVEL VARIABLES READ AS WHEN THE CALL BEGINS. Each datum BY PROGRAM (the guide's laid-datum.mjs) off the statement by which the dump's own 'gosem.cut.vars' lays the variable. In a bare row this is a premise. The card (YtdmjpolnbmoehaaGreatDoorCards.lean) ties it to the program's text. -/
def laid_macaroon_sha_k {H : Type} : DataW H := .agg [.lit (.int .u32 1116352408), .lit (.int .u32 1899447441), .lit (.int .u32 3049323471), .lit (.int .u32 3921009573), .lit (.int .u32 961987163), .lit (.int .u32 1508970993), .lit (.int .u32 2453635748), .lit (.int .u32 2870763221), .lit (.int .u32 3624381080), .lit (.int .u32 310598401), .lit (.int .u32 607225278), .lit (.int .u32 1426881987), .lit (.int .u32 1925078388), .lit (.int .u32 2162078206), .lit (.int .u32 2614888103), .lit (.int .u32 3248222580), .lit (.int .u32 3835390401), .lit (.int .u32 4022224774), .lit (.int .u32 264347078), .lit (.int .u32 604807628), .lit (.int .u32 770255983), .lit (.int .u32 1249150122), .lit (.int .u32 1555081692), .lit (.int .u32 1996064986), .lit (.int .u32 2554220882), .lit (.int .u32 2821834349), .lit (.int .u32 2952996808), .lit (.int .u32 3210313671), .lit (.int .u32 3336571891), .lit (.int .u32 3584528711), .lit (.int .u32 113926993), .lit (.int .u32 338241895), .lit (.int .u32 666307205), .lit (.int .u32 773529912), .lit (.int .u32 1294757372), .lit (.int .u32 1396182291), .lit (.int .u32 1695183700), .lit (.int .u32 1986661051), .lit (.int .u32 2177026350), .lit (.int .u32 2456956037), .lit (.int .u32 2730485921), .lit (.int .u32 2820302411), .lit (.int .u32 3259730800), .lit (.int .u32 3345764771), .lit (.int .u32 3516065817), .lit (.int .u32 3600352804), .lit (.int .u32 4094571909), .lit (.int .u32 275423344), .lit (.int .u32 430227734), .lit (.int .u32 506948616), .lit (.int .u32 659060556), .lit (.int .u32 883997877), .lit (.int .u32 958139571), .lit (.int .u32 1322822218), .lit (.int .u32 1537002063), .lit (.int .u32 1747873779), .lit (.int .u32 1955562222), .lit (.int .u32 2024104815), .lit (.int .u32 2227730452), .lit (.int .u32 2361852424), .lit (.int .u32 2428436474), .lit (.int .u32 2756734187), .lit (.int .u32 3204031479), .lit (.int .u32 3329325298)]
def laid_macaroon_predicate_bits {H : Type} : DataW H := .agg [.lit (.int .i64 0), .lit (.int .i64 64), .lit (.int .i64 32), .lit (.int .i64 7), .lit (.int .i64 0), .lit (.int .i64 0), .lit (.int .i64 0), .lit (.int .i64 0)]

/-- 'macaroonlaw15.DischargeRestrict': WHATEVER THE INPUT: true; the input reads as it did. -/
def dischargeRestrictSpec : ChangeSpec := { name := "dischargeRestrict", fn := fun _ => fun
  | [d1, d2, d3] => { results := [.lit (.bool true)], args := [d1, d2, d3] }
  | _ => none }
def dischargeRestrictRow : OpenClaim := { program := "ytdmjpolnbmoehaagreatdoor", sum := "7b76b0bf5bb3affa8a789865758dfc69212848626f68763730dd1bc239d2921c", func := "macaroon/macaroonlaw15.DischargeRestrict", spec := "dischargeRestrict", unfollowed := true, recurses := true, named := ["macaroon/predicate.bits", "macaroon/sha.k"], apart := false, laid := [("macaroon/sha.k", laid_macaroon_sha_k), ("macaroon/predicate.bits", laid_macaroon_predicate_bits)] }
def DischargeRestrictSaid : Prop := dischargeRestrictRow.holds Tryz.pinned (OpenSpec.ofChange dischargeRestrictSpec)

/-- ITS FALSE NEIGHBOUR: 'it returns false'. Refute it at one input. -/
def dischargeRestrictWrong : ChangeSpec := { name := "dischargeRestrict", fn := fun _ => fun
  | [d1, d2, d3] => { results := [.lit (.bool false)], args := [d1, d2, d3] }
  | _ => none }
def DischargeRestrictWrongFalsely : Prop := dischargeRestrictRow.holds Tryz.pinned (OpenSpec.ofChange dischargeRestrictWrong)

/-- 'macaroonlaw15.DischargeBind': WHATEVER THE INPUT: true; the input reads as it did. -/
def dischargeBindSpec : ChangeSpec := { name := "dischargeBind", fn := fun _ => fun
  | [d1, d2, d3, d4, d5] => { results := [.lit (.bool true)], args := [d1, d2, d3, d4, d5] }
  | _ => none }
def dischargeBindRow : OpenClaim := { program := "ytdmjpolnbmoehaagreatdoor", sum := "7b76b0bf5bb3affa8a789865758dfc69212848626f68763730dd1bc239d2921c", func := "macaroon/macaroonlaw15.DischargeBind", spec := "dischargeBind", unfollowed := true, recurses := true, named := ["macaroon/sha.k", "macaroon/predicate.bits"], apart := false, laid := [("macaroon/sha.k", laid_macaroon_sha_k), ("macaroon/predicate.bits", laid_macaroon_predicate_bits)] }
def DischargeBindSaid : Prop := dischargeBindRow.holds Tryz.pinned (OpenSpec.ofChange dischargeBindSpec)

/-- ITS FALSE NEIGHBOUR: 'it returns false'. Refute it at one input. -/
def dischargeBindWrong : ChangeSpec := { name := "dischargeBind", fn := fun _ => fun
  | [d1, d2, d3, d4, d5] => { results := [.lit (.bool false)], args := [d1, d2, d3, d4, d5] }
  | _ => none }
def DischargeBindWrongFalsely : Prop := dischargeBindRow.holds Tryz.pinned (OpenSpec.ofChange dischargeBindWrong)

/-- 'macaroonlaw13.ChainAttenuate': WHATEVER THE INPUT: true; the input reads as it did. -/
def chainAttenuateSpec : ChangeSpec := { name := "chainAttenuate", fn := fun _ => fun
  | [d1, d2, d3, d4] => { results := [.lit (.bool true)], args := [d1, d2, d3, d4] }
  | _ => none }
def chainAttenuateRow : OpenClaim := { program := "ytdmjpolnbmoehaagreatdoor", sum := "7b76b0bf5bb3affa8a789865758dfc69212848626f68763730dd1bc239d2921c", func := "macaroon/macaroonlaw13.ChainAttenuate", spec := "chainAttenuate", unfollowed := true, recurses := true, named := ["macaroon/sha.k", "macaroon/predicate.bits"], apart := false, laid := [("macaroon/sha.k", laid_macaroon_sha_k), ("macaroon/predicate.bits", laid_macaroon_predicate_bits)] }
def ChainAttenuateSaid : Prop := chainAttenuateRow.holds Tryz.pinned (OpenSpec.ofChange chainAttenuateSpec)

/-- ITS FALSE NEIGHBOUR: 'it returns false'. Refute it at one input. -/
def chainAttenuateWrong : ChangeSpec := { name := "chainAttenuate", fn := fun _ => fun
  | [d1, d2, d3, d4] => { results := [.lit (.bool false)], args := [d1, d2, d3, d4] }
  | _ => none }
def ChainAttenuateWrongFalsely : Prop := chainAttenuateRow.holds Tryz.pinned (OpenSpec.ofChange chainAttenuateWrong)

/-- 'macaroonlaw13.ChainTags': WHATEVER THE INPUT: true; the input reads as it did. -/
def chainTagsSpec : ChangeSpec := { name := "chainTags", fn := fun _ => fun
  | [d1, d2, d3, d4] => { results := [.lit (.bool true)], args := [d1, d2, d3, d4] }
  | _ => none }
def chainTagsRow : OpenClaim := { program := "ytdmjpolnbmoehaagreatdoor", sum := "7b76b0bf5bb3affa8a789865758dfc69212848626f68763730dd1bc239d2921c", func := "macaroon/macaroonlaw13.ChainTags", spec := "chainTags", unfollowed := true, recurses := true, named := ["macaroon/sha.k", "macaroon/predicate.bits"], apart := false, laid := [("macaroon/sha.k", laid_macaroon_sha_k), ("macaroon/predicate.bits", laid_macaroon_predicate_bits)] }
def ChainTagsSaid : Prop := chainTagsRow.holds Tryz.pinned (OpenSpec.ofChange chainTagsSpec)

/-- ITS FALSE NEIGHBOUR: 'it returns false'. Refute it at one input. -/
def chainTagsWrong : ChangeSpec := { name := "chainTags", fn := fun _ => fun
  | [d1, d2, d3, d4] => { results := [.lit (.bool false)], args := [d1, d2, d3, d4] }
  | _ => none }
def ChainTagsWrongFalsely : Prop := chainTagsRow.holds Tryz.pinned (OpenSpec.ofChange chainTagsWrong)

/-- 'macaroonlaw13.ChainFound': WHATEVER THE INPUT: true; the input reads as it did. -/
def chainFoundSpec : ChangeSpec := { name := "chainFound", fn := fun _ => fun
  | [d] => { results := [.lit (.bool true)], args := [d] }
  | _ => none }
def chainFoundRow : OpenClaim := { program := "ytdmjpolnbmoehaagreatdoor", sum := "7b76b0bf5bb3affa8a789865758dfc69212848626f68763730dd1bc239d2921c", func := "macaroon/macaroonlaw13.ChainFound", spec := "chainFound", unfollowed := true, recurses := true, named := ["macaroon/predicate.bits", "macaroon/sha.k"], apart := false, laid := [("macaroon/sha.k", laid_macaroon_sha_k), ("macaroon/predicate.bits", laid_macaroon_predicate_bits)] }
def ChainFoundSaid : Prop := chainFoundRow.holds Tryz.pinned (OpenSpec.ofChange chainFoundSpec)

/-- ITS FALSE NEIGHBOUR: 'it returns false'. Refute it at one input. -/
def chainFoundWrong : ChangeSpec := { name := "chainFound", fn := fun _ => fun
  | [d] => { results := [.lit (.bool false)], args := [d] }
  | _ => none }
def ChainFoundWrongFalsely : Prop := chainFoundRow.holds Tryz.pinned (OpenSpec.ofChange chainFoundWrong)

/-- 'macaroonlaw16.BundleHides': WHATEVER THE INPUT: true; the input reads as it did. -/
def bundleHidesSpec : ChangeSpec := { name := "bundleHides", fn := fun _ => fun
  | [d] => { results := [.lit (.bool true)], args := [d] }
  | _ => none }
def bundleHidesRow : OpenClaim := { program := "ytdmjpolnbmoehaagreatdoor", sum := "7b76b0bf5bb3affa8a789865758dfc69212848626f68763730dd1bc239d2921c", func := "macaroon/macaroonlaw16.BundleHides", spec := "bundleHides", unfollowed := true, recurses := true, named := ["macaroon/predicate.bits", "macaroon/sha.k"], apart := false, laid := [("macaroon/sha.k", laid_macaroon_sha_k), ("macaroon/predicate.bits", laid_macaroon_predicate_bits)] }
def BundleHidesSaid : Prop := bundleHidesRow.holds Tryz.pinned (OpenSpec.ofChange bundleHidesSpec)

/-- ITS FALSE NEIGHBOUR: 'it returns false'. Refute it at one input. -/
def bundleHidesWrong : ChangeSpec := { name := "bundleHides", fn := fun _ => fun
  | [d] => { results := [.lit (.bool false)], args := [d] }
  | _ => none }
def BundleHidesWrongFalsely : Prop := bundleHidesRow.holds Tryz.pinned (OpenSpec.ofChange bundleHidesWrong)

/-- 'macaroonlaw15.DischargeGrant': WHATEVER THE INPUT: true; the input reads as it did. -/
def dischargeGrantSpec : ChangeSpec := { name := "dischargeGrant", fn := fun _ => fun
  | [d1, d2, d3, d4, d5] => { results := [.lit (.bool true)], args := [d1, d2, d3, d4, d5] }
  | _ => none }
def dischargeGrantRow : OpenClaim := { program := "ytdmjpolnbmoehaagreatdoor", sum := "7b76b0bf5bb3affa8a789865758dfc69212848626f68763730dd1bc239d2921c", func := "macaroon/macaroonlaw15.DischargeGrant", spec := "dischargeGrant", unfollowed := true, recurses := true, named := ["macaroon/predicate.bits", "macaroon/sha.k"], apart := false, laid := [("macaroon/sha.k", laid_macaroon_sha_k), ("macaroon/predicate.bits", laid_macaroon_predicate_bits)] }
def DischargeGrantSaid : Prop := dischargeGrantRow.holds Tryz.pinned (OpenSpec.ofChange dischargeGrantSpec)

/-- ITS FALSE NEIGHBOUR: 'it returns false'. Refute it at one input. -/
def dischargeGrantWrong : ChangeSpec := { name := "dischargeGrant", fn := fun _ => fun
  | [d1, d2, d3, d4, d5] => { results := [.lit (.bool false)], args := [d1, d2, d3, d4, d5] }
  | _ => none }
def DischargeGrantWrongFalsely : Prop := dischargeGrantRow.holds Tryz.pinned (OpenSpec.ofChange dischargeGrantWrong)

/-- 'macaroonlaw16.BundlePresent': WHATEVER THE INPUT: true; the input reads as it did. -/
def bundlePresentSpec : ChangeSpec := { name := "bundlePresent", fn := fun _ => fun
  | [d1, d2, d3, d4] => { results := [.lit (.bool true)], args := [d1, d2, d3, d4] }
  | _ => none }
def bundlePresentRow : OpenClaim := { program := "ytdmjpolnbmoehaagreatdoor", sum := "7b76b0bf5bb3affa8a789865758dfc69212848626f68763730dd1bc239d2921c", func := "macaroon/macaroonlaw16.BundlePresent", spec := "bundlePresent", unfollowed := true, recurses := true, named := ["macaroon/predicate.bits", "macaroon/sha.k"], apart := false, laid := [("macaroon/sha.k", laid_macaroon_sha_k), ("macaroon/predicate.bits", laid_macaroon_predicate_bits)] }
def BundlePresentSaid : Prop := bundlePresentRow.holds Tryz.pinned (OpenSpec.ofChange bundlePresentSpec)

/-- ITS FALSE NEIGHBOUR: 'it returns false'. Refute it at one input. -/
def bundlePresentWrong : ChangeSpec := { name := "bundlePresent", fn := fun _ => fun
  | [d1, d2, d3, d4] => { results := [.lit (.bool false)], args := [d1, d2, d3, d4] }
  | _ => none }
def BundlePresentWrongFalsely : Prop := bundlePresentRow.holds Tryz.pinned (OpenSpec.ofChange bundlePresentWrong)

/-- 'macaroonlaw15.DischargeFound': WHATEVER THE INPUT: true; the input reads as it did. -/
def dischargeFoundSpec : ChangeSpec := { name := "dischargeFound", fn := fun _ => fun
  | [d1, d2] => { results := [.lit (.bool true)], args := [d1, d2] }
  | _ => none }
def dischargeFoundRow : OpenClaim := { program := "ytdmjpolnbmoehaagreatdoor", sum := "7b76b0bf5bb3affa8a789865758dfc69212848626f68763730dd1bc239d2921c", func := "macaroon/macaroonlaw15.DischargeFound", spec := "dischargeFound", unfollowed := true, recurses := true, named := ["macaroon/predicate.bits", "macaroon/sha.k"], apart := false, laid := [("macaroon/sha.k", laid_macaroon_sha_k), ("macaroon/predicate.bits", laid_macaroon_predicate_bits)] }
def DischargeFoundSaid : Prop := dischargeFoundRow.holds Tryz.pinned (OpenSpec.ofChange dischargeFoundSpec)

/-- ITS FALSE NEIGHBOUR: 'it returns false'. Refute it at one input. -/
def dischargeFoundWrong : ChangeSpec := { name := "dischargeFound", fn := fun _ => fun
  | [d1, d2] => { results := [.lit (.bool false)], args := [d1, d2] }
  | _ => none }
def DischargeFoundWrongFalsely : Prop := dischargeFoundRow.holds Tryz.pinned (OpenSpec.ofChange dischargeFoundWrong)

/-- 'macaroonlaw14.TicketAdd': WHATEVER THE INPUT: true; the input reads as it did. -/
def ticketAddSpec : ChangeSpec := { name := "ticketAdd", fn := fun _ => fun
  | [d1, d2, d3] => { results := [.lit (.bool true)], args := [d1, d2, d3] }
  | _ => none }
def ticketAddRow : OpenClaim := { program := "ytdmjpolnbmoehaagreatdoor", sum := "7b76b0bf5bb3affa8a789865758dfc69212848626f68763730dd1bc239d2921c", func := "macaroon/macaroonlaw14.TicketAdd", spec := "ticketAdd", unfollowed := true, recurses := true, named := ["macaroon/sha.k", "macaroon/predicate.bits"], apart := false, laid := [("macaroon/sha.k", laid_macaroon_sha_k), ("macaroon/predicate.bits", laid_macaroon_predicate_bits)] }
def TicketAddSaid : Prop := ticketAddRow.holds Tryz.pinned (OpenSpec.ofChange ticketAddSpec)

/-- ITS FALSE NEIGHBOUR: 'it returns false'. Refute it at one input. -/
def ticketAddWrong : ChangeSpec := { name := "ticketAdd", fn := fun _ => fun
  | [d1, d2, d3] => { results := [.lit (.bool false)], args := [d1, d2, d3] }
  | _ => none }
def TicketAddWrongFalsely : Prop := ticketAddRow.holds Tryz.pinned (OpenSpec.ofChange ticketAddWrong)

/-- 'macaroonlaw14.TicketGate': WHATEVER THE INPUT: true; the input reads as it did. -/
def ticketGateSpec : ChangeSpec := { name := "ticketGate", fn := fun _ => fun
  | [d] => { results := [.lit (.bool true)], args := [d] }
  | _ => none }
def ticketGateRow : OpenClaim := { program := "ytdmjpolnbmoehaagreatdoor", sum := "7b76b0bf5bb3affa8a789865758dfc69212848626f68763730dd1bc239d2921c", func := "macaroon/macaroonlaw14.TicketGate", spec := "ticketGate", unfollowed := true, recurses := true, named := ["macaroon/sha.k", "macaroon/predicate.bits"], apart := false, laid := [("macaroon/sha.k", laid_macaroon_sha_k), ("macaroon/predicate.bits", laid_macaroon_predicate_bits)] }
def TicketGateSaid : Prop := ticketGateRow.holds Tryz.pinned (OpenSpec.ofChange ticketGateSpec)

/-- ITS FALSE NEIGHBOUR: 'it returns false'. Refute it at one input. -/
def ticketGateWrong : ChangeSpec := { name := "ticketGate", fn := fun _ => fun
  | [d] => { results := [.lit (.bool false)], args := [d] }
  | _ => none }
def TicketGateWrongFalsely : Prop := ticketGateRow.holds Tryz.pinned (OpenSpec.ofChange ticketGateWrong)

/- THE SECOND FORM. 'bulk': how many values and letters a reading holds, each counted each time it is reached (what is shared counts as often as it is met; a slice's spare places count too). A statement '..UptoSaid' is the law's where the arguments, and the package variables that the reading takes, are together of bulk at most 1048576: NARROWER than '..Said'. Prove '..Said' where nothing that the law and all that it calls make is longer than what came in: it says more and counts as full. Else prove '..UptoSaid'. A law counts once. -/
mutual
def uptoBulk {H : Type} : DataW H → Nat
  | .lit (.string bytes) => bytes.length + 1
  | .lit _ => 1
  | .nil => 1
  | .ptr d => uptoBulk d + 1
  | .slice elems spare => uptoBulkAll elems + uptoBulkAll spare + 1
  | .agg parts => uptoBulkAll parts + 1
  | .iface _ d => uptoBulk d + 1
  | .map entries => uptoBulkEntries entries + 1
  | .held _ => 1
def uptoBulkAll {H : Type} : List (DataW H) → Nat
  | [] => 0
  | d :: r => uptoBulk d + uptoBulkAll r
def uptoBulkEntries {H : Type} : List (Lit × DataW H) → Nat
  | [] => 0
  | x :: r => uptoBulkEntry x + uptoBulkEntries r
def uptoBulkEntry {H : Type} : Lit × DataW H → Nat
  | (.string bytes, d) => bytes.length + uptoBulk d + 1
  | (_, d) => uptoBulk d + 1
 end
def uptoSmall : (H : Type) → List (DataW H) → Bool := fun _ ds => decide (uptoBulkAll ds ≤ 1048576)
def OpenSpec.upto (s : _root_.Go.ChangeSpec) : _root_.Go.OpenSpec := { _root_.Go.OpenSpec.ofChange s with cond := some uptoSmall }

/-- 'macaroonlaw15.DischargeRestrict', WHERE WHAT IT READS IS OF BULK AT MOST 1048576: true; the input reads as it did. -/
def dischargeRestrictUptoRow : OpenClaim := { program := "ytdmjpolnbmoehaagreatdoor", sum := "7b76b0bf5bb3affa8a789865758dfc69212848626f68763730dd1bc239d2921c", func := "macaroon/macaroonlaw15.DischargeRestrict", spec := "dischargeRestrict", unfollowed := true, recurses := true, named := ["macaroon/predicate.bits", "macaroon/sha.k"], apart := false, laid := [("macaroon/sha.k", laid_macaroon_sha_k), ("macaroon/predicate.bits", laid_macaroon_predicate_bits)], narrowed := true }
def DischargeRestrictUptoSaid : Prop := dischargeRestrictUptoRow.holds Tryz.pinned (OpenSpec.upto dischargeRestrictSpec)

/-- 'macaroonlaw15.DischargeBind', WHERE WHAT IT READS IS OF BULK AT MOST 1048576: true; the input reads as it did. -/
def dischargeBindUptoRow : OpenClaim := { program := "ytdmjpolnbmoehaagreatdoor", sum := "7b76b0bf5bb3affa8a789865758dfc69212848626f68763730dd1bc239d2921c", func := "macaroon/macaroonlaw15.DischargeBind", spec := "dischargeBind", unfollowed := true, recurses := true, named := ["macaroon/sha.k", "macaroon/predicate.bits"], apart := false, laid := [("macaroon/sha.k", laid_macaroon_sha_k), ("macaroon/predicate.bits", laid_macaroon_predicate_bits)], narrowed := true }
def DischargeBindUptoSaid : Prop := dischargeBindUptoRow.holds Tryz.pinned (OpenSpec.upto dischargeBindSpec)

/-- 'macaroonlaw13.ChainAttenuate', WHERE WHAT IT READS IS OF BULK AT MOST 1048576: true; the input reads as it did. -/
def chainAttenuateUptoRow : OpenClaim := { program := "ytdmjpolnbmoehaagreatdoor", sum := "7b76b0bf5bb3affa8a789865758dfc69212848626f68763730dd1bc239d2921c", func := "macaroon/macaroonlaw13.ChainAttenuate", spec := "chainAttenuate", unfollowed := true, recurses := true, named := ["macaroon/sha.k", "macaroon/predicate.bits"], apart := false, laid := [("macaroon/sha.k", laid_macaroon_sha_k), ("macaroon/predicate.bits", laid_macaroon_predicate_bits)], narrowed := true }
def ChainAttenuateUptoSaid : Prop := chainAttenuateUptoRow.holds Tryz.pinned (OpenSpec.upto chainAttenuateSpec)

/-- 'macaroonlaw13.ChainTags', WHERE WHAT IT READS IS OF BULK AT MOST 1048576: true; the input reads as it did. -/
def chainTagsUptoRow : OpenClaim := { program := "ytdmjpolnbmoehaagreatdoor", sum := "7b76b0bf5bb3affa8a789865758dfc69212848626f68763730dd1bc239d2921c", func := "macaroon/macaroonlaw13.ChainTags", spec := "chainTags", unfollowed := true, recurses := true, named := ["macaroon/sha.k", "macaroon/predicate.bits"], apart := false, laid := [("macaroon/sha.k", laid_macaroon_sha_k), ("macaroon/predicate.bits", laid_macaroon_predicate_bits)], narrowed := true }
def ChainTagsUptoSaid : Prop := chainTagsUptoRow.holds Tryz.pinned (OpenSpec.upto chainTagsSpec)

/-- 'macaroonlaw13.ChainFound', WHERE WHAT IT READS IS OF BULK AT MOST 1048576: true; the input reads as it did. -/
def chainFoundUptoRow : OpenClaim := { program := "ytdmjpolnbmoehaagreatdoor", sum := "7b76b0bf5bb3affa8a789865758dfc69212848626f68763730dd1bc239d2921c", func := "macaroon/macaroonlaw13.ChainFound", spec := "chainFound", unfollowed := true, recurses := true, named := ["macaroon/predicate.bits", "macaroon/sha.k"], apart := false, laid := [("macaroon/sha.k", laid_macaroon_sha_k), ("macaroon/predicate.bits", laid_macaroon_predicate_bits)], narrowed := true }
def ChainFoundUptoSaid : Prop := chainFoundUptoRow.holds Tryz.pinned (OpenSpec.upto chainFoundSpec)

/-- 'macaroonlaw16.BundleHides', WHERE WHAT IT READS IS OF BULK AT MOST 1048576: true; the input reads as it did. -/
def bundleHidesUptoRow : OpenClaim := { program := "ytdmjpolnbmoehaagreatdoor", sum := "7b76b0bf5bb3affa8a789865758dfc69212848626f68763730dd1bc239d2921c", func := "macaroon/macaroonlaw16.BundleHides", spec := "bundleHides", unfollowed := true, recurses := true, named := ["macaroon/predicate.bits", "macaroon/sha.k"], apart := false, laid := [("macaroon/sha.k", laid_macaroon_sha_k), ("macaroon/predicate.bits", laid_macaroon_predicate_bits)], narrowed := true }
def BundleHidesUptoSaid : Prop := bundleHidesUptoRow.holds Tryz.pinned (OpenSpec.upto bundleHidesSpec)

/-- 'macaroonlaw15.DischargeGrant', WHERE WHAT IT READS IS OF BULK AT MOST 1048576: true; the input reads as it did. -/
def dischargeGrantUptoRow : OpenClaim := { program := "ytdmjpolnbmoehaagreatdoor", sum := "7b76b0bf5bb3affa8a789865758dfc69212848626f68763730dd1bc239d2921c", func := "macaroon/macaroonlaw15.DischargeGrant", spec := "dischargeGrant", unfollowed := true, recurses := true, named := ["macaroon/predicate.bits", "macaroon/sha.k"], apart := false, laid := [("macaroon/sha.k", laid_macaroon_sha_k), ("macaroon/predicate.bits", laid_macaroon_predicate_bits)], narrowed := true }
def DischargeGrantUptoSaid : Prop := dischargeGrantUptoRow.holds Tryz.pinned (OpenSpec.upto dischargeGrantSpec)

/-- 'macaroonlaw16.BundlePresent', WHERE WHAT IT READS IS OF BULK AT MOST 1048576: true; the input reads as it did. -/
def bundlePresentUptoRow : OpenClaim := { program := "ytdmjpolnbmoehaagreatdoor", sum := "7b76b0bf5bb3affa8a789865758dfc69212848626f68763730dd1bc239d2921c", func := "macaroon/macaroonlaw16.BundlePresent", spec := "bundlePresent", unfollowed := true, recurses := true, named := ["macaroon/predicate.bits", "macaroon/sha.k"], apart := false, laid := [("macaroon/sha.k", laid_macaroon_sha_k), ("macaroon/predicate.bits", laid_macaroon_predicate_bits)], narrowed := true }
def BundlePresentUptoSaid : Prop := bundlePresentUptoRow.holds Tryz.pinned (OpenSpec.upto bundlePresentSpec)

/-- 'macaroonlaw15.DischargeFound', WHERE WHAT IT READS IS OF BULK AT MOST 1048576: true; the input reads as it did. -/
def dischargeFoundUptoRow : OpenClaim := { program := "ytdmjpolnbmoehaagreatdoor", sum := "7b76b0bf5bb3affa8a789865758dfc69212848626f68763730dd1bc239d2921c", func := "macaroon/macaroonlaw15.DischargeFound", spec := "dischargeFound", unfollowed := true, recurses := true, named := ["macaroon/predicate.bits", "macaroon/sha.k"], apart := false, laid := [("macaroon/sha.k", laid_macaroon_sha_k), ("macaroon/predicate.bits", laid_macaroon_predicate_bits)], narrowed := true }
def DischargeFoundUptoSaid : Prop := dischargeFoundUptoRow.holds Tryz.pinned (OpenSpec.upto dischargeFoundSpec)

/-- 'macaroonlaw14.TicketAdd', WHERE WHAT IT READS IS OF BULK AT MOST 1048576: true; the input reads as it did. -/
def ticketAddUptoRow : OpenClaim := { program := "ytdmjpolnbmoehaagreatdoor", sum := "7b76b0bf5bb3affa8a789865758dfc69212848626f68763730dd1bc239d2921c", func := "macaroon/macaroonlaw14.TicketAdd", spec := "ticketAdd", unfollowed := true, recurses := true, named := ["macaroon/sha.k", "macaroon/predicate.bits"], apart := false, laid := [("macaroon/sha.k", laid_macaroon_sha_k), ("macaroon/predicate.bits", laid_macaroon_predicate_bits)], narrowed := true }
def TicketAddUptoSaid : Prop := ticketAddUptoRow.holds Tryz.pinned (OpenSpec.upto ticketAddSpec)

/-- 'macaroonlaw14.TicketGate', WHERE WHAT IT READS IS OF BULK AT MOST 1048576: true; the input reads as it did. -/
def ticketGateUptoRow : OpenClaim := { program := "ytdmjpolnbmoehaagreatdoor", sum := "7b76b0bf5bb3affa8a789865758dfc69212848626f68763730dd1bc239d2921c", func := "macaroon/macaroonlaw14.TicketGate", spec := "ticketGate", unfollowed := true, recurses := true, named := ["macaroon/sha.k", "macaroon/predicate.bits"], apart := false, laid := [("macaroon/sha.k", laid_macaroon_sha_k), ("macaroon/predicate.bits", laid_macaroon_predicate_bits)], narrowed := true }
def TicketGateUptoSaid : Prop := ticketGateUptoRow.holds Tryz.pinned (OpenSpec.upto ticketGateSpec)

end Rows
end Go.Proofs.YtdmjpolnbmoehaaGreatDoor
