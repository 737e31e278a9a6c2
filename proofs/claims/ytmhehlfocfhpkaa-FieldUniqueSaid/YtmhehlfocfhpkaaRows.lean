/-
  No cell of these rows narrows 'for every input' (looked for: loops, veiled, ifaces, maps, wideKeys, modest, calm, conditions, laid).
  DERIVED. THE GIVEN ROWS OF THIS SEAT. 10 by the template 'for every input the law returns true; each argument reads behind the call as it read before'; 0 by the template 'total and deterministic' (their statements: YtmhehlfocfhpkaaTotals.lean).
  GIVEN WITH THE SEED: the statements are not yours to turn. If you find one false, say at which input.
  Laid BY PROGRAM, IN A SANDBOX (cutbox-rows.mjs): the forced cells as the released guide's own fill.sh prints them over the translation 559f7f09f38f0c9a… (all of the seat's roots in one cut). By AI agents, Wed Nov 11 2026. No macro, syntax, notation, axiom, sorry.
-/
import Derived.Test.YtmhehlfocfhpkaaChecked
import GoSem.Claim
import GoSem.ClaimJoined
import GoSem.ClaimMapViews
import Derived.JoinedTies
import Derived.KernelRfl
namespace Go.Proofs.Ytmhehlfocfhpkaa
/- THE CELL 'sum', in the pinned program and in every row, IS THE sha256 OF THE DUMP (.gsa) THAT YtmhehlfocfhpkaaProg.lean LOADS. Nothing in Lean hashes anything: it is a label: what it is worth is what the hold of that sum in a sandbox is worth. -/
noncomputable def Try.pinned : Pinned := { name := "ytmhehlfocfhpkaa", sum := "559f7f09f38f0c9a06d2793dbcb1ba6d7a2ca8e444a7106419169ffb424208d4", checked := Try.checked }
namespace Rows
def none {H : Type} : Left H := { results := [], args := [] }

/-- 'macaroonlaw04.FieldAppend': WHATEVER THE INPUT: true; the input reads as it did. -/
def fieldAppendSpec : ChangeSpec := { name := "fieldAppend", fn := fun _ => fun
  | [d1, d2, d3] => { results := [.lit (.bool true)], args := [d1, d2, d3] }
  | _ => none }
def fieldAppendRow : OpenClaim := { program := "ytmhehlfocfhpkaa", sum := "559f7f09f38f0c9a06d2793dbcb1ba6d7a2ca8e444a7106419169ffb424208d4", func := "macaroon/macaroonlaw04.FieldAppend", spec := "fieldAppend", apart := false }
def FieldAppendSaid : Prop := fieldAppendRow.holds Try.pinned (OpenSpec.ofChange fieldAppendSpec)

/-- ITS FALSE NEIGHBOUR: 'it returns false'. Refute it at one input. -/
def fieldAppendWrong : ChangeSpec := { name := "fieldAppend", fn := fun _ => fun
  | [d1, d2, d3] => { results := [.lit (.bool false)], args := [d1, d2, d3] }
  | _ => none }
def FieldAppendWrongFalsely : Prop := fieldAppendRow.holds Try.pinned (OpenSpec.ofChange fieldAppendWrong)

/-- 'macaroonlaw03.VarintAppend': WHATEVER THE INPUT: true; the input reads as it did. -/
def varintAppendSpec : ChangeSpec := { name := "varintAppend", fn := fun _ => fun
  | [d1, d2, d3] => { results := [.lit (.bool true)], args := [d1, d2, d3] }
  | _ => none }
def varintAppendRow : OpenClaim := { program := "ytmhehlfocfhpkaa", sum := "559f7f09f38f0c9a06d2793dbcb1ba6d7a2ca8e444a7106419169ffb424208d4", func := "macaroon/macaroonlaw03.VarintAppend", spec := "varintAppend", apart := false }
def VarintAppendSaid : Prop := varintAppendRow.holds Try.pinned (OpenSpec.ofChange varintAppendSpec)

/-- ITS FALSE NEIGHBOUR: 'it returns false'. Refute it at one input. -/
def varintAppendWrong : ChangeSpec := { name := "varintAppend", fn := fun _ => fun
  | [d1, d2, d3] => { results := [.lit (.bool false)], args := [d1, d2, d3] }
  | _ => none }
def VarintAppendWrongFalsely : Prop := varintAppendRow.holds Try.pinned (OpenSpec.ofChange varintAppendWrong)

/-- 'macaroonlaw03.VarintRead': WHATEVER THE INPUT: true; the input reads as it did. -/
def varintReadSpec : ChangeSpec := { name := "varintRead", fn := fun _ => fun
  | [d1, d2, d3, d4] => { results := [.lit (.bool true)], args := [d1, d2, d3, d4] }
  | _ => none }
def varintReadRow : OpenClaim := { program := "ytmhehlfocfhpkaa", sum := "559f7f09f38f0c9a06d2793dbcb1ba6d7a2ca8e444a7106419169ffb424208d4", func := "macaroon/macaroonlaw03.VarintRead", spec := "varintRead", apart := false }
def VarintReadSaid : Prop := varintReadRow.holds Try.pinned (OpenSpec.ofChange varintReadSpec)

/-- ITS FALSE NEIGHBOUR: 'it returns false'. Refute it at one input. -/
def varintReadWrong : ChangeSpec := { name := "varintRead", fn := fun _ => fun
  | [d1, d2, d3, d4] => { results := [.lit (.bool false)], args := [d1, d2, d3, d4] }
  | _ => none }
def VarintReadWrongFalsely : Prop := varintReadRow.holds Try.pinned (OpenSpec.ofChange varintReadWrong)

/-- 'macaroonlaw03.VarintBack': WHATEVER THE INPUT: true; the input reads as it did. -/
def varintBackSpec : ChangeSpec := { name := "varintBack", fn := fun _ => fun
  | [d1, d2] => { results := [.lit (.bool true)], args := [d1, d2] }
  | _ => none }
def varintBackRow : OpenClaim := { program := "ytmhehlfocfhpkaa", sum := "559f7f09f38f0c9a06d2793dbcb1ba6d7a2ca8e444a7106419169ffb424208d4", func := "macaroon/macaroonlaw03.VarintBack", spec := "varintBack", apart := false }
def VarintBackSaid : Prop := varintBackRow.holds Try.pinned (OpenSpec.ofChange varintBackSpec)

/-- ITS FALSE NEIGHBOUR: 'it returns false'. Refute it at one input. -/
def varintBackWrong : ChangeSpec := { name := "varintBack", fn := fun _ => fun
  | [d1, d2] => { results := [.lit (.bool false)], args := [d1, d2] }
  | _ => none }
def VarintBackWrongFalsely : Prop := varintBackRow.holds Try.pinned (OpenSpec.ofChange varintBackWrong)

/-- 'macaroonlaw03.VarintUnique': WHATEVER THE INPUT: true; the input reads as it did. -/
def varintUniqueSpec : ChangeSpec := { name := "varintUnique", fn := fun _ => fun
  | [d] => { results := [.lit (.bool true)], args := [d] }
  | _ => none }
def varintUniqueRow : OpenClaim := { program := "ytmhehlfocfhpkaa", sum := "559f7f09f38f0c9a06d2793dbcb1ba6d7a2ca8e444a7106419169ffb424208d4", func := "macaroon/macaroonlaw03.VarintUnique", spec := "varintUnique", apart := false }
def VarintUniqueSaid : Prop := varintUniqueRow.holds Try.pinned (OpenSpec.ofChange varintUniqueSpec)

/-- ITS FALSE NEIGHBOUR: 'it returns false'. Refute it at one input. -/
def varintUniqueWrong : ChangeSpec := { name := "varintUnique", fn := fun _ => fun
  | [d] => { results := [.lit (.bool false)], args := [d] }
  | _ => none }
def VarintUniqueWrongFalsely : Prop := varintUniqueRow.holds Try.pinned (OpenSpec.ofChange varintUniqueWrong)

/-- 'macaroonlaw03.VarintOrder': WHATEVER THE INPUT: true; the input reads as it did. -/
def varintOrderSpec : ChangeSpec := { name := "varintOrder", fn := fun _ => fun
  | [d1, d2] => { results := [.lit (.bool true)], args := [d1, d2] }
  | _ => none }
def varintOrderRow : OpenClaim := { program := "ytmhehlfocfhpkaa", sum := "559f7f09f38f0c9a06d2793dbcb1ba6d7a2ca8e444a7106419169ffb424208d4", func := "macaroon/macaroonlaw03.VarintOrder", spec := "varintOrder", apart := false }
def VarintOrderSaid : Prop := varintOrderRow.holds Try.pinned (OpenSpec.ofChange varintOrderSpec)

/-- ITS FALSE NEIGHBOUR: 'it returns false'. Refute it at one input. -/
def varintOrderWrong : ChangeSpec := { name := "varintOrder", fn := fun _ => fun
  | [d1, d2] => { results := [.lit (.bool false)], args := [d1, d2] }
  | _ => none }
def VarintOrderWrongFalsely : Prop := varintOrderRow.holds Try.pinned (OpenSpec.ofChange varintOrderWrong)

/-- 'macaroonlaw04.FieldRead': WHATEVER THE INPUT: true; the input reads as it did. -/
def fieldReadSpec : ChangeSpec := { name := "fieldRead", fn := fun _ => fun
  | [d1, d2, d3, d4, d5] => { results := [.lit (.bool true)], args := [d1, d2, d3, d4, d5] }
  | _ => none }
def fieldReadRow : OpenClaim := { program := "ytmhehlfocfhpkaa", sum := "559f7f09f38f0c9a06d2793dbcb1ba6d7a2ca8e444a7106419169ffb424208d4", func := "macaroon/macaroonlaw04.FieldRead", spec := "fieldRead", apart := false }
def FieldReadSaid : Prop := fieldReadRow.holds Try.pinned (OpenSpec.ofChange fieldReadSpec)

/-- ITS FALSE NEIGHBOUR: 'it returns false'. Refute it at one input. -/
def fieldReadWrong : ChangeSpec := { name := "fieldRead", fn := fun _ => fun
  | [d1, d2, d3, d4, d5] => { results := [.lit (.bool false)], args := [d1, d2, d3, d4, d5] }
  | _ => none }
def FieldReadWrongFalsely : Prop := fieldReadRow.holds Try.pinned (OpenSpec.ofChange fieldReadWrong)

/-- 'macaroonlaw04.FieldLists': WHATEVER THE INPUT: true; the input reads as it did. -/
def fieldListsSpec : ChangeSpec := { name := "fieldLists", fn := fun _ => fun
  | [d1, d2, d3] => { results := [.lit (.bool true)], args := [d1, d2, d3] }
  | _ => none }
def fieldListsRow : OpenClaim := { program := "ytmhehlfocfhpkaa", sum := "559f7f09f38f0c9a06d2793dbcb1ba6d7a2ca8e444a7106419169ffb424208d4", func := "macaroon/macaroonlaw04.FieldLists", spec := "fieldLists", unfollowed := true, recurses := true, apart := false }
def FieldListsSaid : Prop := fieldListsRow.holds Try.pinned (OpenSpec.ofChange fieldListsSpec)

/-- ITS FALSE NEIGHBOUR: 'it returns false'. Refute it at one input. -/
def fieldListsWrong : ChangeSpec := { name := "fieldLists", fn := fun _ => fun
  | [d1, d2, d3] => { results := [.lit (.bool false)], args := [d1, d2, d3] }
  | _ => none }
def FieldListsWrongFalsely : Prop := fieldListsRow.holds Try.pinned (OpenSpec.ofChange fieldListsWrong)

/-- 'macaroonlaw04.FieldBack': WHATEVER THE INPUT: true; the input reads as it did. -/
def fieldBackSpec : ChangeSpec := { name := "fieldBack", fn := fun _ => fun
  | [d] => { results := [.lit (.bool true)], args := [d] }
  | _ => none }
def fieldBackRow : OpenClaim := { program := "ytmhehlfocfhpkaa", sum := "559f7f09f38f0c9a06d2793dbcb1ba6d7a2ca8e444a7106419169ffb424208d4", func := "macaroon/macaroonlaw04.FieldBack", spec := "fieldBack", unfollowed := true, recurses := true, apart := false }
def FieldBackSaid : Prop := fieldBackRow.holds Try.pinned (OpenSpec.ofChange fieldBackSpec)

/-- ITS FALSE NEIGHBOUR: 'it returns false'. Refute it at one input. -/
def fieldBackWrong : ChangeSpec := { name := "fieldBack", fn := fun _ => fun
  | [d] => { results := [.lit (.bool false)], args := [d] }
  | _ => none }
def FieldBackWrongFalsely : Prop := fieldBackRow.holds Try.pinned (OpenSpec.ofChange fieldBackWrong)

/-- 'macaroonlaw04.FieldUnique': WHATEVER THE INPUT: true; the input reads as it did. -/
def fieldUniqueSpec : ChangeSpec := { name := "fieldUnique", fn := fun _ => fun
  | [d1, d2, d3, d4] => { results := [.lit (.bool true)], args := [d1, d2, d3, d4] }
  | _ => none }
def fieldUniqueRow : OpenClaim := { program := "ytmhehlfocfhpkaa", sum := "559f7f09f38f0c9a06d2793dbcb1ba6d7a2ca8e444a7106419169ffb424208d4", func := "macaroon/macaroonlaw04.FieldUnique", spec := "fieldUnique", unfollowed := true, recurses := true, apart := false }
def FieldUniqueSaid : Prop := fieldUniqueRow.holds Try.pinned (OpenSpec.ofChange fieldUniqueSpec)

/-- ITS FALSE NEIGHBOUR: 'it returns false'. Refute it at one input. -/
def fieldUniqueWrong : ChangeSpec := { name := "fieldUnique", fn := fun _ => fun
  | [d1, d2, d3, d4] => { results := [.lit (.bool false)], args := [d1, d2, d3, d4] }
  | _ => none }
def FieldUniqueWrongFalsely : Prop := fieldUniqueRow.holds Try.pinned (OpenSpec.ofChange fieldUniqueWrong)

/- THE SECOND FORM. 'bulk': how many values and letters a reading holds, each counted each time it is reached (what is shared counts as often as it is met; a slice's spare places count too). A statement '..UptoSaid' is the law's where the arguments, and the package variables that the reading takes, are together of bulk at most 1048576: NARROWER than '..Said'. Prove '..Said' where nothing that the law and all that it calls make is longer than what came in: it says more and counts as full. Else prove '..UptoSaid'. A law counts once. -/
mutual
def uptoBulk {H : Type} : DataW H → Nat
  | .lit (.string bytes) => bytes.length + 1
  | .lit _ => 1
  | .nil => 1
  | .ptr d => uptoBulk d + 1
  | .slice elems spare => uptoBulkAll elems + uptoBulkAll spare + 1
  | .agg parts => uptoBulkAll parts + 1
  | .iface _ d => uptoBulk d + 1
  | .map entries => uptoBulkEntries entries + 1
  | .held _ => 1
def uptoBulkAll {H : Type} : List (DataW H) → Nat
  | [] => 0
  | d :: r => uptoBulk d + uptoBulkAll r
def uptoBulkEntries {H : Type} : List (Lit × DataW H) → Nat
  | [] => 0
  | x :: r => uptoBulkEntry x + uptoBulkEntries r
def uptoBulkEntry {H : Type} : Lit × DataW H → Nat
  | (.string bytes, d) => bytes.length + uptoBulk d + 1
  | (_, d) => uptoBulk d + 1
 end
def uptoSmall : (H : Type) → List (DataW H) → Bool := fun _ ds => decide (uptoBulkAll ds ≤ 1048576)
def OpenSpec.upto (s : _root_.Go.ChangeSpec) : _root_.Go.OpenSpec := { _root_.Go.OpenSpec.ofChange s with cond := some uptoSmall }

/-- 'macaroonlaw04.FieldAppend', WHERE WHAT IT READS IS OF BULK AT MOST 1048576: true; the input reads as it did. -/
def fieldAppendUptoRow : OpenClaim := { program := "ytmhehlfocfhpkaa", sum := "559f7f09f38f0c9a06d2793dbcb1ba6d7a2ca8e444a7106419169ffb424208d4", func := "macaroon/macaroonlaw04.FieldAppend", spec := "fieldAppend", apart := false, narrowed := true }
def FieldAppendUptoSaid : Prop := fieldAppendUptoRow.holds Try.pinned (OpenSpec.upto fieldAppendSpec)

/-- 'macaroonlaw03.VarintAppend', WHERE WHAT IT READS IS OF BULK AT MOST 1048576: true; the input reads as it did. -/
def varintAppendUptoRow : OpenClaim := { program := "ytmhehlfocfhpkaa", sum := "559f7f09f38f0c9a06d2793dbcb1ba6d7a2ca8e444a7106419169ffb424208d4", func := "macaroon/macaroonlaw03.VarintAppend", spec := "varintAppend", apart := false, narrowed := true }
def VarintAppendUptoSaid : Prop := varintAppendUptoRow.holds Try.pinned (OpenSpec.upto varintAppendSpec)

/-- 'macaroonlaw03.VarintRead', WHERE WHAT IT READS IS OF BULK AT MOST 1048576: true; the input reads as it did. -/
def varintReadUptoRow : OpenClaim := { program := "ytmhehlfocfhpkaa", sum := "559f7f09f38f0c9a06d2793dbcb1ba6d7a2ca8e444a7106419169ffb424208d4", func := "macaroon/macaroonlaw03.VarintRead", spec := "varintRead", apart := false, narrowed := true }
def VarintReadUptoSaid : Prop := varintReadUptoRow.holds Try.pinned (OpenSpec.upto varintReadSpec)

/-- 'macaroonlaw03.VarintBack', WHERE WHAT IT READS IS OF BULK AT MOST 1048576: true; the input reads as it did. -/
def varintBackUptoRow : OpenClaim := { program := "ytmhehlfocfhpkaa", sum := "559f7f09f38f0c9a06d2793dbcb1ba6d7a2ca8e444a7106419169ffb424208d4", func := "macaroon/macaroonlaw03.VarintBack", spec := "varintBack", apart := false, narrowed := true }
def VarintBackUptoSaid : Prop := varintBackUptoRow.holds Try.pinned (OpenSpec.upto varintBackSpec)

/-- 'macaroonlaw03.VarintUnique', WHERE WHAT IT READS IS OF BULK AT MOST 1048576: true; the input reads as it did. -/
def varintUniqueUptoRow : OpenClaim := { program := "ytmhehlfocfhpkaa", sum := "559f7f09f38f0c9a06d2793dbcb1ba6d7a2ca8e444a7106419169ffb424208d4", func := "macaroon/macaroonlaw03.VarintUnique", spec := "varintUnique", apart := false, narrowed := true }
def VarintUniqueUptoSaid : Prop := varintUniqueUptoRow.holds Try.pinned (OpenSpec.upto varintUniqueSpec)

/-- 'macaroonlaw03.VarintOrder', WHERE WHAT IT READS IS OF BULK AT MOST 1048576: true; the input reads as it did. -/
def varintOrderUptoRow : OpenClaim := { program := "ytmhehlfocfhpkaa", sum := "559f7f09f38f0c9a06d2793dbcb1ba6d7a2ca8e444a7106419169ffb424208d4", func := "macaroon/macaroonlaw03.VarintOrder", spec := "varintOrder", apart := false, narrowed := true }
def VarintOrderUptoSaid : Prop := varintOrderUptoRow.holds Try.pinned (OpenSpec.upto varintOrderSpec)

/-- 'macaroonlaw04.FieldRead', WHERE WHAT IT READS IS OF BULK AT MOST 1048576: true; the input reads as it did. -/
def fieldReadUptoRow : OpenClaim := { program := "ytmhehlfocfhpkaa", sum := "559f7f09f38f0c9a06d2793dbcb1ba6d7a2ca8e444a7106419169ffb424208d4", func := "macaroon/macaroonlaw04.FieldRead", spec := "fieldRead", apart := false, narrowed := true }
def FieldReadUptoSaid : Prop := fieldReadUptoRow.holds Try.pinned (OpenSpec.upto fieldReadSpec)

/-- 'macaroonlaw04.FieldLists', WHERE WHAT IT READS IS OF BULK AT MOST 1048576: true; the input reads as it did. -/
def fieldListsUptoRow : OpenClaim := { program := "ytmhehlfocfhpkaa", sum := "559f7f09f38f0c9a06d2793dbcb1ba6d7a2ca8e444a7106419169ffb424208d4", func := "macaroon/macaroonlaw04.FieldLists", spec := "fieldLists", unfollowed := true, recurses := true, apart := false, narrowed := true }
def FieldListsUptoSaid : Prop := fieldListsUptoRow.holds Try.pinned (OpenSpec.upto fieldListsSpec)

/-- 'macaroonlaw04.FieldBack', WHERE WHAT IT READS IS OF BULK AT MOST 1048576: true; the input reads as it did. -/
def fieldBackUptoRow : OpenClaim := { program := "ytmhehlfocfhpkaa", sum := "559f7f09f38f0c9a06d2793dbcb1ba6d7a2ca8e444a7106419169ffb424208d4", func := "macaroon/macaroonlaw04.FieldBack", spec := "fieldBack", unfollowed := true, recurses := true, apart := false, narrowed := true }
def FieldBackUptoSaid : Prop := fieldBackUptoRow.holds Try.pinned (OpenSpec.upto fieldBackSpec)

/-- 'macaroonlaw04.FieldUnique', WHERE WHAT IT READS IS OF BULK AT MOST 1048576: true; the input reads as it did. -/
def fieldUniqueUptoRow : OpenClaim := { program := "ytmhehlfocfhpkaa", sum := "559f7f09f38f0c9a06d2793dbcb1ba6d7a2ca8e444a7106419169ffb424208d4", func := "macaroon/macaroonlaw04.FieldUnique", spec := "fieldUnique", unfollowed := true, recurses := true, apart := false, narrowed := true }
def FieldUniqueUptoSaid : Prop := fieldUniqueUptoRow.holds Try.pinned (OpenSpec.upto fieldUniqueSpec)

end Rows
end Go.Proofs.Ytmhehlfocfhpkaa
