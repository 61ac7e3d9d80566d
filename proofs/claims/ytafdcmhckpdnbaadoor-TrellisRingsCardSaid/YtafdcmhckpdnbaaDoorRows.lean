/-
  NARROWER THAN 'FOR EVERY INPUT', by the rows' own cells (each row's printed sentence says how): TrellisExact: laid · TrellisOrders: laid · TrellisDirty: laid · TrellisRings: laid · TrellisErrors: laid · TrellisGrows: laid.
  DERIVED. THE GIVEN ROWS OF THIS SEAT. 6 by the template 'for every input the law returns true; each argument reads behind the call as it read before'; 0 by the template 'total and deterministic' (their statements: YtafdcmhckpdnbaaDoorTotals.lean).
  GIVEN WITH THE SEED: the statements are not yours to turn. If you find one false, say at which input.
  Laid BY PROGRAM, IN A SANDBOX (cutbox-rows.mjs): the forced cells as the released guide's own fill.sh prints them over the translation 8bac3e5c4f0824bc… (all of the seat's roots in one cut). By AI agents, Wed Nov 11 2026. No macro, syntax, notation, axiom, sorry.
-/
import Derived.Test.YtafdcmhckpdnbaaDoorChecked
import GoSem.PinnedTables
import GoSem.Claim
import GoSem.ClaimJoined
import GoSem.ClaimMapViews
import Derived.JoinedTies
import Derived.KernelRfl
namespace Go.Proofs.YtafdcmhckpdnbaaDoor
/- THE CELL 'sum', in the pinned program and in every row, IS THE sha256 OF THE DUMP (.gsa) THAT YtafdcmhckpdnbaaDoorProg.lean LOADS. Nothing in Lean hashes anything: it is a label: what it is worth is what the hold of that sum in a sandbox is worth. -/
noncomputable def Tryd.pinned : Pinned := { name := "ytafdcmhckpdnbaadoor", sum := "8bac3e5c4f0824bc3ef2e0f38e2bc8335f82439ab90dabfc180ebf2e69cf092c", checked := Tryd.checked }
namespace Rows
def none {H : Type} : Left H := { results := [], args := [] }

/- WHAT THE LISTED PACKAGE-LEVEL VARIABLES READ AS WHEN THE CALL BEGINS. Each datum BY PROGRAM (the guide's laid-datum.mjs) off the statement by which the dump's own 'gosem.cut.vars' lays the variable. In a bare row this is a premise. The card (YtafdcmhckpdnbaaDoorCards.lean) ties it to the program's text. -/
def laid_unicode_utf8_acceptRanges {H : Type} : DataW H := .agg [.agg [.lit (.int .u8 128), .lit (.int .u8 191)], .agg [.lit (.int .u8 160), .lit (.int .u8 191)], .agg [.lit (.int .u8 128), .lit (.int .u8 159)], .agg [.lit (.int .u8 144), .lit (.int .u8 191)], .agg [.lit (.int .u8 128), .lit (.int .u8 143)], .agg [.lit (.int .u8 0), .lit (.int .u8 0)], .agg [.lit (.int .u8 0), .lit (.int .u8 0)], .agg [.lit (.int .u8 0), .lit (.int .u8 0)], .agg [.lit (.int .u8 0), .lit (.int .u8 0)], .agg [.lit (.int .u8 0), .lit (.int .u8 0)], .agg [.lit (.int .u8 0), .lit (.int .u8 0)], .agg [.lit (.int .u8 0), .lit (.int .u8 0)], .agg [.lit (.int .u8 0), .lit (.int .u8 0)], .agg [.lit (.int .u8 0), .lit (.int .u8 0)], .agg [.lit (.int .u8 0), .lit (.int .u8 0)], .agg [.lit (.int .u8 0), .lit (.int .u8 0)]]
/-- One of Go's own tables, pinned by name: the form's constant. -/
def laid_unicode_utf8_first : DataW Unit := Go.Pinned.utf8First

/-- 'apiarylaw08.TrellisExact': WHATEVER THE INPUT: true; the input reads as it did. -/
def trellisExactSpec : ChangeSpec := { name := "trellisExact", fn := fun _ => fun
  | [d1, d2, d3] => { results := [.lit (.bool true)], args := [d1, d2, d3] }
  | _ => none }
def trellisExactRow : OpenClaim := { program := "ytafdcmhckpdnbaadoor", sum := "8bac3e5c4f0824bc3ef2e0f38e2bc8335f82439ab90dabfc180ebf2e69cf092c", func := "apiary/apiarylaw08.TrellisExact", spec := "trellisExact", inPlace := ["internal/bytealg.IndexByteString", "internal/bytealg.IndexString", "internal/abi.NoEscape", "internal/bytealg.MakeNoZero"], unfollowed := true, recurses := true, named := ["unicode/utf8.first", "unicode/utf8.acceptRanges", "internal/bytealg.MaxLen"], apart := false, laid := [("unicode/utf8.acceptRanges", laid_unicode_utf8_acceptRanges), ("unicode/utf8.first", laid_unicode_utf8_first)] }
def TrellisExactSaid : Prop := trellisExactRow.holds Tryd.pinned (OpenSpec.ofChange trellisExactSpec)

/-- ITS FALSE NEIGHBOUR: 'it returns false'. Refute it at one input. -/
def trellisExactWrong : ChangeSpec := { name := "trellisExact", fn := fun _ => fun
  | [d1, d2, d3] => { results := [.lit (.bool false)], args := [d1, d2, d3] }
  | _ => none }
def TrellisExactWrongFalsely : Prop := trellisExactRow.holds Tryd.pinned (OpenSpec.ofChange trellisExactWrong)

/-- 'apiarylaw08.TrellisOrders': WHATEVER THE INPUT: true; the input reads as it did. -/
def trellisOrdersSpec : ChangeSpec := { name := "trellisOrders", fn := fun _ => fun
  | [d] => { results := [.lit (.bool true)], args := [d] }
  | _ => none }
def trellisOrdersRow : OpenClaim := { program := "ytafdcmhckpdnbaadoor", sum := "8bac3e5c4f0824bc3ef2e0f38e2bc8335f82439ab90dabfc180ebf2e69cf092c", func := "apiary/apiarylaw08.TrellisOrders", spec := "trellisOrders", inPlace := ["internal/bytealg.IndexByteString", "internal/bytealg.IndexString", "internal/abi.NoEscape", "internal/bytealg.MakeNoZero"], unfollowed := true, recurses := true, named := ["unicode/utf8.first", "unicode/utf8.acceptRanges", "internal/bytealg.MaxLen"], apart := false, laid := [("unicode/utf8.acceptRanges", laid_unicode_utf8_acceptRanges), ("unicode/utf8.first", laid_unicode_utf8_first)] }
def TrellisOrdersSaid : Prop := trellisOrdersRow.holds Tryd.pinned (OpenSpec.ofChange trellisOrdersSpec)

/-- ITS FALSE NEIGHBOUR: 'it returns false'. Refute it at one input. -/
def trellisOrdersWrong : ChangeSpec := { name := "trellisOrders", fn := fun _ => fun
  | [d] => { results := [.lit (.bool false)], args := [d] }
  | _ => none }
def TrellisOrdersWrongFalsely : Prop := trellisOrdersRow.holds Tryd.pinned (OpenSpec.ofChange trellisOrdersWrong)

/-- 'apiarylaw08.TrellisDirty': WHATEVER THE INPUT: true; the input reads as it did. -/
def trellisDirtySpec : ChangeSpec := { name := "trellisDirty", fn := fun _ => fun
  | [d1, d2] => { results := [.lit (.bool true)], args := [d1, d2] }
  | _ => none }
def trellisDirtyRow : OpenClaim := { program := "ytafdcmhckpdnbaadoor", sum := "8bac3e5c4f0824bc3ef2e0f38e2bc8335f82439ab90dabfc180ebf2e69cf092c", func := "apiary/apiarylaw08.TrellisDirty", spec := "trellisDirty", inPlace := ["internal/bytealg.IndexByteString", "internal/bytealg.IndexString", "internal/abi.NoEscape", "internal/bytealg.MakeNoZero"], unfollowed := true, recurses := true, named := ["unicode/utf8.first", "unicode/utf8.acceptRanges", "internal/bytealg.MaxLen"], apart := false, laid := [("unicode/utf8.acceptRanges", laid_unicode_utf8_acceptRanges), ("unicode/utf8.first", laid_unicode_utf8_first)] }
def TrellisDirtySaid : Prop := trellisDirtyRow.holds Tryd.pinned (OpenSpec.ofChange trellisDirtySpec)

/-- ITS FALSE NEIGHBOUR: 'it returns false'. Refute it at one input. -/
def trellisDirtyWrong : ChangeSpec := { name := "trellisDirty", fn := fun _ => fun
  | [d1, d2] => { results := [.lit (.bool false)], args := [d1, d2] }
  | _ => none }
def TrellisDirtyWrongFalsely : Prop := trellisDirtyRow.holds Tryd.pinned (OpenSpec.ofChange trellisDirtyWrong)

/-- 'apiarylaw08.TrellisRings': WHATEVER THE INPUT: true; the input reads as it did. -/
def trellisRingsSpec : ChangeSpec := { name := "trellisRings", fn := fun _ => fun
  | [d1, d2] => { results := [.lit (.bool true)], args := [d1, d2] }
  | _ => none }
def trellisRingsRow : OpenClaim := { program := "ytafdcmhckpdnbaadoor", sum := "8bac3e5c4f0824bc3ef2e0f38e2bc8335f82439ab90dabfc180ebf2e69cf092c", func := "apiary/apiarylaw08.TrellisRings", spec := "trellisRings", inPlace := ["internal/bytealg.IndexByteString", "internal/bytealg.IndexString", "internal/abi.NoEscape", "internal/bytealg.MakeNoZero"], unfollowed := true, recurses := true, named := ["unicode/utf8.first", "unicode/utf8.acceptRanges", "internal/bytealg.MaxLen"], apart := false, laid := [("unicode/utf8.acceptRanges", laid_unicode_utf8_acceptRanges), ("unicode/utf8.first", laid_unicode_utf8_first)] }
def TrellisRingsSaid : Prop := trellisRingsRow.holds Tryd.pinned (OpenSpec.ofChange trellisRingsSpec)

/-- ITS FALSE NEIGHBOUR: 'it returns false'. Refute it at one input. -/
def trellisRingsWrong : ChangeSpec := { name := "trellisRings", fn := fun _ => fun
  | [d1, d2] => { results := [.lit (.bool false)], args := [d1, d2] }
  | _ => none }
def TrellisRingsWrongFalsely : Prop := trellisRingsRow.holds Tryd.pinned (OpenSpec.ofChange trellisRingsWrong)

/-- 'apiarylaw08.TrellisErrors': WHATEVER THE INPUT: true; the input reads as it did. -/
def trellisErrorsSpec : ChangeSpec := { name := "trellisErrors", fn := fun _ => fun
  | [d1, d2] => { results := [.lit (.bool true)], args := [d1, d2] }
  | _ => none }
def trellisErrorsRow : OpenClaim := { program := "ytafdcmhckpdnbaadoor", sum := "8bac3e5c4f0824bc3ef2e0f38e2bc8335f82439ab90dabfc180ebf2e69cf092c", func := "apiary/apiarylaw08.TrellisErrors", spec := "trellisErrors", inPlace := ["internal/bytealg.IndexByteString", "internal/bytealg.IndexString", "internal/abi.NoEscape", "internal/bytealg.MakeNoZero"], unfollowed := true, recurses := true, named := ["unicode/utf8.first", "unicode/utf8.acceptRanges", "internal/bytealg.MaxLen"], apart := false, laid := [("unicode/utf8.acceptRanges", laid_unicode_utf8_acceptRanges), ("unicode/utf8.first", laid_unicode_utf8_first)] }
def TrellisErrorsSaid : Prop := trellisErrorsRow.holds Tryd.pinned (OpenSpec.ofChange trellisErrorsSpec)

/-- ITS FALSE NEIGHBOUR: 'it returns false'. Refute it at one input. -/
def trellisErrorsWrong : ChangeSpec := { name := "trellisErrors", fn := fun _ => fun
  | [d1, d2] => { results := [.lit (.bool false)], args := [d1, d2] }
  | _ => none }
def TrellisErrorsWrongFalsely : Prop := trellisErrorsRow.holds Tryd.pinned (OpenSpec.ofChange trellisErrorsWrong)

/-- 'apiarylaw08.TrellisGrows': WHATEVER THE INPUT: true; the input reads as it did. -/
def trellisGrowsSpec : ChangeSpec := { name := "trellisGrows", fn := fun _ => fun
  | [d1, d2, d3] => { results := [.lit (.bool true)], args := [d1, d2, d3] }
  | _ => none }
def trellisGrowsRow : OpenClaim := { program := "ytafdcmhckpdnbaadoor", sum := "8bac3e5c4f0824bc3ef2e0f38e2bc8335f82439ab90dabfc180ebf2e69cf092c", func := "apiary/apiarylaw08.TrellisGrows", spec := "trellisGrows", inPlace := ["internal/bytealg.IndexByteString", "internal/bytealg.IndexString", "internal/abi.NoEscape", "internal/bytealg.MakeNoZero"], unfollowed := true, recurses := true, named := ["unicode/utf8.first", "unicode/utf8.acceptRanges", "internal/bytealg.MaxLen"], apart := false, laid := [("unicode/utf8.acceptRanges", laid_unicode_utf8_acceptRanges), ("unicode/utf8.first", laid_unicode_utf8_first)] }
def TrellisGrowsSaid : Prop := trellisGrowsRow.holds Tryd.pinned (OpenSpec.ofChange trellisGrowsSpec)

/-- ITS FALSE NEIGHBOUR: 'it returns false'. Refute it at one input. -/
def trellisGrowsWrong : ChangeSpec := { name := "trellisGrows", fn := fun _ => fun
  | [d1, d2, d3] => { results := [.lit (.bool false)], args := [d1, d2, d3] }
  | _ => none }
def TrellisGrowsWrongFalsely : Prop := trellisGrowsRow.holds Tryd.pinned (OpenSpec.ofChange trellisGrowsWrong)

/- THE SECOND FORM. 'bulk': how many values and letters a reading holds, each counted each time it is reached (what is shared counts as often as it is met; a slice's spare places count too). A statement '..UptoSaid' is the law's where the arguments, and the package variables that the reading takes, are together of bulk at most 1048576: NARROWER than '..Said'. Prove '..Said' where nothing that the law and all that it calls make is longer than what came in: it says more and counts as full. Else prove '..UptoSaid'. A law counts once. -/
mutual
def uptoBulk {H : Type} : DataW H → Nat
  | .lit (.string bytes) => bytes.length + 1
  | .lit _ => 1
  | .nil => 1
  | .ptr d => uptoBulk d + 1
  | .slice elems spare => uptoBulkAll elems + uptoBulkAll spare + 1
  | .agg parts => uptoBulkAll parts + 1
  | .iface _ d => uptoBulk d + 1
  | .map entries => uptoBulkEntries entries + 1
  | .held _ => 1
def uptoBulkAll {H : Type} : List (DataW H) → Nat
  | [] => 0
  | d :: r => uptoBulk d + uptoBulkAll r
def uptoBulkEntries {H : Type} : List (Lit × DataW H) → Nat
  | [] => 0
  | x :: r => uptoBulkEntry x + uptoBulkEntries r
def uptoBulkEntry {H : Type} : Lit × DataW H → Nat
  | (.string bytes, d) => bytes.length + uptoBulk d + 1
  | (_, d) => uptoBulk d + 1
 end
def uptoSmall : (H : Type) → List (DataW H) → Bool := fun _ ds => decide (uptoBulkAll ds ≤ 1048576)
def OpenSpec.upto (s : _root_.Go.ChangeSpec) : _root_.Go.OpenSpec := { _root_.Go.OpenSpec.ofChange s with cond := some uptoSmall }

/-- 'apiarylaw08.TrellisExact', WHERE WHAT IT READS IS OF BULK AT MOST 1048576: true; the input reads as it did. -/
def trellisExactUptoRow : OpenClaim := { program := "ytafdcmhckpdnbaadoor", sum := "8bac3e5c4f0824bc3ef2e0f38e2bc8335f82439ab90dabfc180ebf2e69cf092c", func := "apiary/apiarylaw08.TrellisExact", spec := "trellisExact", inPlace := ["internal/bytealg.IndexByteString", "internal/bytealg.IndexString", "internal/abi.NoEscape", "internal/bytealg.MakeNoZero"], unfollowed := true, recurses := true, named := ["unicode/utf8.first", "unicode/utf8.acceptRanges", "internal/bytealg.MaxLen"], apart := false, laid := [("unicode/utf8.acceptRanges", laid_unicode_utf8_acceptRanges), ("unicode/utf8.first", laid_unicode_utf8_first)], narrowed := true }
def TrellisExactUptoSaid : Prop := trellisExactUptoRow.holds Tryd.pinned (OpenSpec.upto trellisExactSpec)

/-- 'apiarylaw08.TrellisOrders', WHERE WHAT IT READS IS OF BULK AT MOST 1048576: true; the input reads as it did. -/
def trellisOrdersUptoRow : OpenClaim := { program := "ytafdcmhckpdnbaadoor", sum := "8bac3e5c4f0824bc3ef2e0f38e2bc8335f82439ab90dabfc180ebf2e69cf092c", func := "apiary/apiarylaw08.TrellisOrders", spec := "trellisOrders", inPlace := ["internal/bytealg.IndexByteString", "internal/bytealg.IndexString", "internal/abi.NoEscape", "internal/bytealg.MakeNoZero"], unfollowed := true, recurses := true, named := ["unicode/utf8.first", "unicode/utf8.acceptRanges", "internal/bytealg.MaxLen"], apart := false, laid := [("unicode/utf8.acceptRanges", laid_unicode_utf8_acceptRanges), ("unicode/utf8.first", laid_unicode_utf8_first)], narrowed := true }
def TrellisOrdersUptoSaid : Prop := trellisOrdersUptoRow.holds Tryd.pinned (OpenSpec.upto trellisOrdersSpec)

/-- 'apiarylaw08.TrellisDirty', WHERE WHAT IT READS IS OF BULK AT MOST 1048576: true; the input reads as it did. -/
def trellisDirtyUptoRow : OpenClaim := { program := "ytafdcmhckpdnbaadoor", sum := "8bac3e5c4f0824bc3ef2e0f38e2bc8335f82439ab90dabfc180ebf2e69cf092c", func := "apiary/apiarylaw08.TrellisDirty", spec := "trellisDirty", inPlace := ["internal/bytealg.IndexByteString", "internal/bytealg.IndexString", "internal/abi.NoEscape", "internal/bytealg.MakeNoZero"], unfollowed := true, recurses := true, named := ["unicode/utf8.first", "unicode/utf8.acceptRanges", "internal/bytealg.MaxLen"], apart := false, laid := [("unicode/utf8.acceptRanges", laid_unicode_utf8_acceptRanges), ("unicode/utf8.first", laid_unicode_utf8_first)], narrowed := true }
def TrellisDirtyUptoSaid : Prop := trellisDirtyUptoRow.holds Tryd.pinned (OpenSpec.upto trellisDirtySpec)

/-- 'apiarylaw08.TrellisRings', WHERE WHAT IT READS IS OF BULK AT MOST 1048576: true; the input reads as it did. -/
def trellisRingsUptoRow : OpenClaim := { program := "ytafdcmhckpdnbaadoor", sum := "8bac3e5c4f0824bc3ef2e0f38e2bc8335f82439ab90dabfc180ebf2e69cf092c", func := "apiary/apiarylaw08.TrellisRings", spec := "trellisRings", inPlace := ["internal/bytealg.IndexByteString", "internal/bytealg.IndexString", "internal/abi.NoEscape", "internal/bytealg.MakeNoZero"], unfollowed := true, recurses := true, named := ["unicode/utf8.first", "unicode/utf8.acceptRanges", "internal/bytealg.MaxLen"], apart := false, laid := [("unicode/utf8.acceptRanges", laid_unicode_utf8_acceptRanges), ("unicode/utf8.first", laid_unicode_utf8_first)], narrowed := true }
def TrellisRingsUptoSaid : Prop := trellisRingsUptoRow.holds Tryd.pinned (OpenSpec.upto trellisRingsSpec)

/-- 'apiarylaw08.TrellisErrors', WHERE WHAT IT READS IS OF BULK AT MOST 1048576: true; the input reads as it did. -/
def trellisErrorsUptoRow : OpenClaim := { program := "ytafdcmhckpdnbaadoor", sum := "8bac3e5c4f0824bc3ef2e0f38e2bc8335f82439ab90dabfc180ebf2e69cf092c", func := "apiary/apiarylaw08.TrellisErrors", spec := "trellisErrors", inPlace := ["internal/bytealg.IndexByteString", "internal/bytealg.IndexString", "internal/abi.NoEscape", "internal/bytealg.MakeNoZero"], unfollowed := true, recurses := true, named := ["unicode/utf8.first", "unicode/utf8.acceptRanges", "internal/bytealg.MaxLen"], apart := false, laid := [("unicode/utf8.acceptRanges", laid_unicode_utf8_acceptRanges), ("unicode/utf8.first", laid_unicode_utf8_first)], narrowed := true }
def TrellisErrorsUptoSaid : Prop := trellisErrorsUptoRow.holds Tryd.pinned (OpenSpec.upto trellisErrorsSpec)

/-- 'apiarylaw08.TrellisGrows', WHERE WHAT IT READS IS OF BULK AT MOST 1048576: true; the input reads as it did. -/
def trellisGrowsUptoRow : OpenClaim := { program := "ytafdcmhckpdnbaadoor", sum := "8bac3e5c4f0824bc3ef2e0f38e2bc8335f82439ab90dabfc180ebf2e69cf092c", func := "apiary/apiarylaw08.TrellisGrows", spec := "trellisGrows", inPlace := ["internal/bytealg.IndexByteString", "internal/bytealg.IndexString", "internal/abi.NoEscape", "internal/bytealg.MakeNoZero"], unfollowed := true, recurses := true, named := ["unicode/utf8.first", "unicode/utf8.acceptRanges", "internal/bytealg.MaxLen"], apart := false, laid := [("unicode/utf8.acceptRanges", laid_unicode_utf8_acceptRanges), ("unicode/utf8.first", laid_unicode_utf8_first)], narrowed := true }
def TrellisGrowsUptoSaid : Prop := trellisGrowsUptoRow.holds Tryd.pinned (OpenSpec.upto trellisGrowsSpec)

end Rows
end Go.Proofs.YtafdcmhckpdnbaaDoor
