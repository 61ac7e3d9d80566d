/-
  NARROWER THAN 'FOR EVERY INPUT', by the rows' own cells (each row's printed sentence says how): RecipeReads: laid · RecipeLines: laid · RecipeNames: laid · RecipeWrites: laid · RecipeBack: laid · RecipeParts: laid.
  DERIVED. THE GIVEN ROWS OF THIS SEAT. 6 by the template 'for every input the law returns true; each argument reads behind the call as it read before'; 0 by the template 'total and deterministic' (their statements: YtbaipdhgjalgoaaDoorTotals.lean).
  GIVEN WITH THE SEED: the statements are not yours to turn. If you find one false, say at which input.
  Laid BY PROGRAM, IN A SANDBOX (cutbox-rows.mjs): the forced cells as the released guide's own fill.sh prints them over the translation 5fe54faa9375e03a… (all of the seat's roots in one cut). By AI agents, Wed Nov 11 2026. No macro, syntax, notation, axiom, sorry.
-/
import Derived.Test.YtbaipdhgjalgoaaDoorChecked
import GoSem.PinnedTables
import GoSem.Claim
import GoSem.ClaimJoined
import GoSem.ClaimMapViews
import Derived.JoinedTies
import Derived.KernelRfl
namespace Go.Proofs.YtbaipdhgjalgoaaDoor
/- THE CELL 'sum', in the pinned program and in every row, IS THE sha256 OF THE DUMP (.gsa) THAT YtbaipdhgjalgoaaDoorProg.lean LOADS. Nothing in Lean hashes anything: it is a label: what it is worth is what the hold of that sum in a sandbox is worth. -/
noncomputable def Tryd.pinned : Pinned := { name := "ytbaipdhgjalgoaadoor", sum := "5fe54faa9375e03a2f462350ed9fd7b8283062f56bdb5b0250b186c05359046d", checked := Tryd.checked }
namespace Rows
def none {H : Type} : Left H := { results := [], args := [] }

/- WHAT THE LISTED PACKAGE-LEVEL VARIABLES READ AS WHEN THE CALL BEGINS. Each datum BY PROGRAM (the guide's laid-datum.mjs) off the statement by which the dump's own 'gosem.cut.vars' lays the variable. In a bare row this is a premise. The card (YtbaipdhgjalgoaaDoorCards.lean) ties it to the program's text. -/
def laid_unicode_utf8_acceptRanges {H : Type} : DataW H := .agg [.agg [.lit (.int .u8 128), .lit (.int .u8 191)], .agg [.lit (.int .u8 160), .lit (.int .u8 191)], .agg [.lit (.int .u8 128), .lit (.int .u8 159)], .agg [.lit (.int .u8 144), .lit (.int .u8 191)], .agg [.lit (.int .u8 128), .lit (.int .u8 143)], .agg [.lit (.int .u8 0), .lit (.int .u8 0)], .agg [.lit (.int .u8 0), .lit (.int .u8 0)], .agg [.lit (.int .u8 0), .lit (.int .u8 0)], .agg [.lit (.int .u8 0), .lit (.int .u8 0)], .agg [.lit (.int .u8 0), .lit (.int .u8 0)], .agg [.lit (.int .u8 0), .lit (.int .u8 0)], .agg [.lit (.int .u8 0), .lit (.int .u8 0)], .agg [.lit (.int .u8 0), .lit (.int .u8 0)], .agg [.lit (.int .u8 0), .lit (.int .u8 0)], .agg [.lit (.int .u8 0), .lit (.int .u8 0)], .agg [.lit (.int .u8 0), .lit (.int .u8 0)]]
/-- One of Go's own tables, pinned by name: the form's constant. -/
def laid_unicode_utf8_first : DataW Unit := Go.Pinned.utf8First

/-- 'apiarylaw07.RecipeReads': WHATEVER THE INPUT: true; the input reads as it did. -/
def recipeReadsSpec : ChangeSpec := { name := "recipeReads", fn := fun _ => fun
  | [d] => { results := [.lit (.bool true)], args := [d] }
  | _ => none }
def recipeReadsRow : OpenClaim := { program := "ytbaipdhgjalgoaadoor", sum := "5fe54faa9375e03a2f462350ed9fd7b8283062f56bdb5b0250b186c05359046d", func := "apiary/apiarylaw07.RecipeReads", spec := "recipeReads", inPlace := ["internal/bytealg.IndexByteString", "internal/bytealg.IndexString", "internal/bytealg.CountString", "internal/abi.NoEscape", "internal/bytealg.MakeNoZero"], unfollowed := true, recurses := true, named := ["internal/bytealg.MaxLen", "unicode/utf8.first", "unicode/utf8.acceptRanges"], apart := false, laid := [("unicode/utf8.acceptRanges", laid_unicode_utf8_acceptRanges), ("unicode/utf8.first", laid_unicode_utf8_first)] }
def RecipeReadsSaid : Prop := recipeReadsRow.holds Tryd.pinned (OpenSpec.ofChange recipeReadsSpec)

/-- ITS FALSE NEIGHBOUR: 'it returns false'. Refute it at one input. -/
def recipeReadsWrong : ChangeSpec := { name := "recipeReads", fn := fun _ => fun
  | [d] => { results := [.lit (.bool false)], args := [d] }
  | _ => none }
def RecipeReadsWrongFalsely : Prop := recipeReadsRow.holds Tryd.pinned (OpenSpec.ofChange recipeReadsWrong)

/-- 'apiarylaw07.RecipeLines': WHATEVER THE INPUT: true; the input reads as it did. -/
def recipeLinesSpec : ChangeSpec := { name := "recipeLines", fn := fun _ => fun
  | [d1, d2] => { results := [.lit (.bool true)], args := [d1, d2] }
  | _ => none }
def recipeLinesRow : OpenClaim := { program := "ytbaipdhgjalgoaadoor", sum := "5fe54faa9375e03a2f462350ed9fd7b8283062f56bdb5b0250b186c05359046d", func := "apiary/apiarylaw07.RecipeLines", spec := "recipeLines", inPlace := ["internal/bytealg.IndexByteString", "internal/bytealg.IndexString", "internal/bytealg.CountString", "internal/abi.NoEscape", "internal/bytealg.MakeNoZero"], unfollowed := true, recurses := true, named := ["internal/bytealg.MaxLen", "unicode/utf8.first", "unicode/utf8.acceptRanges"], apart := false, laid := [("unicode/utf8.acceptRanges", laid_unicode_utf8_acceptRanges), ("unicode/utf8.first", laid_unicode_utf8_first)] }
def RecipeLinesSaid : Prop := recipeLinesRow.holds Tryd.pinned (OpenSpec.ofChange recipeLinesSpec)

/-- ITS FALSE NEIGHBOUR: 'it returns false'. Refute it at one input. -/
def recipeLinesWrong : ChangeSpec := { name := "recipeLines", fn := fun _ => fun
  | [d1, d2] => { results := [.lit (.bool false)], args := [d1, d2] }
  | _ => none }
def RecipeLinesWrongFalsely : Prop := recipeLinesRow.holds Tryd.pinned (OpenSpec.ofChange recipeLinesWrong)

/-- 'apiarylaw07.RecipeNames': WHATEVER THE INPUT: true; the input reads as it did. -/
def recipeNamesSpec : ChangeSpec := { name := "recipeNames", fn := fun _ => fun
  | [d1, d2, d3] => { results := [.lit (.bool true)], args := [d1, d2, d3] }
  | _ => none }
def recipeNamesRow : OpenClaim := { program := "ytbaipdhgjalgoaadoor", sum := "5fe54faa9375e03a2f462350ed9fd7b8283062f56bdb5b0250b186c05359046d", func := "apiary/apiarylaw07.RecipeNames", spec := "recipeNames", inPlace := ["internal/bytealg.IndexByteString", "internal/bytealg.IndexString", "internal/bytealg.CountString", "internal/abi.NoEscape", "internal/bytealg.MakeNoZero"], unfollowed := true, recurses := true, named := ["internal/bytealg.MaxLen", "unicode/utf8.first", "unicode/utf8.acceptRanges"], apart := false, laid := [("unicode/utf8.acceptRanges", laid_unicode_utf8_acceptRanges), ("unicode/utf8.first", laid_unicode_utf8_first)] }
def RecipeNamesSaid : Prop := recipeNamesRow.holds Tryd.pinned (OpenSpec.ofChange recipeNamesSpec)

/-- ITS FALSE NEIGHBOUR: 'it returns false'. Refute it at one input. -/
def recipeNamesWrong : ChangeSpec := { name := "recipeNames", fn := fun _ => fun
  | [d1, d2, d3] => { results := [.lit (.bool false)], args := [d1, d2, d3] }
  | _ => none }
def RecipeNamesWrongFalsely : Prop := recipeNamesRow.holds Tryd.pinned (OpenSpec.ofChange recipeNamesWrong)

/-- 'apiarylaw07.RecipeWrites': WHATEVER THE INPUT: true; the input reads as it did. -/
def recipeWritesSpec : ChangeSpec := { name := "recipeWrites", fn := fun _ => fun
  | [d1, d2, d3] => { results := [.lit (.bool true)], args := [d1, d2, d3] }
  | _ => none }
def recipeWritesRow : OpenClaim := { program := "ytbaipdhgjalgoaadoor", sum := "5fe54faa9375e03a2f462350ed9fd7b8283062f56bdb5b0250b186c05359046d", func := "apiary/apiarylaw07.RecipeWrites", spec := "recipeWrites", inPlace := ["internal/bytealg.IndexByteString", "internal/bytealg.IndexString", "internal/bytealg.CountString", "internal/abi.NoEscape", "internal/bytealg.MakeNoZero"], unfollowed := true, recurses := true, named := ["internal/bytealg.MaxLen", "unicode/utf8.first", "unicode/utf8.acceptRanges"], apart := false, laid := [("unicode/utf8.acceptRanges", laid_unicode_utf8_acceptRanges), ("unicode/utf8.first", laid_unicode_utf8_first)] }
def RecipeWritesSaid : Prop := recipeWritesRow.holds Tryd.pinned (OpenSpec.ofChange recipeWritesSpec)

/-- ITS FALSE NEIGHBOUR: 'it returns false'. Refute it at one input. -/
def recipeWritesWrong : ChangeSpec := { name := "recipeWrites", fn := fun _ => fun
  | [d1, d2, d3] => { results := [.lit (.bool false)], args := [d1, d2, d3] }
  | _ => none }
def RecipeWritesWrongFalsely : Prop := recipeWritesRow.holds Tryd.pinned (OpenSpec.ofChange recipeWritesWrong)

/-- 'apiarylaw07.RecipeBack': WHATEVER THE INPUT: true; the input reads as it did. -/
def recipeBackSpec : ChangeSpec := { name := "recipeBack", fn := fun _ => fun
  | [d1, d2, d3] => { results := [.lit (.bool true)], args := [d1, d2, d3] }
  | _ => none }
def recipeBackRow : OpenClaim := { program := "ytbaipdhgjalgoaadoor", sum := "5fe54faa9375e03a2f462350ed9fd7b8283062f56bdb5b0250b186c05359046d", func := "apiary/apiarylaw07.RecipeBack", spec := "recipeBack", inPlace := ["internal/bytealg.IndexByteString", "internal/bytealg.IndexString", "internal/bytealg.CountString", "internal/abi.NoEscape", "internal/bytealg.MakeNoZero"], unfollowed := true, recurses := true, named := ["internal/bytealg.MaxLen", "unicode/utf8.first", "unicode/utf8.acceptRanges"], apart := false, laid := [("unicode/utf8.acceptRanges", laid_unicode_utf8_acceptRanges), ("unicode/utf8.first", laid_unicode_utf8_first)] }
def RecipeBackSaid : Prop := recipeBackRow.holds Tryd.pinned (OpenSpec.ofChange recipeBackSpec)

/-- ITS FALSE NEIGHBOUR: 'it returns false'. Refute it at one input. -/
def recipeBackWrong : ChangeSpec := { name := "recipeBack", fn := fun _ => fun
  | [d1, d2, d3] => { results := [.lit (.bool false)], args := [d1, d2, d3] }
  | _ => none }
def RecipeBackWrongFalsely : Prop := recipeBackRow.holds Tryd.pinned (OpenSpec.ofChange recipeBackWrong)

/-- 'apiarylaw07.RecipeParts': WHATEVER THE INPUT: true; the input reads as it did. -/
def recipePartsSpec : ChangeSpec := { name := "recipeParts", fn := fun _ => fun
  | [d] => { results := [.lit (.bool true)], args := [d] }
  | _ => none }
def recipePartsRow : OpenClaim := { program := "ytbaipdhgjalgoaadoor", sum := "5fe54faa9375e03a2f462350ed9fd7b8283062f56bdb5b0250b186c05359046d", func := "apiary/apiarylaw07.RecipeParts", spec := "recipeParts", inPlace := ["internal/bytealg.IndexByteString", "internal/bytealg.IndexString", "internal/bytealg.CountString", "internal/abi.NoEscape", "internal/bytealg.MakeNoZero"], unfollowed := true, recurses := true, named := ["internal/bytealg.MaxLen", "unicode/utf8.first", "unicode/utf8.acceptRanges"], apart := false, laid := [("unicode/utf8.acceptRanges", laid_unicode_utf8_acceptRanges), ("unicode/utf8.first", laid_unicode_utf8_first)] }
def RecipePartsSaid : Prop := recipePartsRow.holds Tryd.pinned (OpenSpec.ofChange recipePartsSpec)

/-- ITS FALSE NEIGHBOUR: 'it returns false'. Refute it at one input. -/
def recipePartsWrong : ChangeSpec := { name := "recipeParts", fn := fun _ => fun
  | [d] => { results := [.lit (.bool false)], args := [d] }
  | _ => none }
def RecipePartsWrongFalsely : Prop := recipePartsRow.holds Tryd.pinned (OpenSpec.ofChange recipePartsWrong)

/- THE SECOND FORM. 'bulk': how many values and letters a reading holds, each counted each time it is reached (what is shared counts as often as it is met; a slice's spare places count too). A statement '..UptoSaid' is the law's where the arguments, and the package variables that the reading takes, are together of bulk at most 1048576: NARROWER than '..Said'. Prove '..Said' where nothing that the law and all that it calls make is longer than what came in: it says more and counts as full. Else prove '..UptoSaid'. A law counts once. -/
mutual
def uptoBulk {H : Type} : DataW H → Nat
  | .lit (.string bytes) => bytes.length + 1
  | .lit _ => 1
  | .nil => 1
  | .ptr d => uptoBulk d + 1
  | .slice elems spare => uptoBulkAll elems + uptoBulkAll spare + 1
  | .agg parts => uptoBulkAll parts + 1
  | .iface _ d => uptoBulk d + 1
  | .map entries => uptoBulkEntries entries + 1
  | .held _ => 1
def uptoBulkAll {H : Type} : List (DataW H) → Nat
  | [] => 0
  | d :: r => uptoBulk d + uptoBulkAll r
def uptoBulkEntries {H : Type} : List (Lit × DataW H) → Nat
  | [] => 0
  | x :: r => uptoBulkEntry x + uptoBulkEntries r
def uptoBulkEntry {H : Type} : Lit × DataW H → Nat
  | (.string bytes, d) => bytes.length + uptoBulk d + 1
  | (_, d) => uptoBulk d + 1
 end
def uptoSmall : (H : Type) → List (DataW H) → Bool := fun _ ds => decide (uptoBulkAll ds ≤ 1048576)
def OpenSpec.upto (s : _root_.Go.ChangeSpec) : _root_.Go.OpenSpec := { _root_.Go.OpenSpec.ofChange s with cond := some uptoSmall }

/-- 'apiarylaw07.RecipeReads', WHERE WHAT IT READS IS OF BULK AT MOST 1048576: true; the input reads as it did. -/
def recipeReadsUptoRow : OpenClaim := { program := "ytbaipdhgjalgoaadoor", sum := "5fe54faa9375e03a2f462350ed9fd7b8283062f56bdb5b0250b186c05359046d", func := "apiary/apiarylaw07.RecipeReads", spec := "recipeReads", inPlace := ["internal/bytealg.IndexByteString", "internal/bytealg.IndexString", "internal/bytealg.CountString", "internal/abi.NoEscape", "internal/bytealg.MakeNoZero"], unfollowed := true, recurses := true, named := ["internal/bytealg.MaxLen", "unicode/utf8.first", "unicode/utf8.acceptRanges"], apart := false, laid := [("unicode/utf8.acceptRanges", laid_unicode_utf8_acceptRanges), ("unicode/utf8.first", laid_unicode_utf8_first)], narrowed := true }
def RecipeReadsUptoSaid : Prop := recipeReadsUptoRow.holds Tryd.pinned (OpenSpec.upto recipeReadsSpec)

/-- 'apiarylaw07.RecipeLines', WHERE WHAT IT READS IS OF BULK AT MOST 1048576: true; the input reads as it did. -/
def recipeLinesUptoRow : OpenClaim := { program := "ytbaipdhgjalgoaadoor", sum := "5fe54faa9375e03a2f462350ed9fd7b8283062f56bdb5b0250b186c05359046d", func := "apiary/apiarylaw07.RecipeLines", spec := "recipeLines", inPlace := ["internal/bytealg.IndexByteString", "internal/bytealg.IndexString", "internal/bytealg.CountString", "internal/abi.NoEscape", "internal/bytealg.MakeNoZero"], unfollowed := true, recurses := true, named := ["internal/bytealg.MaxLen", "unicode/utf8.first", "unicode/utf8.acceptRanges"], apart := false, laid := [("unicode/utf8.acceptRanges", laid_unicode_utf8_acceptRanges), ("unicode/utf8.first", laid_unicode_utf8_first)], narrowed := true }
def RecipeLinesUptoSaid : Prop := recipeLinesUptoRow.holds Tryd.pinned (OpenSpec.upto recipeLinesSpec)

/-- 'apiarylaw07.RecipeNames', WHERE WHAT IT READS IS OF BULK AT MOST 1048576: true; the input reads as it did. -/
def recipeNamesUptoRow : OpenClaim := { program := "ytbaipdhgjalgoaadoor", sum := "5fe54faa9375e03a2f462350ed9fd7b8283062f56bdb5b0250b186c05359046d", func := "apiary/apiarylaw07.RecipeNames", spec := "recipeNames", inPlace := ["internal/bytealg.IndexByteString", "internal/bytealg.IndexString", "internal/bytealg.CountString", "internal/abi.NoEscape", "internal/bytealg.MakeNoZero"], unfollowed := true, recurses := true, named := ["internal/bytealg.MaxLen", "unicode/utf8.first", "unicode/utf8.acceptRanges"], apart := false, laid := [("unicode/utf8.acceptRanges", laid_unicode_utf8_acceptRanges), ("unicode/utf8.first", laid_unicode_utf8_first)], narrowed := true }
def RecipeNamesUptoSaid : Prop := recipeNamesUptoRow.holds Tryd.pinned (OpenSpec.upto recipeNamesSpec)

/-- 'apiarylaw07.RecipeWrites', WHERE WHAT IT READS IS OF BULK AT MOST 1048576: true; the input reads as it did. -/
def recipeWritesUptoRow : OpenClaim := { program := "ytbaipdhgjalgoaadoor", sum := "5fe54faa9375e03a2f462350ed9fd7b8283062f56bdb5b0250b186c05359046d", func := "apiary/apiarylaw07.RecipeWrites", spec := "recipeWrites", inPlace := ["internal/bytealg.IndexByteString", "internal/bytealg.IndexString", "internal/bytealg.CountString", "internal/abi.NoEscape", "internal/bytealg.MakeNoZero"], unfollowed := true, recurses := true, named := ["internal/bytealg.MaxLen", "unicode/utf8.first", "unicode/utf8.acceptRanges"], apart := false, laid := [("unicode/utf8.acceptRanges", laid_unicode_utf8_acceptRanges), ("unicode/utf8.first", laid_unicode_utf8_first)], narrowed := true }
def RecipeWritesUptoSaid : Prop := recipeWritesUptoRow.holds Tryd.pinned (OpenSpec.upto recipeWritesSpec)

/-- 'apiarylaw07.RecipeBack', WHERE WHAT IT READS IS OF BULK AT MOST 1048576: true; the input reads as it did. -/
def recipeBackUptoRow : OpenClaim := { program := "ytbaipdhgjalgoaadoor", sum := "5fe54faa9375e03a2f462350ed9fd7b8283062f56bdb5b0250b186c05359046d", func := "apiary/apiarylaw07.RecipeBack", spec := "recipeBack", inPlace := ["internal/bytealg.IndexByteString", "internal/bytealg.IndexString", "internal/bytealg.CountString", "internal/abi.NoEscape", "internal/bytealg.MakeNoZero"], unfollowed := true, recurses := true, named := ["internal/bytealg.MaxLen", "unicode/utf8.first", "unicode/utf8.acceptRanges"], apart := false, laid := [("unicode/utf8.acceptRanges", laid_unicode_utf8_acceptRanges), ("unicode/utf8.first", laid_unicode_utf8_first)], narrowed := true }
def RecipeBackUptoSaid : Prop := recipeBackUptoRow.holds Tryd.pinned (OpenSpec.upto recipeBackSpec)

/-- 'apiarylaw07.RecipeParts', WHERE WHAT IT READS IS OF BULK AT MOST 1048576: true; the input reads as it did. -/
def recipePartsUptoRow : OpenClaim := { program := "ytbaipdhgjalgoaadoor", sum := "5fe54faa9375e03a2f462350ed9fd7b8283062f56bdb5b0250b186c05359046d", func := "apiary/apiarylaw07.RecipeParts", spec := "recipeParts", inPlace := ["internal/bytealg.IndexByteString", "internal/bytealg.IndexString", "internal/bytealg.CountString", "internal/abi.NoEscape", "internal/bytealg.MakeNoZero"], unfollowed := true, recurses := true, named := ["internal/bytealg.MaxLen", "unicode/utf8.first", "unicode/utf8.acceptRanges"], apart := false, laid := [("unicode/utf8.acceptRanges", laid_unicode_utf8_acceptRanges), ("unicode/utf8.first", laid_unicode_utf8_first)], narrowed := true }
def RecipePartsUptoSaid : Prop := recipePartsUptoRow.holds Tryd.pinned (OpenSpec.upto recipePartsSpec)

end Rows
end Go.Proofs.YtbaipdhgjalgoaaDoor
