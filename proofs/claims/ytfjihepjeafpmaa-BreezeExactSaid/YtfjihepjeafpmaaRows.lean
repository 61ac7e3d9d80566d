/-
  No cell of these rows narrows 'for every input' (looked for: loops, veiled, ifaces, maps, wideKeys, modest, calm, conditions, laid).
  DERIVED. THE GIVEN ROWS OF THIS SEAT. 5 by the template 'for every input the law returns true; each argument reads behind the call as it read before'; 0 by the template 'total and deterministic' (their statements: YtfjihepjeafpmaaTotals.lean).
  GIVEN WITH THE SEED: the statements are not yours to turn. If you find one false, say at which input.
  Laid BY PROGRAM, IN A SANDBOX (cutbox-rows.mjs): the forced cells as the released guide's own fill.sh prints them over the translation 350ae5c372c66637… (all of the seat's roots in one cut). By AI agents, Wed Nov 11 2026. No macro, syntax, notation, axiom, sorry.
-/
import Derived.Test.YtfjihepjeafpmaaChecked
import GoSem.Claim
import GoSem.ClaimJoined
import GoSem.ClaimMapViews
import Derived.JoinedTies
import Derived.KernelRfl
namespace Go.Proofs.Ytfjihepjeafpmaa
/- THE CELL 'sum', in the pinned program and in every row, IS THE sha256 OF THE DUMP (.gsa) THAT YtfjihepjeafpmaaProg.lean LOADS. Nothing in Lean hashes anything: it is a label: what it is worth is what the hold of that sum in a sandbox is worth. -/
noncomputable def Try.pinned : Pinned := { name := "ytfjihepjeafpmaa", sum := "350ae5c372c66637b377f5a4f61b6666f0078bdc7914f7ab495717974ca2ded7", checked := Try.checked }
namespace Rows
def none {H : Type} : Left H := { results := [], args := [] }

/-- 'apiarylaw20.BreezeOrders': WHATEVER THE INPUT: true; the input reads as it did. -/
def breezeOrdersSpec : ChangeSpec := { name := "breezeOrders", fn := fun _ => fun
  | [d] => { results := [.lit (.bool true)], args := [d] }
  | _ => none }
def breezeOrdersRow : OpenClaim := { program := "ytfjihepjeafpmaa", sum := "350ae5c372c66637b377f5a4f61b6666f0078bdc7914f7ab495717974ca2ded7", func := "apiary/apiarylaw20.BreezeOrders", spec := "breezeOrders", plainKeys := false, apart := false }
def BreezeOrdersSaid : Prop := breezeOrdersRow.holds Try.pinned (OpenSpec.ofChange breezeOrdersSpec)

/-- ITS FALSE NEIGHBOUR: 'it returns false'. Refute it at one input. -/
def breezeOrdersWrong : ChangeSpec := { name := "breezeOrders", fn := fun _ => fun
  | [d] => { results := [.lit (.bool false)], args := [d] }
  | _ => none }
def BreezeOrdersWrongFalsely : Prop := breezeOrdersRow.holds Try.pinned (OpenSpec.ofChange breezeOrdersWrong)

/-- 'apiarylaw20.BreezeStays': WHATEVER THE INPUT: true; the input reads as it did. -/
def breezeStaysSpec : ChangeSpec := { name := "breezeStays", fn := fun _ => fun
  | [d1, d2, d3] => { results := [.lit (.bool true)], args := [d1, d2, d3] }
  | _ => none }
def breezeStaysRow : OpenClaim := { program := "ytfjihepjeafpmaa", sum := "350ae5c372c66637b377f5a4f61b6666f0078bdc7914f7ab495717974ca2ded7", func := "apiary/apiarylaw20.BreezeStays", spec := "breezeStays", plainKeys := false, apart := false }
def BreezeStaysSaid : Prop := breezeStaysRow.holds Try.pinned (OpenSpec.ofChange breezeStaysSpec)

/-- ITS FALSE NEIGHBOUR: 'it returns false'. Refute it at one input. -/
def breezeStaysWrong : ChangeSpec := { name := "breezeStays", fn := fun _ => fun
  | [d1, d2, d3] => { results := [.lit (.bool false)], args := [d1, d2, d3] }
  | _ => none }
def BreezeStaysWrongFalsely : Prop := breezeStaysRow.holds Try.pinned (OpenSpec.ofChange breezeStaysWrong)

/-- 'apiarylaw20.BreezeExact': WHATEVER THE INPUT: true; the input reads as it did. -/
def breezeExactSpec : ChangeSpec := { name := "breezeExact", fn := fun _ => fun
  | [d] => { results := [.lit (.bool true)], args := [d] }
  | _ => none }
def breezeExactRow : OpenClaim := { program := "ytfjihepjeafpmaa", sum := "350ae5c372c66637b377f5a4f61b6666f0078bdc7914f7ab495717974ca2ded7", func := "apiary/apiarylaw20.BreezeExact", spec := "breezeExact", plainKeys := false, apart := false }
def BreezeExactSaid : Prop := breezeExactRow.holds Try.pinned (OpenSpec.ofChange breezeExactSpec)

/-- ITS FALSE NEIGHBOUR: 'it returns false'. Refute it at one input. -/
def breezeExactWrong : ChangeSpec := { name := "breezeExact", fn := fun _ => fun
  | [d] => { results := [.lit (.bool false)], args := [d] }
  | _ => none }
def BreezeExactWrongFalsely : Prop := breezeExactRow.holds Try.pinned (OpenSpec.ofChange breezeExactWrong)

/-- 'apiarylaw20.BreezeTruth': WHATEVER THE INPUT: true; the input reads as it did. -/
def breezeTruthSpec : ChangeSpec := { name := "breezeTruth", fn := fun _ => fun
  | [d] => { results := [.lit (.bool true)], args := [d] }
  | _ => none }
def breezeTruthRow : OpenClaim := { program := "ytfjihepjeafpmaa", sum := "350ae5c372c66637b377f5a4f61b6666f0078bdc7914f7ab495717974ca2ded7", func := "apiary/apiarylaw20.BreezeTruth", spec := "breezeTruth", plainKeys := false, apart := false }
def BreezeTruthSaid : Prop := breezeTruthRow.holds Try.pinned (OpenSpec.ofChange breezeTruthSpec)

/-- ITS FALSE NEIGHBOUR: 'it returns false'. Refute it at one input. -/
def breezeTruthWrong : ChangeSpec := { name := "breezeTruth", fn := fun _ => fun
  | [d] => { results := [.lit (.bool false)], args := [d] }
  | _ => none }
def BreezeTruthWrongFalsely : Prop := breezeTruthRow.holds Try.pinned (OpenSpec.ofChange breezeTruthWrong)

/-- 'apiarylaw20.BreezeApart': WHATEVER THE INPUT: true; the input reads as it did. -/
def breezeApartSpec : ChangeSpec := { name := "breezeApart", fn := fun _ => fun
  | [d] => { results := [.lit (.bool true)], args := [d] }
  | _ => none }
def breezeApartRow : OpenClaim := { program := "ytfjihepjeafpmaa", sum := "350ae5c372c66637b377f5a4f61b6666f0078bdc7914f7ab495717974ca2ded7", func := "apiary/apiarylaw20.BreezeApart", spec := "breezeApart", plainKeys := false, apart := false }
def BreezeApartSaid : Prop := breezeApartRow.holds Try.pinned (OpenSpec.ofChange breezeApartSpec)

/-- ITS FALSE NEIGHBOUR: 'it returns false'. Refute it at one input. -/
def breezeApartWrong : ChangeSpec := { name := "breezeApart", fn := fun _ => fun
  | [d] => { results := [.lit (.bool false)], args := [d] }
  | _ => none }
def BreezeApartWrongFalsely : Prop := breezeApartRow.holds Try.pinned (OpenSpec.ofChange breezeApartWrong)

/- THE SECOND FORM. 'bulk': how many values and letters a reading holds, each counted each time it is reached (what is shared counts as often as it is met; a slice's spare places count too). A statement '..UptoSaid' is the law's where the arguments, and the package variables that the reading takes, are together of bulk at most 1048576: NARROWER than '..Said'. Prove '..Said' where nothing that the law and all that it calls make is longer than what came in: it says more and counts as full. Else prove '..UptoSaid'. A law counts once. -/
mutual
def uptoBulk {H : Type} : DataW H → Nat
  | .lit (.string bytes) => bytes.length + 1
  | .lit _ => 1
  | .nil => 1
  | .ptr d => uptoBulk d + 1
  | .slice elems spare => uptoBulkAll elems + uptoBulkAll spare + 1
  | .agg parts => uptoBulkAll parts + 1
  | .iface _ d => uptoBulk d + 1
  | .map entries => uptoBulkEntries entries + 1
  | .held _ => 1
def uptoBulkAll {H : Type} : List (DataW H) → Nat
  | [] => 0
  | d :: r => uptoBulk d + uptoBulkAll r
def uptoBulkEntries {H : Type} : List (Lit × DataW H) → Nat
  | [] => 0
  | x :: r => uptoBulkEntry x + uptoBulkEntries r
def uptoBulkEntry {H : Type} : Lit × DataW H → Nat
  | (.string bytes, d) => bytes.length + uptoBulk d + 1
  | (_, d) => uptoBulk d + 1
 end
def uptoSmall : (H : Type) → List (DataW H) → Bool := fun _ ds => decide (uptoBulkAll ds ≤ 1048576)
def OpenSpec.upto (s : _root_.Go.ChangeSpec) : _root_.Go.OpenSpec := { _root_.Go.OpenSpec.ofChange s with cond := some uptoSmall }

/-- 'apiarylaw20.BreezeOrders', WHERE WHAT IT READS IS OF BULK AT MOST 1048576: true; the input reads as it did. -/
def breezeOrdersUptoRow : OpenClaim := { program := "ytfjihepjeafpmaa", sum := "350ae5c372c66637b377f5a4f61b6666f0078bdc7914f7ab495717974ca2ded7", func := "apiary/apiarylaw20.BreezeOrders", spec := "breezeOrders", plainKeys := false, apart := false, narrowed := true }
def BreezeOrdersUptoSaid : Prop := breezeOrdersUptoRow.holds Try.pinned (OpenSpec.upto breezeOrdersSpec)

/-- 'apiarylaw20.BreezeStays', WHERE WHAT IT READS IS OF BULK AT MOST 1048576: true; the input reads as it did. -/
def breezeStaysUptoRow : OpenClaim := { program := "ytfjihepjeafpmaa", sum := "350ae5c372c66637b377f5a4f61b6666f0078bdc7914f7ab495717974ca2ded7", func := "apiary/apiarylaw20.BreezeStays", spec := "breezeStays", plainKeys := false, apart := false, narrowed := true }
def BreezeStaysUptoSaid : Prop := breezeStaysUptoRow.holds Try.pinned (OpenSpec.upto breezeStaysSpec)

/-- 'apiarylaw20.BreezeExact', WHERE WHAT IT READS IS OF BULK AT MOST 1048576: true; the input reads as it did. -/
def breezeExactUptoRow : OpenClaim := { program := "ytfjihepjeafpmaa", sum := "350ae5c372c66637b377f5a4f61b6666f0078bdc7914f7ab495717974ca2ded7", func := "apiary/apiarylaw20.BreezeExact", spec := "breezeExact", plainKeys := false, apart := false, narrowed := true }
def BreezeExactUptoSaid : Prop := breezeExactUptoRow.holds Try.pinned (OpenSpec.upto breezeExactSpec)

/-- 'apiarylaw20.BreezeTruth', WHERE WHAT IT READS IS OF BULK AT MOST 1048576: true; the input reads as it did. -/
def breezeTruthUptoRow : OpenClaim := { program := "ytfjihepjeafpmaa", sum := "350ae5c372c66637b377f5a4f61b6666f0078bdc7914f7ab495717974ca2ded7", func := "apiary/apiarylaw20.BreezeTruth", spec := "breezeTruth", plainKeys := false, apart := false, narrowed := true }
def BreezeTruthUptoSaid : Prop := breezeTruthUptoRow.holds Try.pinned (OpenSpec.upto breezeTruthSpec)

/-- 'apiarylaw20.BreezeApart', WHERE WHAT IT READS IS OF BULK AT MOST 1048576: true; the input reads as it did. -/
def breezeApartUptoRow : OpenClaim := { program := "ytfjihepjeafpmaa", sum := "350ae5c372c66637b377f5a4f61b6666f0078bdc7914f7ab495717974ca2ded7", func := "apiary/apiarylaw20.BreezeApart", spec := "breezeApart", plainKeys := false, apart := false, narrowed := true }
def BreezeApartUptoSaid : Prop := breezeApartUptoRow.holds Try.pinned (OpenSpec.upto breezeApartSpec)

end Rows
end Go.Proofs.Ytfjihepjeafpmaa
