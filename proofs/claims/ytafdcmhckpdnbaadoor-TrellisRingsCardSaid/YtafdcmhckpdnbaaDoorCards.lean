/-
  DERIVED. GIVEN WITH THE SEED: THE CARDS: each row of YtafdcmhckpdnbaaDoorRows.lean that lists a variable, with what it lists TIED to the program's text (the seventh form; the later family's looks); each row that meets fmt, with fmt's text TOLD by the authors' own Lean function (tested against real Go, not proved from fmt's source: count such statements apart). THE CARD IS WHAT COUNTS. Prove the row's statement (the work); the ties are given (YtafdcmhckpdnbaaDoorTie.lean); close each card by the builder's one call (the guide's Derived/Test/ToyasCard.lean, 'card_holds'). Laid BY PROGRAM, IN A SANDBOX (cutbox-door.mjs). By AI agents, Wed Nov 11 2026. No macro, syntax, notation, axiom, sorry.
-/
import Derived.Test.YtafdcmhckpdnbaaDoorRows
import GoSem.ClaimSeven
namespace Go.Proofs.YtafdcmhckpdnbaaDoor
namespace Rows

/-- THE TIED CARD OF 'apiarylaw08.TrellisExact'. -/
def trellisExactCard : Claim7 := { stood := { row := trellisExactRow, standIns := [], harness := (true, "b805e39e25652769424855e01041983b12c55954f5bfe63f60c45b6dd42c2518"), looks := false }, kinds := [], alts := [], laidByText := true, laidKinds := [.data, .pinned], laidTests := true, laidLooks := .later }
def TrellisExactCardSaid : Prop := Claim7.holds Tryd.pinned (.plain (OpenSpec.ofChange trellisExactSpec)) trellisExactCard

/-- THE TIED CARD OF 'apiarylaw08.TrellisOrders'. -/
def trellisOrdersCard : Claim7 := { stood := { row := trellisOrdersRow, standIns := [], harness := (true, "b805e39e25652769424855e01041983b12c55954f5bfe63f60c45b6dd42c2518"), looks := false }, kinds := [], alts := [], laidByText := true, laidKinds := [.data, .pinned], laidTests := true, laidLooks := .later }
def TrellisOrdersCardSaid : Prop := Claim7.holds Tryd.pinned (.plain (OpenSpec.ofChange trellisOrdersSpec)) trellisOrdersCard

/-- THE TIED CARD OF 'apiarylaw08.TrellisDirty'. -/
def trellisDirtyCard : Claim7 := { stood := { row := trellisDirtyRow, standIns := [], harness := (true, "b805e39e25652769424855e01041983b12c55954f5bfe63f60c45b6dd42c2518"), looks := false }, kinds := [], alts := [], laidByText := true, laidKinds := [.data, .pinned], laidTests := true, laidLooks := .later }
def TrellisDirtyCardSaid : Prop := Claim7.holds Tryd.pinned (.plain (OpenSpec.ofChange trellisDirtySpec)) trellisDirtyCard

/-- THE TIED CARD OF 'apiarylaw08.TrellisRings'. -/
def trellisRingsCard : Claim7 := { stood := { row := trellisRingsRow, standIns := [], harness := (true, "b805e39e25652769424855e01041983b12c55954f5bfe63f60c45b6dd42c2518"), looks := false }, kinds := [], alts := [], laidByText := true, laidKinds := [.data, .pinned], laidTests := true, laidLooks := .later }
def TrellisRingsCardSaid : Prop := Claim7.holds Tryd.pinned (.plain (OpenSpec.ofChange trellisRingsSpec)) trellisRingsCard

/-- THE TIED CARD OF 'apiarylaw08.TrellisErrors'. -/
def trellisErrorsCard : Claim7 := { stood := { row := trellisErrorsRow, standIns := [], harness := (true, "b805e39e25652769424855e01041983b12c55954f5bfe63f60c45b6dd42c2518"), looks := false }, kinds := [], alts := [], laidByText := true, laidKinds := [.data, .pinned], laidTests := true, laidLooks := .later }
def TrellisErrorsCardSaid : Prop := Claim7.holds Tryd.pinned (.plain (OpenSpec.ofChange trellisErrorsSpec)) trellisErrorsCard

/-- THE TIED CARD OF 'apiarylaw08.TrellisGrows'. -/
def trellisGrowsCard : Claim7 := { stood := { row := trellisGrowsRow, standIns := [], harness := (true, "b805e39e25652769424855e01041983b12c55954f5bfe63f60c45b6dd42c2518"), looks := false }, kinds := [], alts := [], laidByText := true, laidKinds := [.data, .pinned], laidTests := true, laidLooks := .later }
def TrellisGrowsCardSaid : Prop := Claim7.holds Tryd.pinned (.plain (OpenSpec.ofChange trellisGrowsSpec)) trellisGrowsCard

/-- THE SECOND FORM's CARD OF 'apiarylaw08.TrellisExact'. -/
def trellisExactUptoCard : Claim7 := { stood := { row := trellisExactUptoRow, standIns := [], harness := (true, "b805e39e25652769424855e01041983b12c55954f5bfe63f60c45b6dd42c2518"), looks := false }, kinds := [], alts := [], laidByText := true, laidKinds := [.data, .pinned], laidTests := true, laidLooks := .later }
def TrellisExactUptoCardSaid : Prop := Claim7.holds Tryd.pinned (.plain (OpenSpec.upto trellisExactSpec)) trellisExactUptoCard

/-- THE SECOND FORM's CARD OF 'apiarylaw08.TrellisOrders'. -/
def trellisOrdersUptoCard : Claim7 := { stood := { row := trellisOrdersUptoRow, standIns := [], harness := (true, "b805e39e25652769424855e01041983b12c55954f5bfe63f60c45b6dd42c2518"), looks := false }, kinds := [], alts := [], laidByText := true, laidKinds := [.data, .pinned], laidTests := true, laidLooks := .later }
def TrellisOrdersUptoCardSaid : Prop := Claim7.holds Tryd.pinned (.plain (OpenSpec.upto trellisOrdersSpec)) trellisOrdersUptoCard

/-- THE SECOND FORM's CARD OF 'apiarylaw08.TrellisDirty'. -/
def trellisDirtyUptoCard : Claim7 := { stood := { row := trellisDirtyUptoRow, standIns := [], harness := (true, "b805e39e25652769424855e01041983b12c55954f5bfe63f60c45b6dd42c2518"), looks := false }, kinds := [], alts := [], laidByText := true, laidKinds := [.data, .pinned], laidTests := true, laidLooks := .later }
def TrellisDirtyUptoCardSaid : Prop := Claim7.holds Tryd.pinned (.plain (OpenSpec.upto trellisDirtySpec)) trellisDirtyUptoCard

/-- THE SECOND FORM's CARD OF 'apiarylaw08.TrellisRings'. -/
def trellisRingsUptoCard : Claim7 := { stood := { row := trellisRingsUptoRow, standIns := [], harness := (true, "b805e39e25652769424855e01041983b12c55954f5bfe63f60c45b6dd42c2518"), looks := false }, kinds := [], alts := [], laidByText := true, laidKinds := [.data, .pinned], laidTests := true, laidLooks := .later }
def TrellisRingsUptoCardSaid : Prop := Claim7.holds Tryd.pinned (.plain (OpenSpec.upto trellisRingsSpec)) trellisRingsUptoCard

/-- THE SECOND FORM's CARD OF 'apiarylaw08.TrellisErrors'. -/
def trellisErrorsUptoCard : Claim7 := { stood := { row := trellisErrorsUptoRow, standIns := [], harness := (true, "b805e39e25652769424855e01041983b12c55954f5bfe63f60c45b6dd42c2518"), looks := false }, kinds := [], alts := [], laidByText := true, laidKinds := [.data, .pinned], laidTests := true, laidLooks := .later }
def TrellisErrorsUptoCardSaid : Prop := Claim7.holds Tryd.pinned (.plain (OpenSpec.upto trellisErrorsSpec)) trellisErrorsUptoCard

/-- THE SECOND FORM's CARD OF 'apiarylaw08.TrellisGrows'. -/
def trellisGrowsUptoCard : Claim7 := { stood := { row := trellisGrowsUptoRow, standIns := [], harness := (true, "b805e39e25652769424855e01041983b12c55954f5bfe63f60c45b6dd42c2518"), looks := false }, kinds := [], alts := [], laidByText := true, laidKinds := [.data, .pinned], laidTests := true, laidLooks := .later }
def TrellisGrowsUptoCardSaid : Prop := Claim7.holds Tryd.pinned (.plain (OpenSpec.upto trellisGrowsSpec)) trellisGrowsUptoCard
end Rows
end Go.Proofs.YtafdcmhckpdnbaaDoor
