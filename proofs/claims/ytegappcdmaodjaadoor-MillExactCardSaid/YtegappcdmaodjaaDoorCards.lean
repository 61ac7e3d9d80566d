/-
  DERIVED. GIVEN WITH THE SEED: THE CARDS: each row of YtegappcdmaodjaaDoorRows.lean that lists a variable, with what it lists TIED to the program's text (the seventh form; the later family's looks); each row that meets fmt, with fmt's text TOLD by the authors' own Lean function (tested against real Go, not proved from fmt's source: count such statements apart). THE CARD IS WHAT COUNTS. Prove the row's statement (the work); the ties are given (YtegappcdmaodjaaDoorTie.lean); close each card by the builder's one call (the guide's Derived/Test/ToyasCard.lean, 'card_holds'). Laid BY PROGRAM, IN A SANDBOX (cutbox-door.mjs). By AI agents, Wed Nov 11 2026. No macro, syntax, notation, axiom, sorry.
-/
import Derived.Test.YtegappcdmaodjaaDoorRows
import GoSem.ClaimSeven
namespace Go.Proofs.YtegappcdmaodjaaDoor
namespace Rows

/-- THE TIED CARD OF 'apiarylaw06.MillExact'. -/
def millExactCard : Claim7 := { stood := { row := millExactRow, standIns := [], harness := (true, "18811bbb803d537bdf4b3b49238b2a59dc08b3223b986d572ac7f5572cf5aa2e"), looks := false }, kinds := [], alts := [], laidByText := true, laidKinds := [.data, .data, .data, .data], laidTests := true, laidLooks := .later }
def MillExactCardSaid : Prop := Claim7.holds Tryd.pinned (.plain (OpenSpec.ofChange millExactSpec)) millExactCard

/-- THE TIED CARD OF 'apiarylaw06.MillSteps'. -/
def millStepsCard : Claim7 := { stood := { row := millStepsRow, standIns := [], harness := (true, "18811bbb803d537bdf4b3b49238b2a59dc08b3223b986d572ac7f5572cf5aa2e"), looks := false }, kinds := [], alts := [], laidByText := true, laidKinds := [.data, .data, .data, .data], laidTests := true, laidLooks := .later }
def MillStepsCardSaid : Prop := Claim7.holds Tryd.pinned (.plain (OpenSpec.ofChange millStepsSpec)) millStepsCard

/-- THE TIED CARD OF 'apiarylaw06.MillEnds'. -/
def millEndsCard : Claim7 := { stood := { row := millEndsRow, standIns := [], harness := (true, "18811bbb803d537bdf4b3b49238b2a59dc08b3223b986d572ac7f5572cf5aa2e"), looks := false }, kinds := [], alts := [], laidByText := true, laidKinds := [.data, .data, .data, .data], laidTests := true, laidLooks := .later }
def MillEndsCardSaid : Prop := Claim7.holds Tryd.pinned (.plain (OpenSpec.ofChange millEndsSpec)) millEndsCard

/-- THE TIED CARD OF 'apiarylaw06.MillWords'. -/
def millWordsCard : Claim7 := { stood := { row := millWordsRow, standIns := [], harness := (true, "18811bbb803d537bdf4b3b49238b2a59dc08b3223b986d572ac7f5572cf5aa2e"), looks := false }, kinds := [], alts := [], laidByText := true, laidKinds := [.data, .data, .data, .data], laidTests := true, laidLooks := .later }
def MillWordsCardSaid : Prop := Claim7.holds Tryd.pinned (.plain (OpenSpec.ofChange millWordsSpec)) millWordsCard

/-- THE TIED CARD OF 'apiarylaw06.MillStands'. -/
def millStandsCard : Claim7 := { stood := { row := millStandsRow, standIns := [], harness := (true, "18811bbb803d537bdf4b3b49238b2a59dc08b3223b986d572ac7f5572cf5aa2e"), looks := false }, kinds := [], alts := [], laidByText := true, laidKinds := [.data, .data, .data, .data], laidTests := true, laidLooks := .later }
def MillStandsCardSaid : Prop := Claim7.holds Tryd.pinned (.plain (OpenSpec.ofChange millStandsSpec)) millStandsCard

/-- THE TIED CARD OF 'apiarylaw06.MillJoins'. -/
def millJoinsCard : Claim7 := { stood := { row := millJoinsRow, standIns := [], harness := (true, "18811bbb803d537bdf4b3b49238b2a59dc08b3223b986d572ac7f5572cf5aa2e"), looks := false }, kinds := [], alts := [], laidByText := true, laidKinds := [.data, .data, .data, .data], laidTests := true, laidLooks := .later }
def MillJoinsCardSaid : Prop := Claim7.holds Tryd.pinned (.plain (OpenSpec.ofChange millJoinsSpec)) millJoinsCard

/-- THE TIED CARD OF 'apiarylaw06.MillBlind'. -/
def millBlindCard : Claim7 := { stood := { row := millBlindRow, standIns := [], harness := (true, "18811bbb803d537bdf4b3b49238b2a59dc08b3223b986d572ac7f5572cf5aa2e"), looks := false }, kinds := [], alts := [], laidByText := true, laidKinds := [.data, .data, .data, .data], laidTests := true, laidLooks := .later }
def MillBlindCardSaid : Prop := Claim7.holds Tryd.pinned (.plain (OpenSpec.ofChange millBlindSpec)) millBlindCard

/-- THE SECOND FORM's CARD OF 'apiarylaw06.MillExact'. -/
def millExactUptoCard : Claim7 := { stood := { row := millExactUptoRow, standIns := [], harness := (true, "18811bbb803d537bdf4b3b49238b2a59dc08b3223b986d572ac7f5572cf5aa2e"), looks := false }, kinds := [], alts := [], laidByText := true, laidKinds := [.data, .data, .data, .data], laidTests := true, laidLooks := .later }
def MillExactUptoCardSaid : Prop := Claim7.holds Tryd.pinned (.plain (OpenSpec.upto millExactSpec)) millExactUptoCard

/-- THE SECOND FORM's CARD OF 'apiarylaw06.MillSteps'. -/
def millStepsUptoCard : Claim7 := { stood := { row := millStepsUptoRow, standIns := [], harness := (true, "18811bbb803d537bdf4b3b49238b2a59dc08b3223b986d572ac7f5572cf5aa2e"), looks := false }, kinds := [], alts := [], laidByText := true, laidKinds := [.data, .data, .data, .data], laidTests := true, laidLooks := .later }
def MillStepsUptoCardSaid : Prop := Claim7.holds Tryd.pinned (.plain (OpenSpec.upto millStepsSpec)) millStepsUptoCard

/-- THE SECOND FORM's CARD OF 'apiarylaw06.MillEnds'. -/
def millEndsUptoCard : Claim7 := { stood := { row := millEndsUptoRow, standIns := [], harness := (true, "18811bbb803d537bdf4b3b49238b2a59dc08b3223b986d572ac7f5572cf5aa2e"), looks := false }, kinds := [], alts := [], laidByText := true, laidKinds := [.data, .data, .data, .data], laidTests := true, laidLooks := .later }
def MillEndsUptoCardSaid : Prop := Claim7.holds Tryd.pinned (.plain (OpenSpec.upto millEndsSpec)) millEndsUptoCard

/-- THE SECOND FORM's CARD OF 'apiarylaw06.MillWords'. -/
def millWordsUptoCard : Claim7 := { stood := { row := millWordsUptoRow, standIns := [], harness := (true, "18811bbb803d537bdf4b3b49238b2a59dc08b3223b986d572ac7f5572cf5aa2e"), looks := false }, kinds := [], alts := [], laidByText := true, laidKinds := [.data, .data, .data, .data], laidTests := true, laidLooks := .later }
def MillWordsUptoCardSaid : Prop := Claim7.holds Tryd.pinned (.plain (OpenSpec.upto millWordsSpec)) millWordsUptoCard

/-- THE SECOND FORM's CARD OF 'apiarylaw06.MillStands'. -/
def millStandsUptoCard : Claim7 := { stood := { row := millStandsUptoRow, standIns := [], harness := (true, "18811bbb803d537bdf4b3b49238b2a59dc08b3223b986d572ac7f5572cf5aa2e"), looks := false }, kinds := [], alts := [], laidByText := true, laidKinds := [.data, .data, .data, .data], laidTests := true, laidLooks := .later }
def MillStandsUptoCardSaid : Prop := Claim7.holds Tryd.pinned (.plain (OpenSpec.upto millStandsSpec)) millStandsUptoCard

/-- THE SECOND FORM's CARD OF 'apiarylaw06.MillJoins'. -/
def millJoinsUptoCard : Claim7 := { stood := { row := millJoinsUptoRow, standIns := [], harness := (true, "18811bbb803d537bdf4b3b49238b2a59dc08b3223b986d572ac7f5572cf5aa2e"), looks := false }, kinds := [], alts := [], laidByText := true, laidKinds := [.data, .data, .data, .data], laidTests := true, laidLooks := .later }
def MillJoinsUptoCardSaid : Prop := Claim7.holds Tryd.pinned (.plain (OpenSpec.upto millJoinsSpec)) millJoinsUptoCard

/-- THE SECOND FORM's CARD OF 'apiarylaw06.MillBlind'. -/
def millBlindUptoCard : Claim7 := { stood := { row := millBlindUptoRow, standIns := [], harness := (true, "18811bbb803d537bdf4b3b49238b2a59dc08b3223b986d572ac7f5572cf5aa2e"), looks := false }, kinds := [], alts := [], laidByText := true, laidKinds := [.data, .data, .data, .data], laidTests := true, laidLooks := .later }
def MillBlindUptoCardSaid : Prop := Claim7.holds Tryd.pinned (.plain (OpenSpec.upto millBlindSpec)) millBlindUptoCard
end Rows
end Go.Proofs.YtegappcdmaodjaaDoor
