/-
  DERIVED. GIVEN WITH THE SEED: THE CARDS: each row of YtijiggolphppbaaGreatDoorRows.lean that lists a variable, with what it lists TIED to the program's text (the seventh form; the later family's looks); each row that meets fmt, with fmt's text TOLD by the authors' own Lean function (tested against real Go, not proved from fmt's source: count such statements apart). THE CARD IS WHAT COUNTS. Prove the row's statement (the work); the ties are given (YtijiggolphppbaaGreatDoorTie.lean); close each card by the builder's one call (the guide's Derived/Test/ToyasCard.lean, 'card_holds'). Laid BY PROGRAM, IN A SANDBOX (cutbox-door.mjs). By AI agents, Wed Nov 11 2026. No macro, syntax, notation, axiom, sorry.
-/
import Derived.Test.YtijiggolphppbaaGreatDoorRows
import GoSem.ClaimSeven
namespace Go.Proofs.YtijiggolphppbaaGreatDoor
namespace Rows

/-- THE TIED CARD OF 'apiarylaw22.BeeNil'. -/
def beeNilCard : Claim7 := { stood := { row := beeNilRow, standIns := [], harness := (true, "14249e0bbe864a6316a66a87c72194a3d4612d4da3a2533fb63d88c448307885"), looks := false }, kinds := [], alts := [], laidByText := true, laidKinds := [.data, .data, .data, .data, .data, .pinned], laidTests := true, laidLooks := .later }
def BeeNilCardSaid : Prop := Claim7.holds Tryz.pinned (.plain (OpenSpec.ofChange beeNilSpec)) beeNilCard

/-- THE SECOND FORM's CARD OF 'apiarylaw22.BeeNil'. -/
def beeNilUptoCard : Claim7 := { stood := { row := beeNilUptoRow, standIns := [], harness := (true, "14249e0bbe864a6316a66a87c72194a3d4612d4da3a2533fb63d88c448307885"), looks := false }, kinds := [], alts := [], laidByText := true, laidKinds := [.data, .data, .data, .data, .data, .pinned], laidTests := true, laidLooks := .later }
def BeeNilUptoCardSaid : Prop := Claim7.holds Tryz.pinned (.plain (OpenSpec.upto beeNilSpec)) beeNilUptoCard
end Rows
end Go.Proofs.YtijiggolphppbaaGreatDoor
