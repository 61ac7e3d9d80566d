/-
  DERIVED. GIVEN WITH THE SEED: THE CARDS: each row of YtbaipdhgjalgoaaDoorRows.lean that lists a variable, with what it lists TIED to the program's text (the seventh form; the later family's looks); each row that meets fmt, with fmt's text TOLD by the authors' own Lean function (tested against real Go, not proved from fmt's source: count such statements apart). THE CARD IS WHAT COUNTS. Prove the row's statement (the work); the ties are given (YtbaipdhgjalgoaaDoorTie.lean); close each card by the builder's one call (the guide's Derived/Test/ToyasCard.lean, 'card_holds'). Laid BY PROGRAM, IN A SANDBOX (cutbox-door.mjs). By AI agents, Wed Nov 11 2026. No macro, syntax, notation, axiom, sorry.
-/
import Derived.Test.YtbaipdhgjalgoaaDoorRows
import GoSem.ClaimSeven
namespace Go.Proofs.YtbaipdhgjalgoaaDoor
namespace Rows

/-- THE TIED CARD OF 'apiarylaw07.RecipeReads'. -/
def recipeReadsCard : Claim7 := { stood := { row := recipeReadsRow, standIns := [], harness := (true, "4743824298a722cba0d75cb32a9803a154145fdf30a4c59f213c4b4fc7c78538"), looks := false }, kinds := [], alts := [], laidByText := true, laidKinds := [.data, .pinned], laidTests := true, laidLooks := .later }
def RecipeReadsCardSaid : Prop := Claim7.holds Tryd.pinned (.plain (OpenSpec.ofChange recipeReadsSpec)) recipeReadsCard

/-- THE TIED CARD OF 'apiarylaw07.RecipeLines'. -/
def recipeLinesCard : Claim7 := { stood := { row := recipeLinesRow, standIns := [], harness := (true, "4743824298a722cba0d75cb32a9803a154145fdf30a4c59f213c4b4fc7c78538"), looks := false }, kinds := [], alts := [], laidByText := true, laidKinds := [.data, .pinned], laidTests := true, laidLooks := .later }
def RecipeLinesCardSaid : Prop := Claim7.holds Tryd.pinned (.plain (OpenSpec.ofChange recipeLinesSpec)) recipeLinesCard

/-- THE TIED CARD OF 'apiarylaw07.RecipeNames'. -/
def recipeNamesCard : Claim7 := { stood := { row := recipeNamesRow, standIns := [], harness := (true, "4743824298a722cba0d75cb32a9803a154145fdf30a4c59f213c4b4fc7c78538"), looks := false }, kinds := [], alts := [], laidByText := true, laidKinds := [.data, .pinned], laidTests := true, laidLooks := .later }
def RecipeNamesCardSaid : Prop := Claim7.holds Tryd.pinned (.plain (OpenSpec.ofChange recipeNamesSpec)) recipeNamesCard

/-- THE TIED CARD OF 'apiarylaw07.RecipeWrites'. -/
def recipeWritesCard : Claim7 := { stood := { row := recipeWritesRow, standIns := [], harness := (true, "4743824298a722cba0d75cb32a9803a154145fdf30a4c59f213c4b4fc7c78538"), looks := false }, kinds := [], alts := [], laidByText := true, laidKinds := [.data, .pinned], laidTests := true, laidLooks := .later }
def RecipeWritesCardSaid : Prop := Claim7.holds Tryd.pinned (.plain (OpenSpec.ofChange recipeWritesSpec)) recipeWritesCard

/-- THE TIED CARD OF 'apiarylaw07.RecipeBack'. -/
def recipeBackCard : Claim7 := { stood := { row := recipeBackRow, standIns := [], harness := (true, "4743824298a722cba0d75cb32a9803a154145fdf30a4c59f213c4b4fc7c78538"), looks := false }, kinds := [], alts := [], laidByText := true, laidKinds := [.data, .pinned], laidTests := true, laidLooks := .later }
def RecipeBackCardSaid : Prop := Claim7.holds Tryd.pinned (.plain (OpenSpec.ofChange recipeBackSpec)) recipeBackCard

/-- THE TIED CARD OF 'apiarylaw07.RecipeParts'. -/
def recipePartsCard : Claim7 := { stood := { row := recipePartsRow, standIns := [], harness := (true, "4743824298a722cba0d75cb32a9803a154145fdf30a4c59f213c4b4fc7c78538"), looks := false }, kinds := [], alts := [], laidByText := true, laidKinds := [.data, .pinned], laidTests := true, laidLooks := .later }
def RecipePartsCardSaid : Prop := Claim7.holds Tryd.pinned (.plain (OpenSpec.ofChange recipePartsSpec)) recipePartsCard

/-- THE SECOND FORM's CARD OF 'apiarylaw07.RecipeReads'. -/
def recipeReadsUptoCard : Claim7 := { stood := { row := recipeReadsUptoRow, standIns := [], harness := (true, "4743824298a722cba0d75cb32a9803a154145fdf30a4c59f213c4b4fc7c78538"), looks := false }, kinds := [], alts := [], laidByText := true, laidKinds := [.data, .pinned], laidTests := true, laidLooks := .later }
def RecipeReadsUptoCardSaid : Prop := Claim7.holds Tryd.pinned (.plain (OpenSpec.upto recipeReadsSpec)) recipeReadsUptoCard

/-- THE SECOND FORM's CARD OF 'apiarylaw07.RecipeLines'. -/
def recipeLinesUptoCard : Claim7 := { stood := { row := recipeLinesUptoRow, standIns := [], harness := (true, "4743824298a722cba0d75cb32a9803a154145fdf30a4c59f213c4b4fc7c78538"), looks := false }, kinds := [], alts := [], laidByText := true, laidKinds := [.data, .pinned], laidTests := true, laidLooks := .later }
def RecipeLinesUptoCardSaid : Prop := Claim7.holds Tryd.pinned (.plain (OpenSpec.upto recipeLinesSpec)) recipeLinesUptoCard

/-- THE SECOND FORM's CARD OF 'apiarylaw07.RecipeNames'. -/
def recipeNamesUptoCard : Claim7 := { stood := { row := recipeNamesUptoRow, standIns := [], harness := (true, "4743824298a722cba0d75cb32a9803a154145fdf30a4c59f213c4b4fc7c78538"), looks := false }, kinds := [], alts := [], laidByText := true, laidKinds := [.data, .pinned], laidTests := true, laidLooks := .later }
def RecipeNamesUptoCardSaid : Prop := Claim7.holds Tryd.pinned (.plain (OpenSpec.upto recipeNamesSpec)) recipeNamesUptoCard

/-- THE SECOND FORM's CARD OF 'apiarylaw07.RecipeWrites'. -/
def recipeWritesUptoCard : Claim7 := { stood := { row := recipeWritesUptoRow, standIns := [], harness := (true, "4743824298a722cba0d75cb32a9803a154145fdf30a4c59f213c4b4fc7c78538"), looks := false }, kinds := [], alts := [], laidByText := true, laidKinds := [.data, .pinned], laidTests := true, laidLooks := .later }
def RecipeWritesUptoCardSaid : Prop := Claim7.holds Tryd.pinned (.plain (OpenSpec.upto recipeWritesSpec)) recipeWritesUptoCard

/-- THE SECOND FORM's CARD OF 'apiarylaw07.RecipeBack'. -/
def recipeBackUptoCard : Claim7 := { stood := { row := recipeBackUptoRow, standIns := [], harness := (true, "4743824298a722cba0d75cb32a9803a154145fdf30a4c59f213c4b4fc7c78538"), looks := false }, kinds := [], alts := [], laidByText := true, laidKinds := [.data, .pinned], laidTests := true, laidLooks := .later }
def RecipeBackUptoCardSaid : Prop := Claim7.holds Tryd.pinned (.plain (OpenSpec.upto recipeBackSpec)) recipeBackUptoCard

/-- THE SECOND FORM's CARD OF 'apiarylaw07.RecipeParts'. -/
def recipePartsUptoCard : Claim7 := { stood := { row := recipePartsUptoRow, standIns := [], harness := (true, "4743824298a722cba0d75cb32a9803a154145fdf30a4c59f213c4b4fc7c78538"), looks := false }, kinds := [], alts := [], laidByText := true, laidKinds := [.data, .pinned], laidTests := true, laidLooks := .later }
def RecipePartsUptoCardSaid : Prop := Claim7.holds Tryd.pinned (.plain (OpenSpec.upto recipePartsSpec)) recipePartsUptoCard
end Rows
end Go.Proofs.YtbaipdhgjalgoaaDoor
