/-
  DERIVED. GIVEN WITH THE SEED: THE CARDS: each row of YthglfmacjoecgaaGreatDoorRows.lean that lists a variable, with what it lists TIED to the program's text (the seventh form; the later family's looks); each row that meets fmt, with fmt's text TOLD by the authors' own Lean function (tested against real Go, not proved from fmt's source: count such statements apart). THE CARD IS WHAT COUNTS. Prove the row's statement (the work); the ties are given (YthglfmacjoecgaaGreatDoorTie.lean); close each card by the builder's one call (the guide's Derived/Test/ToyasCard.lean, 'card_holds'). Laid BY PROGRAM, IN A SANDBOX (cutbox-door.mjs). By AI agents, Wed Nov 11 2026. No macro, syntax, notation, axiom, sorry.
-/
import Derived.Test.YthglfmacjoecgaaGreatDoorRows
import GoSem.ClaimSeven
namespace Go.Proofs.YthglfmacjoecgaaGreatDoor
namespace Rows

/-- THE TIED CARD OF 'apiarylaw09.OvenBuilds'. -/
def ovenBuildsCard : Claim7 := { stood := { row := ovenBuildsRow, standIns := [], harness := (true, "4c0b5f8aa35c443ae113a5305c70cb5386d3c9b7605e7ab0accc202802e1c5bb"), looks := false }, kinds := [], alts := [], laidByText := true, laidKinds := [.data, .data, .data, .data, .data, .pinned], laidTests := true, laidLooks := .later }
def OvenBuildsCardSaid : Prop := Claim7.holds Tryz.pinned (.plain (OpenSpec.ofChange ovenBuildsSpec)) ovenBuildsCard

/-- THE TIED CARD OF 'apiarylaw09.OvenRuns'. -/
def ovenRunsCard : Claim7 := { stood := { row := ovenRunsRow, standIns := [], harness := (true, "4c0b5f8aa35c443ae113a5305c70cb5386d3c9b7605e7ab0accc202802e1c5bb"), looks := false }, kinds := [], alts := [], laidByText := true, laidKinds := [.data, .data, .data, .data, .data, .pinned], laidTests := true, laidLooks := .later }
def OvenRunsCardSaid : Prop := Claim7.holds Tryz.pinned (.plain (OpenSpec.ofChange ovenRunsSpec)) ovenRunsCard

/-- THE TIED CARD OF 'apiarylaw09.OvenNames'. -/
def ovenNamesCard : Claim7 := { stood := { row := ovenNamesRow, standIns := [], harness := (true, "4c0b5f8aa35c443ae113a5305c70cb5386d3c9b7605e7ab0accc202802e1c5bb"), looks := false }, kinds := [], alts := [], laidByText := true, laidKinds := [.data, .data, .data, .data, .data, .pinned], laidTests := true, laidLooks := .later }
def OvenNamesCardSaid : Prop := Claim7.holds Tryz.pinned (.plain (OpenSpec.ofChange ovenNamesSpec)) ovenNamesCard

/-- THE TIED CARD OF 'apiarylaw09.OvenApart'. -/
def ovenApartCard : Claim7 := { stood := { row := ovenApartRow, standIns := [], harness := (true, "4c0b5f8aa35c443ae113a5305c70cb5386d3c9b7605e7ab0accc202802e1c5bb"), looks := false }, kinds := [], alts := [], laidByText := true, laidKinds := [.data, .data, .data, .data, .data, .pinned], laidTests := true, laidLooks := .later }
def OvenApartCardSaid : Prop := Claim7.holds Tryz.pinned (.plain (OpenSpec.ofChange ovenApartSpec)) ovenApartCard

/-- THE TIED CARD OF 'apiarylaw09.OvenKeys'. -/
def ovenKeysCard : Claim7 := { stood := { row := ovenKeysRow, standIns := [], harness := (true, "4c0b5f8aa35c443ae113a5305c70cb5386d3c9b7605e7ab0accc202802e1c5bb"), looks := false }, kinds := [], alts := [], laidByText := true, laidKinds := [.data, .data, .data, .data, .data, .pinned], laidTests := true, laidLooks := .later }
def OvenKeysCardSaid : Prop := Claim7.holds Tryz.pinned (.plain (OpenSpec.ofChange ovenKeysSpec)) ovenKeysCard

/-- THE TIED CARD OF 'apiarylaw09.OvenRecords'. -/
def ovenRecordsCard : Claim7 := { stood := { row := ovenRecordsRow, standIns := [], harness := (true, "4c0b5f8aa35c443ae113a5305c70cb5386d3c9b7605e7ab0accc202802e1c5bb"), looks := false }, kinds := [], alts := [], laidByText := true, laidKinds := [.data, .data, .data, .data, .data, .pinned], laidTests := true, laidLooks := .later }
def OvenRecordsCardSaid : Prop := Claim7.holds Tryz.pinned (.plain (OpenSpec.ofChange ovenRecordsSpec)) ovenRecordsCard

/-- THE TIED CARD OF 'apiarylaw09.OvenClean'. -/
def ovenCleanCard : Claim7 := { stood := { row := ovenCleanRow, standIns := [], harness := (true, "4c0b5f8aa35c443ae113a5305c70cb5386d3c9b7605e7ab0accc202802e1c5bb"), looks := false }, kinds := [], alts := [], laidByText := true, laidKinds := [.data, .data, .data, .data, .data, .pinned], laidTests := true, laidLooks := .later }
def OvenCleanCardSaid : Prop := Claim7.holds Tryz.pinned (.plain (OpenSpec.ofChange ovenCleanSpec)) ovenCleanCard

/-- THE TIED CARD OF 'apiarylaw21.BakerRefuses'. -/
def bakerRefusesCard : Claim7 := { stood := { row := bakerRefusesRow, standIns := [], harness := (true, "4c0b5f8aa35c443ae113a5305c70cb5386d3c9b7605e7ab0accc202802e1c5bb"), looks := false }, kinds := [], alts := [], laidByText := true, laidKinds := [.data, .data, .data, .data, .data, .pinned], laidTests := true, laidLooks := .later }
def BakerRefusesCardSaid : Prop := Claim7.holds Tryz.pinned (.plain (OpenSpec.ofChange bakerRefusesSpec)) bakerRefusesCard

/-- THE TIED CARD OF 'apiarylaw21.BakerExact'. -/
def bakerExactCard : Claim7 := { stood := { row := bakerExactRow, standIns := [], harness := (true, "4c0b5f8aa35c443ae113a5305c70cb5386d3c9b7605e7ab0accc202802e1c5bb"), looks := false }, kinds := [], alts := [], laidByText := true, laidKinds := [.data, .data, .data, .data, .data, .pinned], laidTests := true, laidLooks := .later }
def BakerExactCardSaid : Prop := Claim7.holds Tryz.pinned (.plain (OpenSpec.ofChange bakerExactSpec)) bakerExactCard

/-- THE TIED CARD OF 'apiarylaw21.BakerAnew'. -/
def bakerAnewCard : Claim7 := { stood := { row := bakerAnewRow, standIns := [], harness := (true, "4c0b5f8aa35c443ae113a5305c70cb5386d3c9b7605e7ab0accc202802e1c5bb"), looks := false }, kinds := [], alts := [], laidByText := true, laidKinds := [.data, .data, .data, .data, .data, .pinned], laidTests := true, laidLooks := .later }
def BakerAnewCardSaid : Prop := Claim7.holds Tryz.pinned (.plain (OpenSpec.ofChange bakerAnewSpec)) bakerAnewCard

/-- THE TIED CARD OF 'apiarylaw21.BakerBakes'. -/
def bakerBakesCard : Claim7 := { stood := { row := bakerBakesRow, standIns := [], harness := (true, "4c0b5f8aa35c443ae113a5305c70cb5386d3c9b7605e7ab0accc202802e1c5bb"), looks := false }, kinds := [], alts := [], laidByText := true, laidKinds := [.data, .data, .data, .data, .data, .pinned], laidTests := true, laidLooks := .later }
def BakerBakesCardSaid : Prop := Claim7.holds Tryz.pinned (.plain (OpenSpec.ofChange bakerBakesSpec)) bakerBakesCard

/-- THE TIED CARD OF 'apiarylaw21.BakerOrders'. -/
def bakerOrdersCard : Claim7 := { stood := { row := bakerOrdersRow, standIns := [], harness := (true, "4c0b5f8aa35c443ae113a5305c70cb5386d3c9b7605e7ab0accc202802e1c5bb"), looks := false }, kinds := [], alts := [], laidByText := true, laidKinds := [.data, .data, .data, .data, .data, .pinned], laidTests := true, laidLooks := .later }
def BakerOrdersCardSaid : Prop := Claim7.holds Tryz.pinned (.plain (OpenSpec.ofChange bakerOrdersSpec)) bakerOrdersCard

/-- THE SECOND FORM's CARD OF 'apiarylaw09.OvenBuilds'. -/
def ovenBuildsUptoCard : Claim7 := { stood := { row := ovenBuildsUptoRow, standIns := [], harness := (true, "4c0b5f8aa35c443ae113a5305c70cb5386d3c9b7605e7ab0accc202802e1c5bb"), looks := false }, kinds := [], alts := [], laidByText := true, laidKinds := [.data, .data, .data, .data, .data, .pinned], laidTests := true, laidLooks := .later }
def OvenBuildsUptoCardSaid : Prop := Claim7.holds Tryz.pinned (.plain (OpenSpec.upto ovenBuildsSpec)) ovenBuildsUptoCard

/-- THE SECOND FORM's CARD OF 'apiarylaw09.OvenRuns'. -/
def ovenRunsUptoCard : Claim7 := { stood := { row := ovenRunsUptoRow, standIns := [], harness := (true, "4c0b5f8aa35c443ae113a5305c70cb5386d3c9b7605e7ab0accc202802e1c5bb"), looks := false }, kinds := [], alts := [], laidByText := true, laidKinds := [.data, .data, .data, .data, .data, .pinned], laidTests := true, laidLooks := .later }
def OvenRunsUptoCardSaid : Prop := Claim7.holds Tryz.pinned (.plain (OpenSpec.upto ovenRunsSpec)) ovenRunsUptoCard

/-- THE SECOND FORM's CARD OF 'apiarylaw09.OvenNames'. -/
def ovenNamesUptoCard : Claim7 := { stood := { row := ovenNamesUptoRow, standIns := [], harness := (true, "4c0b5f8aa35c443ae113a5305c70cb5386d3c9b7605e7ab0accc202802e1c5bb"), looks := false }, kinds := [], alts := [], laidByText := true, laidKinds := [.data, .data, .data, .data, .data, .pinned], laidTests := true, laidLooks := .later }
def OvenNamesUptoCardSaid : Prop := Claim7.holds Tryz.pinned (.plain (OpenSpec.upto ovenNamesSpec)) ovenNamesUptoCard

/-- THE SECOND FORM's CARD OF 'apiarylaw09.OvenApart'. -/
def ovenApartUptoCard : Claim7 := { stood := { row := ovenApartUptoRow, standIns := [], harness := (true, "4c0b5f8aa35c443ae113a5305c70cb5386d3c9b7605e7ab0accc202802e1c5bb"), looks := false }, kinds := [], alts := [], laidByText := true, laidKinds := [.data, .data, .data, .data, .data, .pinned], laidTests := true, laidLooks := .later }
def OvenApartUptoCardSaid : Prop := Claim7.holds Tryz.pinned (.plain (OpenSpec.upto ovenApartSpec)) ovenApartUptoCard

/-- THE SECOND FORM's CARD OF 'apiarylaw09.OvenKeys'. -/
def ovenKeysUptoCard : Claim7 := { stood := { row := ovenKeysUptoRow, standIns := [], harness := (true, "4c0b5f8aa35c443ae113a5305c70cb5386d3c9b7605e7ab0accc202802e1c5bb"), looks := false }, kinds := [], alts := [], laidByText := true, laidKinds := [.data, .data, .data, .data, .data, .pinned], laidTests := true, laidLooks := .later }
def OvenKeysUptoCardSaid : Prop := Claim7.holds Tryz.pinned (.plain (OpenSpec.upto ovenKeysSpec)) ovenKeysUptoCard

/-- THE SECOND FORM's CARD OF 'apiarylaw09.OvenRecords'. -/
def ovenRecordsUptoCard : Claim7 := { stood := { row := ovenRecordsUptoRow, standIns := [], harness := (true, "4c0b5f8aa35c443ae113a5305c70cb5386d3c9b7605e7ab0accc202802e1c5bb"), looks := false }, kinds := [], alts := [], laidByText := true, laidKinds := [.data, .data, .data, .data, .data, .pinned], laidTests := true, laidLooks := .later }
def OvenRecordsUptoCardSaid : Prop := Claim7.holds Tryz.pinned (.plain (OpenSpec.upto ovenRecordsSpec)) ovenRecordsUptoCard

/-- THE SECOND FORM's CARD OF 'apiarylaw09.OvenClean'. -/
def ovenCleanUptoCard : Claim7 := { stood := { row := ovenCleanUptoRow, standIns := [], harness := (true, "4c0b5f8aa35c443ae113a5305c70cb5386d3c9b7605e7ab0accc202802e1c5bb"), looks := false }, kinds := [], alts := [], laidByText := true, laidKinds := [.data, .data, .data, .data, .data, .pinned], laidTests := true, laidLooks := .later }
def OvenCleanUptoCardSaid : Prop := Claim7.holds Tryz.pinned (.plain (OpenSpec.upto ovenCleanSpec)) ovenCleanUptoCard

/-- THE SECOND FORM's CARD OF 'apiarylaw21.BakerRefuses'. -/
def bakerRefusesUptoCard : Claim7 := { stood := { row := bakerRefusesUptoRow, standIns := [], harness := (true, "4c0b5f8aa35c443ae113a5305c70cb5386d3c9b7605e7ab0accc202802e1c5bb"), looks := false }, kinds := [], alts := [], laidByText := true, laidKinds := [.data, .data, .data, .data, .data, .pinned], laidTests := true, laidLooks := .later }
def BakerRefusesUptoCardSaid : Prop := Claim7.holds Tryz.pinned (.plain (OpenSpec.upto bakerRefusesSpec)) bakerRefusesUptoCard

/-- THE SECOND FORM's CARD OF 'apiarylaw21.BakerExact'. -/
def bakerExactUptoCard : Claim7 := { stood := { row := bakerExactUptoRow, standIns := [], harness := (true, "4c0b5f8aa35c443ae113a5305c70cb5386d3c9b7605e7ab0accc202802e1c5bb"), looks := false }, kinds := [], alts := [], laidByText := true, laidKinds := [.data, .data, .data, .data, .data, .pinned], laidTests := true, laidLooks := .later }
def BakerExactUptoCardSaid : Prop := Claim7.holds Tryz.pinned (.plain (OpenSpec.upto bakerExactSpec)) bakerExactUptoCard

/-- THE SECOND FORM's CARD OF 'apiarylaw21.BakerAnew'. -/
def bakerAnewUptoCard : Claim7 := { stood := { row := bakerAnewUptoRow, standIns := [], harness := (true, "4c0b5f8aa35c443ae113a5305c70cb5386d3c9b7605e7ab0accc202802e1c5bb"), looks := false }, kinds := [], alts := [], laidByText := true, laidKinds := [.data, .data, .data, .data, .data, .pinned], laidTests := true, laidLooks := .later }
def BakerAnewUptoCardSaid : Prop := Claim7.holds Tryz.pinned (.plain (OpenSpec.upto bakerAnewSpec)) bakerAnewUptoCard

/-- THE SECOND FORM's CARD OF 'apiarylaw21.BakerBakes'. -/
def bakerBakesUptoCard : Claim7 := { stood := { row := bakerBakesUptoRow, standIns := [], harness := (true, "4c0b5f8aa35c443ae113a5305c70cb5386d3c9b7605e7ab0accc202802e1c5bb"), looks := false }, kinds := [], alts := [], laidByText := true, laidKinds := [.data, .data, .data, .data, .data, .pinned], laidTests := true, laidLooks := .later }
def BakerBakesUptoCardSaid : Prop := Claim7.holds Tryz.pinned (.plain (OpenSpec.upto bakerBakesSpec)) bakerBakesUptoCard

/-- THE SECOND FORM's CARD OF 'apiarylaw21.BakerOrders'. -/
def bakerOrdersUptoCard : Claim7 := { stood := { row := bakerOrdersUptoRow, standIns := [], harness := (true, "4c0b5f8aa35c443ae113a5305c70cb5386d3c9b7605e7ab0accc202802e1c5bb"), looks := false }, kinds := [], alts := [], laidByText := true, laidKinds := [.data, .data, .data, .data, .data, .pinned], laidTests := true, laidLooks := .later }
def BakerOrdersUptoCardSaid : Prop := Claim7.holds Tryz.pinned (.plain (OpenSpec.upto bakerOrdersSpec)) bakerOrdersUptoCard
end Rows
end Go.Proofs.YthglfmacjoecgaaGreatDoor
