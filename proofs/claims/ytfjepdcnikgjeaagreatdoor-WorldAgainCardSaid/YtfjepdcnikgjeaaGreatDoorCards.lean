/-
  DERIVED. GIVEN WITH THE SEED: THE CARDS: each row of YtfjepdcnikgjeaaGreatDoorRows.lean that lists a variable, with what it lists TIED to the program's text (the seventh form; the later family's looks); each row that meets fmt, with fmt's text TOLD by the authors' own Lean function (tested against real Go, not proved from fmt's source: count such statements apart). THE CARD IS WHAT COUNTS. Prove the row's statement (the work); the ties are given (YtfjepdcnikgjeaaGreatDoorTie.lean); close each card by the builder's one call (the guide's Derived/Test/ToyasCard.lean, 'card_holds'). Laid BY PROGRAM, IN A SANDBOX (cutbox-door.mjs). By AI agents, Wed Nov 11 2026. No macro, syntax, notation, axiom, sorry.
-/
import Derived.Test.YtfjepdcnikgjeaaGreatDoorRows
import GoSem.ClaimSeven
namespace Go.Proofs.YtfjepdcnikgjeaaGreatDoor
namespace Rows

/-- THE TIED CARD OF 'hostlerlaw24.BoundNumbers'. -/
def boundNumbersCard : Claim7 := { stood := { row := boundNumbersRow, standIns := [], harness := (true, "e9c3564545903b0c8d8c00eff618afc2b14d3299d3fbd1596ba58985a1aaf1a4"), looks := true }, kinds := [], alts := [], laidByText := true, laidKinds := [.data, .widerDeep, .data, .widerDeep], laidTests := true, laidLooks := .later }
def BoundNumbersCardSaid : Prop := Claim7.holds Tryz.pinned (.plain (OpenSpec.ofChange boundNumbersSpec)) boundNumbersCard

/-- THE TIED CARD OF 'hostlerlaw28.ExploreApart'. -/
def exploreApartCard : Claim7 := { stood := { row := exploreApartRow, standIns := [], harness := (true, "e9c3564545903b0c8d8c00eff618afc2b14d3299d3fbd1596ba58985a1aaf1a4"), looks := true }, kinds := [], alts := [], laidByText := true, laidKinds := [.data, .widerDeep, .data, .widerDeep], laidTests := true, laidLooks := .later }
def ExploreApartCardSaid : Prop := Claim7.holds Tryz.pinned (.plain (OpenSpec.ofChange exploreApartSpec)) exploreApartCard

/-- THE TIED CARD OF 'hostlerlaw28.ExploreOrders'. -/
def exploreOrdersCard : Claim7 := { stood := { row := exploreOrdersRow, standIns := [], harness := (true, "e9c3564545903b0c8d8c00eff618afc2b14d3299d3fbd1596ba58985a1aaf1a4"), looks := true }, kinds := [], alts := [], laidByText := true, laidKinds := [.data, .widerDeep, .data, .widerDeep], laidTests := true, laidLooks := .later }
def ExploreOrdersCardSaid : Prop := Claim7.holds Tryz.pinned (.plain (OpenSpec.ofChange exploreOrdersSpec)) exploreOrdersCard

/-- THE TIED CARD OF 'hostlerlaw26.BoxedMust'. -/
def boxedMustCard : Claim7 := { stood := { row := boxedMustRow, standIns := [], harness := (true, "e9c3564545903b0c8d8c00eff618afc2b14d3299d3fbd1596ba58985a1aaf1a4"), looks := true }, kinds := [], alts := [], laidByText := true, laidKinds := [.data, .widerDeep, .data, .widerDeep], laidTests := true, laidLooks := .later }
def BoxedMustCardSaid : Prop := Claim7.holds Tryz.pinned (.plain (OpenSpec.ofChange boxedMustSpec)) boxedMustCard

/-- THE TIED CARD OF 'hostlerlaw20.WorldAgain'. -/
def worldAgainCard : Claim7 := { stood := { row := worldAgainRow, standIns := [], harness := (true, "e9c3564545903b0c8d8c00eff618afc2b14d3299d3fbd1596ba58985a1aaf1a4"), looks := true }, kinds := [], alts := [], laidByText := true, laidKinds := [.data, .widerDeep, .data, .widerDeep], laidTests := true, laidLooks := .later }
def WorldAgainCardSaid : Prop := Claim7.holds Tryz.pinned (.plain (OpenSpec.ofChange worldAgainSpec)) worldAgainCard

/-- THE TIED CARD OF 'hostlerlaw27.TallyJoins'. -/
def tallyJoinsCard : Claim7 := { stood := { row := tallyJoinsRow, standIns := [], harness := (true, "e9c3564545903b0c8d8c00eff618afc2b14d3299d3fbd1596ba58985a1aaf1a4"), looks := true }, kinds := [], alts := [], laidByText := true, laidKinds := [.data, .widerDeep, .data, .widerDeep], laidTests := true, laidLooks := .later }
def TallyJoinsCardSaid : Prop := Claim7.holds Tryz.pinned (.plain (OpenSpec.ofChange tallyJoinsSpec)) tallyJoinsCard

/-- THE TIED CARD OF 'hostlerlaw22.RoundUntil'. -/
def roundUntilCard : Claim7 := { stood := { row := roundUntilRow, standIns := [], harness := (true, "e9c3564545903b0c8d8c00eff618afc2b14d3299d3fbd1596ba58985a1aaf1a4"), looks := true }, kinds := [], alts := [], laidByText := true, laidKinds := [.data, .widerDeep, .data, .widerDeep], laidTests := true, laidLooks := .later }
def RoundUntilCardSaid : Prop := Claim7.holds Tryz.pinned (.plain (OpenSpec.ofChange roundUntilSpec)) roundUntilCard

/-- THE TIED CARD OF 'hostlerlaw26.BoxedTexts'. -/
def boxedTextsCard : Claim7 := { stood := { row := boxedTextsRow, standIns := [], harness := (true, "e9c3564545903b0c8d8c00eff618afc2b14d3299d3fbd1596ba58985a1aaf1a4"), looks := true }, kinds := [], alts := [], laidByText := true, laidKinds := [.data, .widerDeep, .data, .widerDeep], laidTests := true, laidLooks := .later }
def BoxedTextsCardSaid : Prop := Claim7.holds Tryz.pinned (.plain (OpenSpec.ofChange boxedTextsSpec)) boxedTextsCard

/-- THE TIED CARD OF 'hostlerlaw26.BoxedSteps'. -/
def boxedStepsCard : Claim7 := { stood := { row := boxedStepsRow, standIns := [], harness := (true, "e9c3564545903b0c8d8c00eff618afc2b14d3299d3fbd1596ba58985a1aaf1a4"), looks := true }, kinds := [], alts := [], laidByText := true, laidKinds := [.data, .widerDeep, .data, .widerDeep], laidTests := true, laidLooks := .later }
def BoxedStepsCardSaid : Prop := Claim7.holds Tryz.pinned (.plain (OpenSpec.ofChange boxedStepsSpec)) boxedStepsCard

/-- THE TIED CARD OF 'hostlerlaw20.WorldConfigs'. -/
def worldConfigsCard : Claim7 := { stood := { row := worldConfigsRow, standIns := [], harness := (true, "e9c3564545903b0c8d8c00eff618afc2b14d3299d3fbd1596ba58985a1aaf1a4"), looks := true }, kinds := [], alts := [], laidByText := true, laidKinds := [.data, .widerDeep, .data, .widerDeep], laidTests := true, laidLooks := .later }
def WorldConfigsCardSaid : Prop := Claim7.holds Tryz.pinned (.plain (OpenSpec.ofChange worldConfigsSpec)) worldConfigsCard

/-- THE TIED CARD OF 'hostlerlaw20.WorldModel'. -/
def worldModelCard : Claim7 := { stood := { row := worldModelRow, standIns := [], harness := (true, "e9c3564545903b0c8d8c00eff618afc2b14d3299d3fbd1596ba58985a1aaf1a4"), looks := true }, kinds := [], alts := [], laidByText := true, laidKinds := [.data, .widerDeep, .data, .widerDeep], laidTests := true, laidLooks := .later }
def WorldModelCardSaid : Prop := Claim7.holds Tryz.pinned (.plain (OpenSpec.ofChange worldModelSpec)) worldModelCard

/-- THE TIED CARD OF 'hostlerlaw27.TallyRows'. -/
def tallyRowsCard : Claim7 := { stood := { row := tallyRowsRow, standIns := [], harness := (true, "e9c3564545903b0c8d8c00eff618afc2b14d3299d3fbd1596ba58985a1aaf1a4"), looks := true }, kinds := [], alts := [], laidByText := true, laidKinds := [.data, .widerDeep, .data, .widerDeep], laidTests := true, laidLooks := .later }
def TallyRowsCardSaid : Prop := Claim7.holds Tryz.pinned (.plain (OpenSpec.ofChange tallyRowsSpec)) tallyRowsCard

/-- THE SECOND FORM's CARD OF 'hostlerlaw24.BoundNumbers'. -/
def boundNumbersUptoCard : Claim7 := { stood := { row := boundNumbersUptoRow, standIns := [], harness := (true, "e9c3564545903b0c8d8c00eff618afc2b14d3299d3fbd1596ba58985a1aaf1a4"), looks := true }, kinds := [], alts := [], laidByText := true, laidKinds := [.data, .widerDeep, .data, .widerDeep], laidTests := true, laidLooks := .later }
def BoundNumbersUptoCardSaid : Prop := Claim7.holds Tryz.pinned (.plain (OpenSpec.upto boundNumbersSpec)) boundNumbersUptoCard

/-- THE SECOND FORM's CARD OF 'hostlerlaw28.ExploreApart'. -/
def exploreApartUptoCard : Claim7 := { stood := { row := exploreApartUptoRow, standIns := [], harness := (true, "e9c3564545903b0c8d8c00eff618afc2b14d3299d3fbd1596ba58985a1aaf1a4"), looks := true }, kinds := [], alts := [], laidByText := true, laidKinds := [.data, .widerDeep, .data, .widerDeep], laidTests := true, laidLooks := .later }
def ExploreApartUptoCardSaid : Prop := Claim7.holds Tryz.pinned (.plain (OpenSpec.upto exploreApartSpec)) exploreApartUptoCard

/-- THE SECOND FORM's CARD OF 'hostlerlaw28.ExploreOrders'. -/
def exploreOrdersUptoCard : Claim7 := { stood := { row := exploreOrdersUptoRow, standIns := [], harness := (true, "e9c3564545903b0c8d8c00eff618afc2b14d3299d3fbd1596ba58985a1aaf1a4"), looks := true }, kinds := [], alts := [], laidByText := true, laidKinds := [.data, .widerDeep, .data, .widerDeep], laidTests := true, laidLooks := .later }
def ExploreOrdersUptoCardSaid : Prop := Claim7.holds Tryz.pinned (.plain (OpenSpec.upto exploreOrdersSpec)) exploreOrdersUptoCard

/-- THE SECOND FORM's CARD OF 'hostlerlaw26.BoxedMust'. -/
def boxedMustUptoCard : Claim7 := { stood := { row := boxedMustUptoRow, standIns := [], harness := (true, "e9c3564545903b0c8d8c00eff618afc2b14d3299d3fbd1596ba58985a1aaf1a4"), looks := true }, kinds := [], alts := [], laidByText := true, laidKinds := [.data, .widerDeep, .data, .widerDeep], laidTests := true, laidLooks := .later }
def BoxedMustUptoCardSaid : Prop := Claim7.holds Tryz.pinned (.plain (OpenSpec.upto boxedMustSpec)) boxedMustUptoCard

/-- THE SECOND FORM's CARD OF 'hostlerlaw20.WorldAgain'. -/
def worldAgainUptoCard : Claim7 := { stood := { row := worldAgainUptoRow, standIns := [], harness := (true, "e9c3564545903b0c8d8c00eff618afc2b14d3299d3fbd1596ba58985a1aaf1a4"), looks := true }, kinds := [], alts := [], laidByText := true, laidKinds := [.data, .widerDeep, .data, .widerDeep], laidTests := true, laidLooks := .later }
def WorldAgainUptoCardSaid : Prop := Claim7.holds Tryz.pinned (.plain (OpenSpec.upto worldAgainSpec)) worldAgainUptoCard

/-- THE SECOND FORM's CARD OF 'hostlerlaw27.TallyJoins'. -/
def tallyJoinsUptoCard : Claim7 := { stood := { row := tallyJoinsUptoRow, standIns := [], harness := (true, "e9c3564545903b0c8d8c00eff618afc2b14d3299d3fbd1596ba58985a1aaf1a4"), looks := true }, kinds := [], alts := [], laidByText := true, laidKinds := [.data, .widerDeep, .data, .widerDeep], laidTests := true, laidLooks := .later }
def TallyJoinsUptoCardSaid : Prop := Claim7.holds Tryz.pinned (.plain (OpenSpec.upto tallyJoinsSpec)) tallyJoinsUptoCard

/-- THE SECOND FORM's CARD OF 'hostlerlaw22.RoundUntil'. -/
def roundUntilUptoCard : Claim7 := { stood := { row := roundUntilUptoRow, standIns := [], harness := (true, "e9c3564545903b0c8d8c00eff618afc2b14d3299d3fbd1596ba58985a1aaf1a4"), looks := true }, kinds := [], alts := [], laidByText := true, laidKinds := [.data, .widerDeep, .data, .widerDeep], laidTests := true, laidLooks := .later }
def RoundUntilUptoCardSaid : Prop := Claim7.holds Tryz.pinned (.plain (OpenSpec.upto roundUntilSpec)) roundUntilUptoCard

/-- THE SECOND FORM's CARD OF 'hostlerlaw26.BoxedTexts'. -/
def boxedTextsUptoCard : Claim7 := { stood := { row := boxedTextsUptoRow, standIns := [], harness := (true, "e9c3564545903b0c8d8c00eff618afc2b14d3299d3fbd1596ba58985a1aaf1a4"), looks := true }, kinds := [], alts := [], laidByText := true, laidKinds := [.data, .widerDeep, .data, .widerDeep], laidTests := true, laidLooks := .later }
def BoxedTextsUptoCardSaid : Prop := Claim7.holds Tryz.pinned (.plain (OpenSpec.upto boxedTextsSpec)) boxedTextsUptoCard

/-- THE SECOND FORM's CARD OF 'hostlerlaw26.BoxedSteps'. -/
def boxedStepsUptoCard : Claim7 := { stood := { row := boxedStepsUptoRow, standIns := [], harness := (true, "e9c3564545903b0c8d8c00eff618afc2b14d3299d3fbd1596ba58985a1aaf1a4"), looks := true }, kinds := [], alts := [], laidByText := true, laidKinds := [.data, .widerDeep, .data, .widerDeep], laidTests := true, laidLooks := .later }
def BoxedStepsUptoCardSaid : Prop := Claim7.holds Tryz.pinned (.plain (OpenSpec.upto boxedStepsSpec)) boxedStepsUptoCard

/-- THE SECOND FORM's CARD OF 'hostlerlaw20.WorldConfigs'. -/
def worldConfigsUptoCard : Claim7 := { stood := { row := worldConfigsUptoRow, standIns := [], harness := (true, "e9c3564545903b0c8d8c00eff618afc2b14d3299d3fbd1596ba58985a1aaf1a4"), looks := true }, kinds := [], alts := [], laidByText := true, laidKinds := [.data, .widerDeep, .data, .widerDeep], laidTests := true, laidLooks := .later }
def WorldConfigsUptoCardSaid : Prop := Claim7.holds Tryz.pinned (.plain (OpenSpec.upto worldConfigsSpec)) worldConfigsUptoCard

/-- THE SECOND FORM's CARD OF 'hostlerlaw20.WorldModel'. -/
def worldModelUptoCard : Claim7 := { stood := { row := worldModelUptoRow, standIns := [], harness := (true, "e9c3564545903b0c8d8c00eff618afc2b14d3299d3fbd1596ba58985a1aaf1a4"), looks := true }, kinds := [], alts := [], laidByText := true, laidKinds := [.data, .widerDeep, .data, .widerDeep], laidTests := true, laidLooks := .later }
def WorldModelUptoCardSaid : Prop := Claim7.holds Tryz.pinned (.plain (OpenSpec.upto worldModelSpec)) worldModelUptoCard

/-- THE SECOND FORM's CARD OF 'hostlerlaw27.TallyRows'. -/
def tallyRowsUptoCard : Claim7 := { stood := { row := tallyRowsUptoRow, standIns := [], harness := (true, "e9c3564545903b0c8d8c00eff618afc2b14d3299d3fbd1596ba58985a1aaf1a4"), looks := true }, kinds := [], alts := [], laidByText := true, laidKinds := [.data, .widerDeep, .data, .widerDeep], laidTests := true, laidLooks := .later }
def TallyRowsUptoCardSaid : Prop := Claim7.holds Tryz.pinned (.plain (OpenSpec.upto tallyRowsSpec)) tallyRowsUptoCard
end Rows
end Go.Proofs.YtfjepdcnikgjeaaGreatDoor
