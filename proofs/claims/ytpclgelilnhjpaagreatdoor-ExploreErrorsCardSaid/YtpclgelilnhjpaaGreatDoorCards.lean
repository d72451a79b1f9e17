/-
  DERIVED. GIVEN WITH THE SEED: THE CARDS: each row of YtpclgelilnhjpaaGreatDoorRows.lean that lists a variable, with what it lists TIED to the program's text (the seventh form; the later family's looks); each row that meets fmt, with fmt's text TOLD by the authors' own Lean function (tested against real Go, not proved from fmt's source: count such statements apart). THE CARD IS WHAT COUNTS. Prove the row's statement (the work); the ties are given (YtpclgelilnhjpaaGreatDoorTie.lean); close each card by the builder's one call (the guide's Derived/Test/ToyasCard.lean, 'card_holds'). Laid BY PROGRAM, IN A SANDBOX (cutbox-door.mjs). By AI agents, Wed Nov 11 2026. No macro, syntax, notation, axiom, sorry.
-/
import Derived.Test.YtpclgelilnhjpaaGreatDoorRows
import GoSem.ClaimSeven
namespace Go.Proofs.YtpclgelilnhjpaaGreatDoor
namespace Rows

/-- THE TIED CARD OF 'hostlerlaw23.QuietNames'. -/
def quietNamesCard : Claim7 := { stood := { row := quietNamesRow, standIns := [], harness := (true, "7e147d039d818e9503c2b7c1d7b9ce4c33c6a6dd147c5b156523f63390781743"), looks := true }, kinds := [], alts := [], laidByText := true, laidKinds := [.data, .widerDeep, .data, .widerDeep, .mapped], laidTests := true, laidLooks := .later }
def QuietNamesCardSaid : Prop := Claim7.holds Tryz.pinned (.plain (OpenSpec.ofChange quietNamesSpec)) quietNamesCard

/-- THE TIED CARD OF 'hostlerlaw21.ScriptConfigs'. -/
def scriptConfigsCard : Claim7 := { stood := { row := scriptConfigsRow, standIns := [], harness := (true, "7e147d039d818e9503c2b7c1d7b9ce4c33c6a6dd147c5b156523f63390781743"), looks := true }, kinds := [], alts := [], laidByText := true, laidKinds := [.data, .data, .data, .widerDeep, .data, .widerDeep], laidTests := true, laidLooks := .later }
def ScriptConfigsCardSaid : Prop := Claim7.holds Tryz.pinned (.plain (OpenSpec.ofChange scriptConfigsSpec)) scriptConfigsCard

/-- THE TIED CARD OF 'hostlerlaw21.ScriptParses'. -/
def scriptParsesCard : Claim7 := { stood := { row := scriptParsesRow, standIns := [], harness := (true, "7e147d039d818e9503c2b7c1d7b9ce4c33c6a6dd147c5b156523f63390781743"), looks := true }, kinds := [], alts := [], laidByText := true, laidKinds := [.data, .data, .data, .widerDeep, .data, .widerDeep], laidTests := true, laidLooks := .later }
def ScriptParsesCardSaid : Prop := Claim7.holds Tryz.pinned (.plain (OpenSpec.ofChange scriptParsesSpec)) scriptParsesCard

/-- THE TIED CARD OF 'hostlerlaw28.ExploreErrors'. -/
def exploreErrorsCard : Claim7 := { stood := { row := exploreErrorsRow, standIns := [], harness := (true, "7e147d039d818e9503c2b7c1d7b9ce4c33c6a6dd147c5b156523f63390781743"), looks := true }, kinds := [], alts := [], laidByText := true, laidKinds := [.data, .data, .data, .widerDeep, .data, .widerDeep], laidTests := true, laidLooks := .later }
def ExploreErrorsCardSaid : Prop := Claim7.holds Tryz.pinned (.plain (OpenSpec.ofChange exploreErrorsSpec)) exploreErrorsCard

/-- THE SECOND FORM's CARD OF 'hostlerlaw23.QuietNames'. -/
def quietNamesUptoCard : Claim7 := { stood := { row := quietNamesUptoRow, standIns := [], harness := (true, "7e147d039d818e9503c2b7c1d7b9ce4c33c6a6dd147c5b156523f63390781743"), looks := true }, kinds := [], alts := [], laidByText := true, laidKinds := [.data, .widerDeep, .data, .widerDeep, .mapped], laidTests := true, laidLooks := .later }
def QuietNamesUptoCardSaid : Prop := Claim7.holds Tryz.pinned (.plain (OpenSpec.upto quietNamesSpec)) quietNamesUptoCard

/-- THE SECOND FORM's CARD OF 'hostlerlaw21.ScriptConfigs'. -/
def scriptConfigsUptoCard : Claim7 := { stood := { row := scriptConfigsUptoRow, standIns := [], harness := (true, "7e147d039d818e9503c2b7c1d7b9ce4c33c6a6dd147c5b156523f63390781743"), looks := true }, kinds := [], alts := [], laidByText := true, laidKinds := [.data, .data, .data, .widerDeep, .data, .widerDeep], laidTests := true, laidLooks := .later }
def ScriptConfigsUptoCardSaid : Prop := Claim7.holds Tryz.pinned (.plain (OpenSpec.upto scriptConfigsSpec)) scriptConfigsUptoCard

/-- THE SECOND FORM's CARD OF 'hostlerlaw21.ScriptParses'. -/
def scriptParsesUptoCard : Claim7 := { stood := { row := scriptParsesUptoRow, standIns := [], harness := (true, "7e147d039d818e9503c2b7c1d7b9ce4c33c6a6dd147c5b156523f63390781743"), looks := true }, kinds := [], alts := [], laidByText := true, laidKinds := [.data, .data, .data, .widerDeep, .data, .widerDeep], laidTests := true, laidLooks := .later }
def ScriptParsesUptoCardSaid : Prop := Claim7.holds Tryz.pinned (.plain (OpenSpec.upto scriptParsesSpec)) scriptParsesUptoCard

/-- THE SECOND FORM's CARD OF 'hostlerlaw28.ExploreErrors'. -/
def exploreErrorsUptoCard : Claim7 := { stood := { row := exploreErrorsUptoRow, standIns := [], harness := (true, "7e147d039d818e9503c2b7c1d7b9ce4c33c6a6dd147c5b156523f63390781743"), looks := true }, kinds := [], alts := [], laidByText := true, laidKinds := [.data, .data, .data, .widerDeep, .data, .widerDeep], laidTests := true, laidLooks := .later }
def ExploreErrorsUptoCardSaid : Prop := Claim7.holds Tryz.pinned (.plain (OpenSpec.upto exploreErrorsSpec)) exploreErrorsUptoCard
end Rows
end Go.Proofs.YtpclgelilnhjpaaGreatDoor
