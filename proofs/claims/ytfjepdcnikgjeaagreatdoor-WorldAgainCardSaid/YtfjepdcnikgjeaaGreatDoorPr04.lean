/-
  hostler/hostlerlaw20.WorldAgain: for every input the law returns true: the card.
  Conditions: none.
-/
import Derived.Test.YtfjepdcnikgjeaaGreatDoorPr02
import Derived.Test.YtfjepdcnikgjeaaGreatDoorWorldAgainS
import Derived.Test.YtfjepdcnikgjeaaGreatDoorWorldAgainT
set_option linter.unusedVariables false
set_option linter.unusedSimpArgs false
set_option linter.unusedSectionVars false
set_option maxRecDepth 100000
set_option maxHeartbeats 40000000
namespace Go.Proofs.YtfjepdcnikgjeaaGreatDoor.worldAgain
open Go Go.ChangeShapes Go.WideShapes Go.ChangeAt Go.RowKit Go.Proofs
theorem said:Rows.WorldAgainSaid:=said_of lifted
theorem card:Rows.WorldAgainCardSaid:=card_of said
end Go.Proofs.YtfjepdcnikgjeaaGreatDoor.worldAgain
