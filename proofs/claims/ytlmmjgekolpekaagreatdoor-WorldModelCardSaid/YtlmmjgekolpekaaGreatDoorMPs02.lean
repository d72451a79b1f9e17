/-
  hostler/hostlerlaw20.WorldModel: for every input the law returns true: the card.
  Conditions: none.
-/
import Derived.Test.YtlmmjgekolpekaaGreatDoorMPs01
import Derived.Test.YtlmmjgekolpekaaGreatDoorWorldModelS
import Derived.Test.YtlmmjgekolpekaaGreatDoorWorldModelT
set_option linter.unusedVariables false
set_option linter.unusedSimpArgs false
set_option linter.unusedSectionVars false
set_option maxRecDepth 100000
set_option maxHeartbeats 6400000
namespace Go.Proofs.YtlmmjgekolpekaaGreatDoor.worldModel
open Go Go.ChangeShapes Go.WideShapes Go.ChangeAt Go.RowKit Go.Proofs
theorem said:Rows.WorldModelSaid:=said_of lifted
theorem card:Rows.WorldModelCardSaid:=card_of said
end Go.Proofs.YtlmmjgekolpekaaGreatDoor.worldModel
