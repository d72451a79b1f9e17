/-
  hostler/hostlerlaw22.RoundUntil: for every input the law returns true: the card.
  Conditions: none.
-/
import Derived.Test.YtlmmjgekolpekaaGreatDoorMUr01
import Derived.Test.YtlmmjgekolpekaaGreatDoorRoundUntilS
import Derived.Test.YtlmmjgekolpekaaGreatDoorRoundUntilT
set_option linter.unusedVariables false
set_option linter.unusedSimpArgs false
set_option linter.unusedSectionVars false
set_option maxRecDepth 100000
set_option maxHeartbeats 6400000
namespace Go.Proofs.YtlmmjgekolpekaaGreatDoor.roundUntil
open Go Go.ChangeShapes Go.WideShapes Go.ChangeAt Go.RowKit Go.Proofs
theorem said:Rows.RoundUntilSaid:=said_of lifted
theorem card:Rows.RoundUntilCardSaid:=card_of said
end Go.Proofs.YtlmmjgekolpekaaGreatDoor.roundUntil
