/-
  hostler/hostlerlaw22.RoundHabits: for every input the law returns true: the card.
  Conditions: none.
-/
import Derived.Test.YtlmmjgekolpekaaGreatDoorMHr02
import Derived.Test.YtlmmjgekolpekaaGreatDoorRoundHabitsS
import Derived.Test.YtlmmjgekolpekaaGreatDoorRoundHabitsT
set_option linter.unusedVariables false
set_option linter.unusedSimpArgs false
set_option linter.unusedSectionVars false
set_option maxRecDepth 100000
set_option maxHeartbeats 6400000
namespace Go.Proofs.YtlmmjgekolpekaaGreatDoor.roundHabits
open Go Go.ChangeShapes Go.WideShapes Go.ChangeAt Go.RowKit Go.Proofs
theorem said:Rows.RoundHabitsSaid:=said_of lifted
theorem card:Rows.RoundHabitsCardSaid:=card_of said
end Go.Proofs.YtlmmjgekolpekaaGreatDoor.roundHabits
