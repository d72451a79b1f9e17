/-
  hostler/hostlerlaw22.RoundHabits: what the row asks besides the walk, for whatever proves the walk.
-/
import Derived.ChangeMaps5
import Derived.Test.YtlmmjgekolpekaaGreatDoorCards
import Derived.Test.YtlmmjgekolpekaaGreatDoorTie
import Derived.WalkKit
import Derived.ProofKit
import Derived.OpenShut
import Derived.Deep.Strs
import Derived.Deep.DeepHandedRow
import Derived.Lib.LaidTab
import Derived.Deep.DeepWitnessRowRef
set_option linter.unusedVariables false
set_option linter.unusedSimpArgs false
set_option linter.unusedSectionVars false
namespace Go.Proofs.YtlmmjgekolpekaaGreatDoor.roundHabits
open Go Go.ChangeShapes Go.WideShapes Go.ChangeAt Go.RowKit Go.Proofs

theorem and_mk {a b : Bool} (h1 : a = true) (h2 : b = true) : (a && b) = true := by rw [h1, h2]; rfl
set_option maxHeartbeats 40000000 in
theorem closed : joinedFacts Tryz.pinned.checked.prog 4 Tryz.f4 (OpenSpec.ofChange Rows.roundHabitsSpec).bare Rows.roundHabitsRow = true := by
  unfold joinedFacts
  repeat' (with_reducible apply and_mk)
  all_goals (as_aux_lemma => kernel_rfl)

set_option maxHeartbeats 40000000 in
theorem said_of (lift : ∀ (os : Os) (started : os.Started) (H : Type) (enc : TypeId × Value → H) (F : Stop.Interp), ReturnsInHanded {} Tryz.checked os 4 .any ((OpenSpec.ofChange Rows.roundHabitsSpec).preRow enc Tryz.prog Tryz.f4 Rows.roundHabitsRow.domain false Rows.roundHabitsRow.laid) (((OpenSpec.ofChange Rows.roundHabitsSpec).at F).post enc Tryz.prog Tryz.f4 false true false false)) : Rows.RoundHabitsSaid :=
  OpenClaim.holds_of_cond 4 Tryz.f4 rfl rfl rfl rfl rfl rfl rfl ⟨rfl, rfl, rfl, rfl, rfl⟩ rfl rfl rfl rfl rfl (by as_aux_lemma => kernel_rfl) Tryz.func4 closed
    (of_decide_eq_true (by as_aux_lemma => kernel_rfl)) (by unfold Func.isWrapper; first | (rw [if_pos (by decide +kernel)]; kernel_rfl) | (rw [if_neg (by decide +kernel)]; exact ⟨rfl, rfl⟩))
    (fun os started H enc _ F => by rw [OpenClaim.pre_eq_preRow]; exact lift os started H enc F)
end Go.Proofs.YtlmmjgekolpekaaGreatDoor.roundHabits
