/-
  hostler/hostlerlaw28.ExploreErrors: the row, said.
-/
import Derived.Test.YtpclgelilnhjpaaGreatDoorExploreErrorsA
namespace Go.Proofs.YtpclgelilnhjpaaGreatDoor.exploreErrors
open Go Go.ChangeShapes Go.WideShapes Go.ChangeAt Go.RowKit Go.Proofs

theorem and_mk {a b : Bool} (h1 : a = true) (h2 : b = true) : (a && b) = true := by rw [h1, h2]; rfl
set_option maxHeartbeats 40000000 in
theorem closed : joinedFacts Tryz.pinned.checked.prog 6 Tryz.f6 (OpenSpec.ofChange Rows.exploreErrorsSpec).bare Rows.exploreErrorsRow = true := by
  unfold joinedFacts
  repeat' (with_reducible apply and_mk)
  all_goals (as_aux_lemma => kernel_rfl)

set_option maxHeartbeats 40000000 in
theorem said : Rows.ExploreErrorsSaid :=
  OpenClaim.holds_of_cond 6 Tryz.f6 rfl rfl rfl rfl rfl rfl rfl ⟨rfl, rfl, rfl, rfl, rfl⟩ rfl rfl rfl rfl rfl (by as_aux_lemma => kernel_rfl) Tryz.func6 closed
    (of_decide_eq_true (by as_aux_lemma => kernel_rfl)) (by unfold Func.isWrapper; first | (rw [if_pos (by decide +kernel)]; kernel_rfl) | (rw [if_neg (by decide +kernel)]; exact ⟨rfl, rfl⟩))
    (fun os started H enc _ F => by rw [OpenClaim.pre_eq_preRow]; exact lifted os started H enc F)
end Go.Proofs.YtpclgelilnhjpaaGreatDoor.exploreErrors
