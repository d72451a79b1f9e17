/-
  hostler/hostlerlaw26.BoxedSteps: the card.
-/
import Derived.Test.YtfjepdcnikgjeaaGreatDoorBoxedStepsB
namespace Go.Proofs.YtfjepdcnikgjeaaGreatDoor.boxedSteps
open Go Go.ChangeShapes Go.WideShapes Go.ChangeAt Go.RowKit Go.Proofs

theorem plain (f : FuncId) (fn : Func) (hf : Tryz.pinned.checked.prog.funcNamed "hostler/hostlerlaw26.BoxedSteps" = some f) (hfn : Tryz.pinned.checked.prog.funcs[f]? = some fn) :
    true = Tryz.pinned.checked.prog.looks [] ∧ ∀ (j : Nat) t, fn.params[j]? = some t → Tryz.pinned.checked.prog.wantsStandIn t = false := by
  obtain rfl : f = 11 := Option.some.inj ((show Tryz.prog.funcNamed "hostler/hostlerlaw26.BoxedSteps" = some 11 by kernel_rfl).symm.trans hf) |>.symm
  obtain rfl : fn = Tryz.f11 := (Option.some.inj (Tryz.func11.symm.trans hfn)).symm
  refine ⟨by kernel_rfl, fun j t ht => ?_⟩
  rw [Tryz.params11] at ht
  obtain rfl : t = 47 := by simpa using Array.mem_of_getElem? ht
  exact (show Tryz.prog.wantsStandIn 47 = false by kernel_rfl)

theorem card : Rows.BoxedStepsCardSaid :=
  Claim7.holds_tied_plain_at .later [] _ _ _ _ said (fun _ h => by cases h) (by kernel_rfl) (fun _ h => by cases h) boxedSteps_row_tie rfl ⟨rfl, rfl⟩ (by kernel_rfl) rfl plain (by kernel_rfl)
end Go.Proofs.YtfjepdcnikgjeaaGreatDoor.boxedSteps
