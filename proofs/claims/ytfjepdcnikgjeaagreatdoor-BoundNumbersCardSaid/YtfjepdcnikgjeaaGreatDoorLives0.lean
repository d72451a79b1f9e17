/-
  The chapter's example: the ten steps of the smallest world.
-/
import Derived.Test.YtfjepdcnikgjeaaGreatDoorStage
set_option linter.unusedVariables false
set_option linter.unusedSimpArgs false
set_option linter.unusedSectionVars false
namespace Go.Proofs.YtfjepdcnikgjeaaGreatDoor
open Go Go.RowKit Hst Go.Proofs

def l0 : Wd := Wd.new 1 1 1
def l1 : Wd := l0.bare 0
def l2 : Wd := l1.locked 0 1
def l3 : Wd := l2.locked 0 1
def l4 : Wd := l3.locked 0 1
def l5 : Wd := l4.locked 0 1
def l6 : Wd := l5.locked 0 0
def l7 : Wd := l6.locked 0 0
def l8 : Wd := l7.locked 0 0
def l9 : Wd := l8.locked 0 0
def l10 : Wd := l9.bare 0

theorem go1 (N : Nat) : StepsTo N l0 l1 :=
  stepsTo N l0 l1 (by decide) (by decide +kernel) (by decide +kernel) (by decide +kernel) (by decide +kernel) (.inr ⟨by decide +kernel, bare_1 N l0 0 0 (by decide +kernel) (by decide +kernel) (by kernel_rfl) (by kernel_rfl)⟩)
theorem go2 (N : Nat) : StepsTo N l1 l2 :=
  stepsTo N l1 l2 (by decide +kernel) (by decide +kernel) (by decide +kernel) (by decide +kernel) (by decide +kernel) (.inl ⟨1, by kernel_rfl, locked_take N l1 0 1 (by decide +kernel) (by decide +kernel) (by kernel_rfl)⟩)
theorem go3 (N : Nat) : StepsTo N l2 l3 :=
  stepsTo N l2 l3 (by decide +kernel) (by decide +kernel) (by decide +kernel) (by decide +kernel) (by decide +kernel) (.inl ⟨1, by kernel_rfl, locked_wait N l2 0 1 (by decide +kernel) (by decide +kernel) (by kernel_rfl) (by kernel_rfl) (by kernel_rfl) (by decide +kernel)⟩)
theorem go4 (N : Nat) : StepsTo N l3 l4 :=
  stepsTo N l3 l4 (by decide +kernel) (by decide +kernel) (by decide +kernel) (by decide +kernel) (by decide +kernel) (.inl ⟨1, by kernel_rfl, locked_do N l3 0 1 (by decide +kernel) (by kernel_rfl) (by kernel_rfl) (do_local N l3 0 0 _ (by decide +kernel) (by decide +kernel) (by kernel_rfl) (by kernel_rfl)) (by decide +kernel) (by kernel_rfl)⟩)
theorem go5 (N : Nat) : StepsTo N l4 l5 :=
  stepsTo N l4 l5 (by decide +kernel) (by decide +kernel) (by decide +kernel) (by decide +kernel) (by decide +kernel) (.inl ⟨1, by kernel_rfl, locked_free N l4 0 1 (by decide +kernel) (by decide +kernel) (by kernel_rfl) (by kernel_rfl) (by kernel_rfl) (by decide +kernel) (by kernel_rfl) (then_3 N _ 0 (by decide +kernel) (by kernel_rfl) (by decide +kernel))⟩)
theorem go6 (N : Nat) : StepsTo N l5 l6 :=
  stepsTo N l5 l6 (by decide +kernel) (by decide +kernel) (by decide +kernel) (by decide +kernel) (by decide +kernel) (.inl ⟨0, by kernel_rfl, locked_take N l5 0 0 (by decide +kernel) (by decide +kernel) (by kernel_rfl)⟩)
theorem go7 (N : Nat) : StepsTo N l6 l7 :=
  stepsTo N l6 l7 (by decide +kernel) (by decide +kernel) (by decide +kernel) (by decide +kernel) (by decide +kernel) (.inl ⟨0, by kernel_rfl, locked_wait N l6 0 0 (by decide +kernel) (by decide +kernel) (by kernel_rfl) (by kernel_rfl) (by kernel_rfl) (by decide +kernel)⟩)
theorem go8 (N : Nat) : StepsTo N l7 l8 :=
  stepsTo N l7 l8 (by decide +kernel) (by decide +kernel) (by decide +kernel) (by decide +kernel) (by decide +kernel) (.inl ⟨0, by kernel_rfl, locked_do N l7 0 0 (by decide +kernel) (by kernel_rfl) (by kernel_rfl) (do_global N l7 0 _ (by decide +kernel) (by kernel_rfl) (by decide +kernel)) (by decide +kernel) (by kernel_rfl)⟩)
theorem go9 (N : Nat) : StepsTo N l8 l9 :=
  stepsTo N l8 l9 (by decide +kernel) (by decide +kernel) (by decide +kernel) (by decide +kernel) (by decide +kernel) (.inl ⟨0, by kernel_rfl, locked_free N l8 0 0 (by decide +kernel) (by decide +kernel) (by kernel_rfl) (by kernel_rfl) (by kernel_rfl) (by decide +kernel) (by kernel_rfl) (then_4 N _ 0 (by decide +kernel) (by kernel_rfl) (by decide +kernel))⟩)
theorem go10 (N : Nat) : StepsTo N l9 l10 :=
  stepsTo N l9 l10 (by decide +kernel) (by decide +kernel) (by decide +kernel) (by decide +kernel) (by decide +kernel) (.inr ⟨by decide +kernel, bare_20 N l9 0 (by decide +kernel) (by kernel_rfl) (by kernel_rfl) (by decide +kernel)⟩)

def lk : Nat → Wd
  | 0 => l0 | 1 => l1 | 2 => l2 | 3 => l3 | 4 => l4 | 5 => l5 | 6 => l6 | 7 => l7 | 8 => l8 | 9 => l9 | _ => l10
theorem go_k (N : Nat) : ∀ k, k < 10 → StepsTo N (lk k) (lk (k + 1))
  | 0, _ => go1 N | 1, _ => go2 N | 2, _ => go3 N | 3, _ => go4 N | 4, _ => go5 N | 5, _ => go6 N | 6, _ => go7 N | 7, _ => go8 N | 8, _ => go9 N | 9, _ => go10 N
  | k + 10, h => absurd h (by omega)
theorem l10_facts : (l10.mach 0).g = 0 ∧ (l10.mach 0).place = 0 ∧ l10.stat 0 = 2 ∧ l10.log.length = 2 ∧ (l10.mach 0).rest.length = 0 := ⟨by kernel_rfl, by kernel_rfl, by kernel_rfl, by kernel_rfl, by kernel_rfl⟩
end Go.Proofs.YtfjepdcnikgjeaaGreatDoor
