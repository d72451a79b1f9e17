/-
  A step under a lock, by its stages; a step of the world.
-/
import Derived.Test.YtfjepdcnikgjeaaGreatDoorThen
import Derived.Test.YtfjepdcnikgjeaaGreatDoorPick
import Derived.Test.YtfjepdcnikgjeaaGreatDoorBare
set_option linter.unusedVariables false
set_option linter.unusedSimpArgs false
set_option linter.unusedSectionVars false
namespace Go.Proofs.YtfjepdcnikgjeaaGreatDoor
open Go Go.RowKit Hst Go.Proofs

theorem begin_mach (p : Wd) (i k : Nat) (hi : i < p.all.length) (hn : (p.mach i).inn = false) : (p.begin_ i k).mach i = { p.mach i with inn := true, lkN := 2 * (k : Int), lkS := 2 * (k : Int) + 1, stage := 0, ticket := 0, times := 0 } := by
  unfold Wd.begin_
  rw [hn, if_neg (by decide)]
  exact mach_self p i _ hi
theorem begin_inn (p : Wd) (i k : Nat) (hn : (p.mach i).inn = true) : p.begin_ i k = p := by unfold Wd.begin_; rw [hn, if_pos rfl]
theorem begin_M (p : Wd) (i k : Nat) : (p.begin_ i k).M = p.M ∧ (p.begin_ i k).P = p.P ∧ (p.begin_ i k).G = p.G := by
  unfold Wd.begin_; split <;> exact ⟨rfl, rfl, rfl⟩

/-- The first step takes a ticket. -/
theorem locked_take (N : Nat) (p : Wd) (i k : Nat) (hi : i < p.M) (hk : k ≤ p.P + 1) (hn : (p.mach i).inn = false) : LockedOK N p i k (p.locked i k) := by
  intro F V ow w h E
  have hall : i < p.all.length := by rw [h.lens.2.2.1]; exact hi
  have e := begin_mach p i k hall hn
  obtain ⟨eM, eP, eG⟩ := begin_M p i k
  have hs : ((p.begin_ i k).mach i).stage = 0 := by rw [e]
  have hl : ((p.begin_ i k).mach i).lkN = ((2 * k : Nat) : Int) := by rw [e]; simp
  have er : p.locked i k = ((p.begin_ i k).more (2 * k)).setM i { (p.begin_ i k).mach i with ticket := (p.begin_ i k).ld (2 * k), stage := 1 } := by
    unfold Wd.locked
    simp only [hs, hl, Int.toNat_natCast]
  rw [er]
  have := locked_new N F V ow w p _ p h E i k false hi (by show i < (p.begin_ i k).M; omega) hk hn (step_take N (p.begin_ i k) i (2 * k) (by omega) hs hl (by unfold nWords; omega)) (fun h => by cases h)
  simpa using this

theorem locked_wait (N : Nat) (p : Wd) (i k : Nat) (hi : i < p.M) (hk : k ≤ p.P + 1) (hn : (p.mach i).inn = true) (hs : (p.mach i).stage = 1) (hl : (p.mach i).lkS = ((2 * k + 1 : Nat) : Int)) (ht : (p.mach i).ticket < 18446744073709551616) : LockedOK N p i k (p.locked i k) := by
  intro F V ow w h E
  have er : p.locked i k = if p.ld (2 * k + 1) = (p.mach i).ticket then p.acc.setM i { p.mach i with stage := 2 } else p.acc := by
    unfold Wd.locked
    rw [begin_inn p i k hn]
    simp only [hs, hl, Int.toNat_natCast]
  rw [er]
  have := locked_in N F V ow w p _ p h E i k false hi (by split <;> exact hi) hn (step_wait N p i (2 * k + 1) hi hs hl (by unfold nWords; omega) ht) (fun h => by cases h)
  simpa using this

theorem locked_do (N : Nat) (p : Wd) (i k : Nat) (hi : i < p.M) (hn : (p.mach i).inn = true) (hs : (p.mach i).stage = 2)
    (hd : DoOK N p i (p.mach i).times (p.doIt i (p.mach i).times).1 (p.doIt i (p.mach i).times).2) (hi' : i < (p.doIt i (p.mach i).times).1.M) (hs' : ((p.doIt i (p.mach i).times).1.mach i).stage = 2) : LockedOK N p i k (p.locked i k) := by
  intro F V ow w h E
  have er : p.locked i k = (p.doIt i (p.mach i).times).1.setM i { (p.doIt i (p.mach i).times).1.mach i with times := wrap64 (((p.doIt i (p.mach i).times).1.mach i).times + 1), stage := if (p.doIt i (p.mach i).times).2 then 2 else 3 } := by
    unfold Wd.locked
    rw [begin_inn p i k hn]
    simp only [hs]
  rw [er]
  have := locked_in N F V ow w p _ p h E i k false hi (by exact hi') hn (step_do N p _ i _ hi hs hd hi' hs') (fun h => by cases h)
  simpa using this

theorem locked_free (N : Nat) (p : Wd) (i k : Nat) (hi : i < p.M) (hk : k ≤ p.P + 1) (hn : (p.mach i).inn = true) (hs : (p.mach i).stage = 3) (hl : (p.mach i).lkS = ((2 * k + 1 : Nat) : Int)) (ht : (p.mach i).ticket < 18446744073709551616) (he : p.ld (2 * k + 1) = (p.mach i).ticket)
    (hthen : ThenOK N ((p.acc.st (2 * k + 1) (((p.mach i).ticket + 1) % 2 ^ 64)).setM i { p.mach i with stage := 4, inn := false }) i (((p.acc.st (2 * k + 1) (((p.mach i).ticket + 1) % 2 ^ 64)).setM i { p.mach i with stage := 4, inn := false }).andThen i)) : LockedOK N p i k (p.locked i k) := by
  intro F V ow w h E
  have hall : i < p.all.length := by rw [h.lens.2.2.1]; exact hi
  have er : p.locked i k = (((p.acc.st (2 * k + 1) (((p.mach i).ticket + 1) % 2 ^ 64)).setM i { p.mach i with stage := 4, inn := false }).andThen i) := by
    unfold Wd.locked
    rw [begin_inn p i k hn]
    simp only [hs, hl, Int.toNat_natCast]
  rw [er]
  have := locked_in N F V ow w p _ _ h E i k true hi (by exact hi) hn (step_free N p i (2 * k + 1) hi hs hl (by unfold nWords; omega) ht he) (fun _ => by
    rw [mach_self _ _ _ (by exact hall), setM_setM]; exact hthen)
  simpa using this

/-- A step of the world. -/
def StepsTo (N : Nat) (p p' : Wd) : Prop := ∀ (F : Fix) (V : Vol) (ow : Nat → Nat) (w : World), WAt F V ow w p → Env N ow w →
  Calls Tryz.prog 33 #[.pointer (some ⟨F.W, 0, none⟩), .agg #[.int .u8 0, .int .u8 0, .int .i64 0, .int .i64 0, .int .i64 0]] w fun e w' => e = .returned (.bool true) ∧ ∃ V' ow', On F V' ow w ow' w' p'

theorem stepsTo (N : Nat) (p p' : Wd) (hi : 0 < p.M) (hpl : (p.mach 0).place < 31) (h0 : (p.mach 0).place ≠ 0) (h16 : (p.mach 0).place ≠ 16) (hne : lockK (p.mach 0).place ≠ 3)
    (hk : (∃ k : Nat, lockI p.P (p.mach 0) = k ∧ LockedOK N p 0 k p') ∨ (lockI p.P (p.mach 0) < 0 ∧ BareOK N p 0 p')) : StepsTo N p p' := fun _ _ _ _ h E =>
  step_pick h 0 0 0 0 true fun _ _ h1 e a =>
    pick_mach N h1 ⟨E.tabs.below (fun b hb => a.2 b (Nat.lt_of_lt_of_le hb E.tabs.le) (E.low b hb)) (Nat.le_trans E.tabs.le a.1), fun b hb => (e b (Nat.lt_of_lt_of_le hb E.tabs.le)).trans (E.low b hb)⟩ 0 hi hpl h0 h16 hne hk 0 0 0 0
end Go.Proofs.YtfjepdcnikgjeaaGreatDoor
