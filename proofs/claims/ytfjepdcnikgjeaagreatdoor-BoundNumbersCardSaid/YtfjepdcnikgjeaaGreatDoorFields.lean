/-
  The fields of a machine, one by one: what is read, and what a store leaves. (Written by a program of ours.)
-/
import Derived.Test.YtfjepdcnikgjeaaGreatDoorWorld2
set_option linter.unusedVariables false
set_option linter.unusedSimpArgs false
set_option linter.unusedSectionVars false
namespace Go.Proofs.YtfjepdcnikgjeaaGreatDoor
open Go Go.RowKit Hst Go.Proofs

theorem lt18 {j : Nat} (h : j < 18) : j = 0 ∨ j = 1 ∨ j = 2 ∨ j = 3 ∨ j = 4 ∨ j = 5 ∨ j = 6 ∨ j = 7 ∨ j = 8 ∨ j = 9 ∨ j = 10 ∨ j = 11 ∨ j = 12 ∨ j = 13 ∨ j = 14 ∨ j = 15 ∨ j = 16 ∨ j = 17 := by omega
section
variable {F : Fix} {V : Vol} {ow : Nat → Nat} {w : World} {p : Wd}
theorem WAt.cA_place (h : WAt F V ow w p) {i : Nat} (hi : i < p.M) : w.cell? ⟨F.all, i * 18, none⟩ = some (.int .i64 ((p.mach i).place : Nat)) := by
  have e := h.cellA hi (k := 0) (by decide)
  rw [Nat.add_zero] at e
  exact e
theorem WAt.sA_place (h : WAt F V ow w p) {i : Nat} (hi : i < p.M) (v : Nat) : WAt F V ow (w.setCell ⟨F.all, i * 18, none⟩ (.int .i64 (v : Nat))) (p.setM i { p.mach i with place := v }) := by
  have e := h.setA hi (k := 0) (by decide) (.int .i64 (v : Nat)) { p.mach i with place := v } rfl (fun j hj => by rcases lt18 hj with rfl | rfl | rfl | rfl | rfl | rfl | rfl | rfl | rfl | rfl | rfl | rfl | rfl | rfl | rfl | rfl | rfl | rfl <;> rfl)
  rw [Nat.add_zero] at e
  exact e
theorem WAt.cA_p (h : WAt F V ow w p) {i : Nat} (hi : i < p.M) : w.cell? ⟨F.all, i * 18 + 1, none⟩ = some (.int .i64 (p.mach i).p) := h.cellA hi (k := 1) (by decide)
theorem WAt.sA_p (h : WAt F V ow w p) {i : Nat} (hi : i < p.M) (v : Int) : WAt F V ow (w.setCell ⟨F.all, i * 18 + 1, none⟩ (.int .i64 v)) (p.setM i { p.mach i with p := v }) :=
  h.setA hi (k := 1) (by decide) _ _ rfl (fun j hj => by rcases lt18 hj with rfl | rfl | rfl | rfl | rfl | rfl | rfl | rfl | rfl | rfl | rfl | rfl | rfl | rfl | rfl | rfl | rfl | rfl <;> rfl)
theorem WAt.cA_g (h : WAt F V ow w p) {i : Nat} (hi : i < p.M) : w.cell? ⟨F.all, i * 18 + 2, none⟩ = some (.int .i64 (p.mach i).g) := h.cellA hi (k := 2) (by decide)
theorem WAt.sA_g (h : WAt F V ow w p) {i : Nat} (hi : i < p.M) (v : Int) : WAt F V ow (w.setCell ⟨F.all, i * 18 + 2, none⟩ (.int .i64 v)) (p.setM i { p.mach i with g := v }) :=
  h.setA hi (k := 2) (by decide) _ _ rfl (fun j hj => by rcases lt18 hj with rfl | rfl | rfl | rfl | rfl | rfl | rfl | rfl | rfl | rfl | rfl | rfl | rfl | rfl | rfl | rfl | rfl | rfl <;> rfl)
theorem WAt.cA_next (h : WAt F V ow w p) {i : Nat} (hi : i < p.M) : w.cell? ⟨F.all, i * 18 + 3, none⟩ = some (.int .i64 (p.mach i).next) := h.cellA hi (k := 3) (by decide)
theorem WAt.sA_next (h : WAt F V ow w p) {i : Nat} (hi : i < p.M) (v : Int) : WAt F V ow (w.setCell ⟨F.all, i * 18 + 3, none⟩ (.int .i64 v)) (p.setM i { p.mach i with next := v }) :=
  h.setA hi (k := 3) (by decide) _ _ rfl (fun j hj => by rcases lt18 hj with rfl | rfl | rfl | rfl | rfl | rfl | rfl | rfl | rfl | rfl | rfl | rfl | rfl | rfl | rfl | rfl | rfl | rfl <;> rfl)
theorem WAt.cA_got (h : WAt F V ow w p) {i : Nat} (hi : i < p.M) : w.cell? ⟨F.all, i * 18 + 4, none⟩ = some (.int .i64 (p.mach i).got) := h.cellA hi (k := 4) (by decide)
theorem WAt.sA_got (h : WAt F V ow w p) {i : Nat} (hi : i < p.M) (v : Int) : WAt F V ow (w.setCell ⟨F.all, i * 18 + 4, none⟩ (.int .i64 v)) (p.setM i { p.mach i with got := v }) :=
  h.setA hi (k := 4) (by decide) _ _ rfl (fun j hj => by rcases lt18 hj with rfl | rfl | rfl | rfl | rfl | rfl | rfl | rfl | rfl | rfl | rfl | rfl | rfl | rfl | rfl | rfl | rfl | rfl <;> rfl)
theorem WAt.cA_target (h : WAt F V ow w p) {i : Nat} (hi : i < p.M) : w.cell? ⟨F.all, i * 18 + 5, none⟩ = some (.int .i64 (p.mach i).target) := h.cellA hi (k := 5) (by decide)
theorem WAt.sA_target (h : WAt F V ow w p) {i : Nat} (hi : i < p.M) (v : Int) : WAt F V ow (w.setCell ⟨F.all, i * 18 + 5, none⟩ (.int .i64 v)) (p.setM i { p.mach i with target := v }) :=
  h.setA hi (k := 5) (by decide) _ _ rfl (fun j hj => by rcases lt18 hj with rfl | rfl | rfl | rfl | rfl | rfl | rfl | rfl | rfl | rfl | rfl | rfl | rfl | rfl | rfl | rfl | rfl | rfl <;> rfl)
theorem WAt.cA_i (h : WAt F V ow w p) {i : Nat} (hi : i < p.M) : w.cell? ⟨F.all, i * 18 + 6, none⟩ = some (.int .i64 (p.mach i).i) := h.cellA hi (k := 6) (by decide)
theorem WAt.sA_i (h : WAt F V ow w p) {i : Nat} (hi : i < p.M) (v : Int) : WAt F V ow (w.setCell ⟨F.all, i * 18 + 6, none⟩ (.int .i64 v)) (p.setM i { p.mach i with i := v }) :=
  h.setA hi (k := 6) (by decide) _ _ rfl (fun j hj => by rcases lt18 hj with rfl | rfl | rfl | rfl | rfl | rfl | rfl | rfl | rfl | rfl | rfl | rfl | rfl | rfl | rfl | rfl | rfl | rfl <;> rfl)
theorem WAt.cA_spin (h : WAt F V ow w p) {i : Nat} (hi : i < p.M) : w.cell? ⟨F.all, i * 18 + 7, none⟩ = some (.bool (p.mach i).spin) := h.cellA hi (k := 7) (by decide)
theorem WAt.sA_spin (h : WAt F V ow w p) {i : Nat} (hi : i < p.M) (v : Bool) : WAt F V ow (w.setCell ⟨F.all, i * 18 + 7, none⟩ (.bool v)) (p.setM i { p.mach i with spin := v }) :=
  h.setA hi (k := 7) (by decide) _ _ rfl (fun j hj => by rcases lt18 hj with rfl | rfl | rfl | rfl | rfl | rfl | rfl | rfl | rfl | rfl | rfl | rfl | rfl | rfl | rfl | rfl | rfl | rfl <;> rfl)
theorem WAt.cA_inn (h : WAt F V ow w p) {i : Nat} (hi : i < p.M) : w.cell? ⟨F.all, i * 18 + 8, none⟩ = some (.bool (p.mach i).inn) := h.cellA hi (k := 8) (by decide)
theorem WAt.sA_inn (h : WAt F V ow w p) {i : Nat} (hi : i < p.M) (v : Bool) : WAt F V ow (w.setCell ⟨F.all, i * 18 + 8, none⟩ (.bool v)) (p.setM i { p.mach i with inn := v }) :=
  h.setA hi (k := 8) (by decide) _ _ rfl (fun j hj => by rcases lt18 hj with rfl | rfl | rfl | rfl | rfl | rfl | rfl | rfl | rfl | rfl | rfl | rfl | rfl | rfl | rfl | rfl | rfl | rfl <;> rfl)
theorem WAt.cA_rest (h : WAt F V ow w p) {i : Nat} (hi : i < p.M) : w.cell? ⟨F.all, i * 18 + 9, none⟩ = some (V.rest i) := h.cellA hi (k := 9) (by decide)
theorem WAt.cA_back (h : WAt F V ow w p) {i : Nat} (hi : i < p.M) : w.cell? ⟨F.all, i * 18 + 10, none⟩ = some (.int .i64 ((p.mach i).back : Nat)) := h.cellA hi (k := 10) (by decide)
theorem WAt.sA_back (h : WAt F V ow w p) {i : Nat} (hi : i < p.M) (v : Nat) : WAt F V ow (w.setCell ⟨F.all, i * 18 + 10, none⟩ (.int .i64 (v : Nat))) (p.setM i { p.mach i with back := v }) :=
  h.setA hi (k := 10) (by decide) _ _ rfl (fun j hj => by rcases lt18 hj with rfl | rfl | rfl | rfl | rfl | rfl | rfl | rfl | rfl | rfl | rfl | rfl | rfl | rfl | rfl | rfl | rfl | rfl <;> rfl)
theorem WAt.cA_after (h : WAt F V ow w p) {i : Nat} (hi : i < p.M) : w.cell? ⟨F.all, i * 18 + 11, none⟩ = some (.int .i64 ((p.mach i).after : Nat)) := h.cellA hi (k := 11) (by decide)
theorem WAt.sA_after (h : WAt F V ow w p) {i : Nat} (hi : i < p.M) (v : Nat) : WAt F V ow (w.setCell ⟨F.all, i * 18 + 11, none⟩ (.int .i64 (v : Nat))) (p.setM i { p.mach i with after := v }) :=
  h.setA hi (k := 11) (by decide) _ _ rfl (fun j hj => by rcases lt18 hj with rfl | rfl | rfl | rfl | rfl | rfl | rfl | rfl | rfl | rfl | rfl | rfl | rfl | rfl | rfl | rfl | rfl | rfl <;> rfl)
theorem WAt.cA_arg (h : WAt F V ow w p) {i : Nat} (hi : i < p.M) : w.cell? ⟨F.all, i * 18 + 12, none⟩ = some (.int .i64 (p.mach i).arg) := h.cellA hi (k := 12) (by decide)
theorem WAt.sA_arg (h : WAt F V ow w p) {i : Nat} (hi : i < p.M) (v : Int) : WAt F V ow (w.setCell ⟨F.all, i * 18 + 12, none⟩ (.int .i64 v)) (p.setM i { p.mach i with arg := v }) :=
  h.setA hi (k := 12) (by decide) _ _ rfl (fun j hj => by rcases lt18 hj with rfl | rfl | rfl | rfl | rfl | rfl | rfl | rfl | rfl | rfl | rfl | rfl | rfl | rfl | rfl | rfl | rfl | rfl <;> rfl)
theorem WAt.cA_lkN (h : WAt F V ow w p) {i : Nat} (hi : i < p.M) : w.cell? ⟨F.all, i * 18 + 13, none⟩ = some (.int .i64 (p.mach i).lkN) := h.cellA hi (k := 13) (by decide)
theorem WAt.sA_lkN (h : WAt F V ow w p) {i : Nat} (hi : i < p.M) (v : Int) : WAt F V ow (w.setCell ⟨F.all, i * 18 + 13, none⟩ (.int .i64 v)) (p.setM i { p.mach i with lkN := v }) :=
  h.setA hi (k := 13) (by decide) _ _ rfl (fun j hj => by rcases lt18 hj with rfl | rfl | rfl | rfl | rfl | rfl | rfl | rfl | rfl | rfl | rfl | rfl | rfl | rfl | rfl | rfl | rfl | rfl <;> rfl)
theorem WAt.cA_lkS (h : WAt F V ow w p) {i : Nat} (hi : i < p.M) : w.cell? ⟨F.all, i * 18 + 14, none⟩ = some (.int .i64 (p.mach i).lkS) := h.cellA hi (k := 14) (by decide)
theorem WAt.sA_lkS (h : WAt F V ow w p) {i : Nat} (hi : i < p.M) (v : Int) : WAt F V ow (w.setCell ⟨F.all, i * 18 + 14, none⟩ (.int .i64 v)) (p.setM i { p.mach i with lkS := v }) :=
  h.setA hi (k := 14) (by decide) _ _ rfl (fun j hj => by rcases lt18 hj with rfl | rfl | rfl | rfl | rfl | rfl | rfl | rfl | rfl | rfl | rfl | rfl | rfl | rfl | rfl | rfl | rfl | rfl <;> rfl)
theorem WAt.cA_stage (h : WAt F V ow w p) {i : Nat} (hi : i < p.M) : w.cell? ⟨F.all, i * 18 + 15, none⟩ = some (.int .i64 ((p.mach i).stage : Nat)) := h.cellA hi (k := 15) (by decide)
theorem WAt.sA_stage (h : WAt F V ow w p) {i : Nat} (hi : i < p.M) (v : Nat) : WAt F V ow (w.setCell ⟨F.all, i * 18 + 15, none⟩ (.int .i64 (v : Nat))) (p.setM i { p.mach i with stage := v }) :=
  h.setA hi (k := 15) (by decide) _ _ rfl (fun j hj => by rcases lt18 hj with rfl | rfl | rfl | rfl | rfl | rfl | rfl | rfl | rfl | rfl | rfl | rfl | rfl | rfl | rfl | rfl | rfl | rfl <;> rfl)
theorem WAt.cA_ticket (h : WAt F V ow w p) {i : Nat} (hi : i < p.M) : w.cell? ⟨F.all, i * 18 + 16, none⟩ = some (.int .u64 ((p.mach i).ticket : Nat)) := h.cellA hi (k := 16) (by decide)
theorem WAt.sA_ticket (h : WAt F V ow w p) {i : Nat} (hi : i < p.M) (v : Nat) : WAt F V ow (w.setCell ⟨F.all, i * 18 + 16, none⟩ (.int .u64 (v : Nat))) (p.setM i { p.mach i with ticket := v }) :=
  h.setA hi (k := 16) (by decide) _ _ rfl (fun j hj => by rcases lt18 hj with rfl | rfl | rfl | rfl | rfl | rfl | rfl | rfl | rfl | rfl | rfl | rfl | rfl | rfl | rfl | rfl | rfl | rfl <;> rfl)
theorem WAt.cA_times (h : WAt F V ow w p) {i : Nat} (hi : i < p.M) : w.cell? ⟨F.all, i * 18 + 17, none⟩ = some (.int .i64 (p.mach i).times) := h.cellA hi (k := 17) (by decide)
theorem WAt.sA_times (h : WAt F V ow w p) {i : Nat} (hi : i < p.M) (v : Int) : WAt F V ow (w.setCell ⟨F.all, i * 18 + 17, none⟩ (.int .i64 v)) (p.setM i { p.mach i with times := v }) :=
  h.setA hi (k := 17) (by decide) _ _ rfl (fun j hj => by rcases lt18 hj with rfl | rfl | rfl | rfl | rfl | rfl | rfl | rfl | rfl | rfl | rfl | rfl | rfl | rfl | rfl | rfl | rfl | rfl <;> rfl)
theorem WAt.cW_F_P (h : WAt F V ow w p) : w.cell? ⟨F.W, 0, none⟩ = some (.int .i64 p.P) := h.cw.1 0 (by decide)
theorem WAt.cW_F_M (h : WAt F V ow w p) : w.cell? ⟨F.W, 1, none⟩ = some (.int .i64 p.M) := h.cw.1 1 (by decide)
theorem WAt.cW_F_G (h : WAt F V ow w p) : w.cell? ⟨F.W, 2, none⟩ = some (.int .i64 p.G) := h.cw.1 2 (by decide)
theorem WAt.cW_mem (h : WAt F V ow w p) : w.cell? ⟨F.W, 3, none⟩ = some (.pointer (some ⟨F.mem, 0, none⟩)) := h.cw.1 3 (by decide)
theorem WAt.cW_spin (h : WAt F V ow w p) : w.cell? ⟨F.W, 4, none⟩ = some (.int .i64 ((2 * (p.P + 2) : Nat) : Int)) := h.cw.1 4 (by decide)
theorem WAt.cW_notes (h : WAt F V ow w p) : w.cell? ⟨F.W, 5, none⟩ = some (.int .i64 ((2 * (p.P + 2) + 1 : Nat) : Int)) := h.cw.1 5 (by decide)
theorem WAt.cW_from (h : WAt F V ow w p) : w.cell? ⟨F.W, 6, none⟩ = some (.int .i64 ((2 * (p.P + 2) + 1 + p.M : Nat) : Int)) := h.cw.1 6 (by decide)
theorem WAt.cW_n (h : WAt F V ow w p) : w.cell? ⟨F.W, 7, none⟩ = some (.int .i64 p.G) := h.cw.1 7 (by decide)
theorem WAt.cW_rs (h : WAt F V ow w p) : w.cell? ⟨F.W, 8, none⟩ = some (.slice (some ⟨F.rs, 0, none⟩) p.P F.rsCap) := h.cw.1 8 (by decide)
theorem WAt.cW_turns (h : WAt F V ow w p) : w.cell? ⟨F.W, 9, none⟩ = some (.slice (some ⟨F.turns, 0, none⟩) p.P p.P) := h.cw.1 9 (by decide)
theorem WAt.cW_glob (h : WAt F V ow w p) : w.cell? ⟨F.W, 10, none⟩ = some (.pointer (some ⟨F.glob, 0, none⟩)) := h.cw.1 10 (by decide)
theorem WAt.cW_src (h : WAt F V ow w p) : w.cell? ⟨F.W, 11, none⟩ = some (.pointer (some ⟨F.src, 0, none⟩)) := h.cw.1 11 (by decide)
theorem WAt.cW_idle (h : WAt F V ow w p) : w.cell? ⟨F.W, 12, none⟩ = some (.pointer (some ⟨F.idle, 0, none⟩)) := h.cw.1 12 (by decide)
theorem WAt.cW_all (h : WAt F V ow w p) : w.cell? ⟨F.W, 13, none⟩ = some (.slice (some ⟨F.all, 0, none⟩) p.M F.allCap) := h.cw.1 13 (by decide)
theorem WAt.cW_flag (h : WAt F V ow w p) : w.cell? ⟨F.W, 14, none⟩ = some (.slice (some ⟨F.flag, 0, none⟩) p.M p.M) := h.cw.1 14 (by decide)
theorem WAt.cW_log (h : WAt F V ow w p) : w.cell? ⟨F.W, 15, none⟩ = some (V.logV) := h.cw.1 15 (by decide)
theorem WAt.cM_ws (h : WAt F V ow w p) : w.cell? ⟨F.mem, 0, none⟩ = some (.slice (some ⟨F.ws, 0, none⟩) (nWords p.P p.M p.G) (nWords p.P p.M p.G)) := h.cmem.1 0 (by decide)
theorem WAt.cM_cnt (h : WAt F V ow w p) : w.cell? ⟨F.mem, 1, none⟩ = some (.int .i64 p.cnt) := h.cmem.1 1 (by decide)
theorem WAt.cS (h : WAt F V ow w p) {a : Nat} (ha : a < nWords p.P p.M p.G) : w.cell? ⟨F.ws, a, none⟩ = some (.int .u64 (p.ld a : Nat)) := h.cws.1 a ha
theorem WAt.cT (h : WAt F V ow w p) {q : Nat} (hq : q < p.P) : w.cell? ⟨F.turns, q, none⟩ = some (.int .i64 (p.turns.getD q 0)) := h.cturns.1 q hq
theorem WAt.cR (h : WAt F V ow w p) {q : Nat} (hq : q < p.P) : w.cell? ⟨F.rs, q, none⟩ = some (.pointer (some ⟨F.ring q, 0, none⟩)) := h.crs.1 q hq
theorem WAt.cF (h : WAt F V ow w p) {i : Nat} (hi : i < p.M) : w.cell? ⟨F.flag, i, none⟩ = some (.bool (p.fl i)) := h.cflag.1 i hi
/-- Blocks of unlike parts are unlike. -/
theorem Owns.ne {ow : Nat → Nat} {P : Nat} (h : Owns F ow P) : F.W ≠ F.mem ∧ F.W ≠ F.ws ∧ F.W ≠ F.rs ∧ F.W ≠ F.turns ∧ F.W ≠ F.all ∧ F.W ≠ F.flag ∧ F.mem ≠ F.ws ∧ F.mem ≠ F.all ∧ F.mem ≠ F.flag ∧ F.ws ≠ F.all ∧ F.ws ≠ F.flag ∧ F.turns ≠ F.all ∧ F.turns ≠ F.flag ∧ F.all ≠ F.flag ∧ F.turns ≠ F.mem ∧ F.turns ≠ F.ws ∧ F.rs ≠ F.all ∧ F.rs ≠ F.flag := by
  obtain ⟨o1, o2, o3, o4, o5, o9, o10, _⟩ := h
  refine ⟨?_, ?_, ?_, ?_, ?_, ?_, ?_, ?_, ?_, ?_, ?_, ?_, ?_, ?_, ?_, ?_, ?_, ?_⟩ <;> (intro e; have := congrArg ow e; omega)
end
end Go.Proofs.YtfjepdcnikgjeaaGreatDoor
