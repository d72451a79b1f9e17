/-
  A world made: how many there may be.
-/
import Derived.Test.YtpclgelilnhjpaaGreatDoorTells
set_option linter.unusedVariables false
set_option linter.unusedSimpArgs false
set_option linter.unusedSectionVars false
namespace Go.Proofs.YtpclgelilnhjpaaGreatDoor
open Go Go.RowKit Hst Go.Proofs

def rightI (P M G : Int) : Bool := decide (1 ≤ P ∧ P ≤ 64 ∧ P ≤ M ∧ M ≤ 128 ∧ 1 ≤ G ∧ G ≤ 4096)

set_option maxHeartbeats 1600000 in
set_option maxRecDepth 100000 in
theorem right_c (P M G : Int) (w : World) :
    Calls Tryz.prog 23 #[.agg #[.int .i64 P, .int .i64 M, .int .i64 G]] w fun e w' => e = .returned (.bool (rightI P M G)) ∧ w' = w.alloc (.cells #[.int .i64 P, .int .i64 M, .int .i64 G] 29) := by
  go_enter Tryz.func23, Tryz.ntmps23
  go_wp2
  all_goals go_returns
  all_goals refine ⟨congrArg (fun b => Ending.returned (.bool b)) ?_, rfl⟩
  all_goals (show (_ : Bool) = _)
  all_goals simp only [rightI]
  all_goals rw [Bool.eq_iff_iff]
  all_goals simp
  all_goals (try simp at *)
  all_goals omega

/-- A part that is made, or not yet. -/
def Made (f : Option Value) (R : Value → Prop) : Prop := ∀ v, f = some v → R v
/-- A world being made: whose blocks are whose; which parts there are. -/
structure NewInv (wb : World) (P M : Nat) (ow : Nat → Nat) (w : World) (f17 f20 f23 f26 f31 : Option Value) : Prop where
  low : ∀ b, b < wb.heap.size → ow b = 0
  frame : Below wb.heap.size wb w
  turns : Made f17 fun v => ∃ b, v = sli b P P ∧ ow b = 5 ∧ Cells b P (fun _ => .int .i64 0) w
  flag : Made f20 fun v => ∃ b, v = sli b M M ∧ ow b = 10 ∧ Cells b M (fun _ => .bool false) w
  glob : Made f23 fun v => ∃ b, v = ptr b ∧ GlobAt (ow · = 6) b w P []
  src : Made f26 fun v => ∃ b, v = ptr b ∧ SrcAt (ow · = 7) b w P Src.new
  idle : Made f31 fun v => ∃ b, v = ptr b ∧ IdleAt (ow · = 8) b w P M { p := 0, pending := [], m := [], poller := -1 }

section
variable {wb w w' : World} {P M : Nat} {ow : Nat → Nat} {f17 f20 f23 f26 f31 : Option Value}
theorem NewInv.more (h : NewInv wb P M ow w f17 f20 f23 f26 f31) (hP : 0 < P) (hM : 0 < M) (b : Below w.heap.size w w') (k : Nat) : NewInv wb P M (grow ow w.heap.size k) w' f17 f20 f23 f26 f31 := by
  have hs := h.frame.size
  have ag : ∀ j, Agree (ow · = j) w w' := fun j => ⟨b.size, fun x hx _ => b.block x hx⟩
  have em : ∀ j x, x < w.heap.size → ow x = j → grow ow w.heap.size k x = j := fun j x hx e => (grow_lt hx).trans e
  refine ⟨fun x hx => (grow_lt (by have := h.frame.size; omega)).trans (h.low x hx), h.frame.trans (b.mono hs), fun v e => ?_, fun v e => ?_, fun v e => ?_, fun v e => ?_, fun v e => ?_⟩
  · obtain ⟨x, e1, e2, e3⟩ := h.turns v e
    exact ⟨x, e1, em 5 x (e3.lt hP) e2, e3.congr (ag 5) e2 (e3.lt hP)⟩
  · obtain ⟨x, e1, e2, e3⟩ := h.flag v e
    exact ⟨x, e1, em 10 x (e3.lt hM) e2, e3.congr (ag 10) e2 (e3.lt hM)⟩
  · obtain ⟨x, e1, e2⟩ := h.glob v e
    exact ⟨x, e1, e2.agree (ag 6) (em 6)⟩
  · obtain ⟨x, e1, e2⟩ := h.src v e
    exact ⟨x, e1, e2.agree hP (ag 7) (em 7)⟩
  · obtain ⟨x, e1, e2⟩ := h.idle v e
    exact ⟨x, e1, e2.agree (ag 8) (em 8)⟩
theorem made_some {v : Value} {R : Value → Prop} (h : R v) : Made (some v) R := fun u e => by cases e; exact h
theorem NewInv.put17 (h : NewInv wb P M ow w f17 f20 f23 f26 f31) {v : Value} (hv : ∃ b, v = sli b P P ∧ ow b = 5 ∧ Cells b P (fun _ => .int .i64 0) w) : NewInv wb P M ow w (some v) f20 f23 f26 f31 := ⟨h.low, h.frame, made_some hv, h.flag, h.glob, h.src, h.idle⟩
theorem NewInv.put20 (h : NewInv wb P M ow w f17 f20 f23 f26 f31) {v : Value} (hv : ∃ b, v = sli b M M ∧ ow b = 10 ∧ Cells b M (fun _ => .bool false) w) : NewInv wb P M ow w f17 (some v) f23 f26 f31 := ⟨h.low, h.frame, h.turns, made_some hv, h.glob, h.src, h.idle⟩
theorem NewInv.put23 (h : NewInv wb P M ow w f17 f20 f23 f26 f31) {v : Value} (hv : ∃ b, v = ptr b ∧ GlobAt (ow · = 6) b w P []) : NewInv wb P M ow w f17 f20 (some v) f26 f31 := ⟨h.low, h.frame, h.turns, h.flag, made_some hv, h.src, h.idle⟩
theorem NewInv.put26 (h : NewInv wb P M ow w f17 f20 f23 f26 f31) {v : Value} (hv : ∃ b, v = ptr b ∧ SrcAt (ow · = 7) b w P Src.new) : NewInv wb P M ow w f17 f20 f23 (some v) f31 := ⟨h.low, h.frame, h.turns, h.flag, h.glob, made_some hv, h.idle⟩
theorem NewInv.put31 (h : NewInv wb P M ow w f17 f20 f23 f26 f31) {v : Value} (hv : ∃ b, v = ptr b ∧ IdleAt (ow · = 8) b w P M { p := 0, pending := [], m := [], poller := -1 }) : NewInv wb P M ow w f17 f20 f23 f26 (some v) := ⟨h.low, h.frame, h.turns, h.flag, h.glob, h.src, made_some hv⟩

theorem NewInv.mk17 (h : NewInv wb P M ow w f17 f20 f23 f26 f31) (hP : 0 < P) (hM : 0 < M) (t : TypeId) : NewInv wb P M (grow ow w.heap.size 5) (w.alloc (.cells (madeCells #[.int .i64 0] P) t)) (some (sli w.heap.size P P)) f20 f23 f26 f31 :=
  (h.more hP hM (below_alloc w _) 5).put17 ⟨w.heap.size, rfl, grow_self _ _ _, fun k hk => by rw [cell_new]; simp [madeCells, hk, Nat.mod_one], fun o => fr_new _ _ _ _⟩
theorem NewInv.mk20 (h : NewInv wb P M ow w f17 f20 f23 f26 f31) (hP : 0 < P) (hM : 0 < M) (t : TypeId) : NewInv wb P M (grow ow w.heap.size 10) (w.alloc (.cells (madeCells #[.bool false] M) t)) f17 (some (sli w.heap.size M M)) f23 f26 f31 :=
  (h.more hP hM (below_alloc w _) 10).put20 ⟨w.heap.size, rfl, grow_self _ _ _, fun k hk => by rw [cell_new]; simp [madeCells, hk, Nat.mod_one], fun o => fr_new _ _ _ _⟩
theorem NewInv.mk23 (h : NewInv wb P M ow w f17 f20 f23 f26 f31) (hP : 0 < P) (hM : 0 < M) {b : Nat} (hg : GlobAt (fun x => w.heap.size ≤ x) b w' P []) (hb : Below w.heap.size w w') : NewInv wb P M (grow ow w.heap.size 6) w' f17 f20 (some (ptr b)) f26 f31 :=
  (h.more hP hM hb 6).put23 ⟨b, rfl, hg.mono fun _ _ e => grow_ge e⟩
theorem NewInv.mk26 (h : NewInv wb P M ow w f17 f20 f23 f26 f31) (hP : 0 < P) (hM : 0 < M) {b : Nat} (hg : SrcAt (fun x => w.heap.size ≤ x) b w' P Src.new) (hb : Below w.heap.size w w') : NewInv wb P M (grow ow w.heap.size 7) w' f17 f20 f23 (some (ptr b)) f31 :=
  (h.more hP hM hb 7).put26 ⟨b, rfl, hg.agree hP ⟨Nat.le_refl _, fun _ _ _ => rfl⟩ fun _ _ e => grow_ge e⟩
theorem NewInv.mk31 (h : NewInv wb P M ow w f17 f20 f23 f26 f31) (hP : 0 < P) (hM : 0 < M) {b : Nat} (hg : IdleAt (fun x => w.heap.size ≤ x) b w' P M { p := 0, pending := [], m := [], poller := -1 }) (hb : Below w.heap.size w w') : NewInv wb P M (grow ow w.heap.size 8) w' f17 f20 f23 f26 (some (ptr b)) :=
  (h.more hP hM hb 8).put31 ⟨b, rfl, hg.agree ⟨Nat.le_refl _, fun _ _ _ => rfl⟩ fun _ _ e => grow_ge e⟩
end
end Go.Proofs.YtpclgelilnhjpaaGreatDoor
