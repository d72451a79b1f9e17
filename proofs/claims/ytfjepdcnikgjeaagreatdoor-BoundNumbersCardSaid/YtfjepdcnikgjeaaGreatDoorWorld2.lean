/-
  A world behind one store, or behind a call on one of its parts.
-/
import Derived.Test.YtfjepdcnikgjeaaGreatDoorWorld
set_option linter.unusedVariables false
set_option linter.unusedSimpArgs false
set_option linter.unusedSectionVars false
namespace Go.Proofs.YtfjepdcnikgjeaaGreatDoor
open Go Go.RowKit Hst Go.Proofs

theorem agree_set {ow : Nat → Nat} {w : World} {b k : Nat} (hb : ow b = k) (o : Nat) (v : Value) : Agree (fun x => ow x ≠ 0 ∧ ¬ ow x = k) w (w.setCell ⟨b, o, none⟩ v) :=
  ⟨by simp, fun x _ hx => heap_far (fun e => hx.2 (by rw [e]; exact hb)) v⟩
theorem stp_set {ow : Nat → Nat} {w : World} {b k : Nat} (hb : ow b = k) (hk : k ≠ 0) (o : Nat) (v : Value) : Stp ow ow w (w.setCell ⟨b, o, none⟩ v) :=
  ⟨rfl, rfl, rfl, by simp, fun _ _ => rfl, fun x _ hx => heap_far (fun e => hk (by rw [← hb, ← e]; exact hx)) v⟩

theorem mach_setM (p : Wd) (i j : Nat) (m : Mach) (hi : i < p.all.length) : (p.setM i m).mach j = if j = i then m else p.mach j := by
  unfold Wd.setM Wd.mach
  by_cases e : j = i
  · subst e; simp [List.getD_eq_getElem?_getD, hi]
  · rw [if_neg e]; simp [List.getD_eq_getElem?_getD, List.getElem?_set_ne (Ne.symm e)]
theorem setM_setM (p : Wd) (i : Nat) (m m' : Mach) : (p.setM i m).setM i m' = p.setM i m' := by simp [Wd.setM]
theorem fl_setF (p : Wd) (i j : Nat) (b : Bool) (hi : i < p.flag.length) : (p.setF i b).fl j = if j = i then b else p.fl j := by
  unfold Wd.setF Wd.fl
  by_cases e : j = i
  · subst e; simp [List.getD_eq_getElem?_getD, hi]
  · rw [if_neg e]; simp [List.getD_eq_getElem?_getD, List.getElem?_set_ne (Ne.symm e)]
theorem getD_set {α : Type} (l : List α) (i j : Nat) (v d : α) (hi : i < l.length) : (l.set i v).getD j d = if j = i then v else l.getD j d := by
  by_cases e : j = i
  · subst e; simp [List.getD_eq_getElem?_getD, hi]
  · rw [if_neg e]; simp [List.getD_eq_getElem?_getD, List.getElem?_set_ne (Ne.symm e)]

section
variable {F : Fix} {V : Vol} {ow : Nat → Nat} {w : World} {p : Wd}

theorem WAt.cellA (h : WAt F V ow w p) {i k : Nat} (hi : i < p.M) (hk : k < 18) : w.cell? ⟨F.all, i * 18 + k, none⟩ = some ((encM (p.mach i) (V.rest i)).getD k default) := by
  rw [h.call.1 (i * 18 + k) (by omega)]
  unfold allCell
  rw [show (i * 18 + k) / 18 = i by omega, show (i * 18 + k) % 18 = k by omega]

theorem WAt.setA (h : WAt F V ow w p) {i k : Nat} (hi : i < p.M) (hk : k < 18) (x : Value) (m' : Mach) (hr : m'.rest = (p.mach i).rest)
    (hm : ∀ j, j < 18 → (encM m' (V.rest i)).getD j default = if j = k then x else (encM (p.mach i) (V.rest i)).getD j default) :
    WAt F V ow (w.setCell ⟨F.all, i * 18 + k, none⟩ x) (p.setM i m') := by
  obtain ⟨o1, o2, o3, o4, o5, o9, o10, oq⟩ := h.own
  obtain ⟨l1, l2, l3, l4, l5⟩ := h.lens
  have hmach : ∀ j, (p.setM i m').mach j = if j = i then m' else p.mach j := fun j => mach_setM p i j m' (by omega)
  refine h.upd (· = 9) ⟨rfl, rfl, rfl⟩ ⟨l1, l2, by simpa [Wd.setM] using l3, l4, l5⟩ (fun _ _ => rfl) (agree_set o9 _ _) (.inl ⟨by decide, rfl⟩) (.inl ⟨by decide, rfl⟩) (.inl ⟨by decide, rfl⟩) (by decide) (fun q _ => .inl ⟨by omega, rfl⟩)
    (.inl ⟨by decide, rfl⟩) (.inl ⟨by decide, rfl⟩) (.inl ⟨by decide, rfl⟩) (.inl ⟨by decide, rfl⟩) (.inr ?_) (fun j _ => .inl ⟨by omega, ?_, rfl⟩) (.inl ⟨by decide, rfl⟩) (.inl ⟨by decide, rfl, rfl⟩)
  · refine (h.call.set (i * 18 + k) (by omega) x).ext fun c hc => ?_
    unfold allCell
    rw [hmach]
    by_cases e : c / 18 = i
    · rw [if_pos e, e, hm (c % 18) (by omega)]
      by_cases e2 : c % 18 = k
      · rw [if_pos (by omega), if_pos e2]
      · rw [if_neg (by omega), if_neg e2]
    · rw [if_neg (by omega), if_neg e]
  · rw [hmach]; split
    · rename_i e; rw [e]; exact hr
    · rfl

theorem WAt.setFl (h : WAt F V ow w p) {i : Nat} (hi : i < p.M) (b : Bool) : WAt F V ow (w.setCell ⟨F.flag, i, none⟩ (.bool b)) (p.setF i b) := by
  obtain ⟨o1, o2, o3, o4, o5, o9, o10, oq⟩ := h.own
  obtain ⟨l1, l2, l3, l4, l5⟩ := h.lens
  refine h.upd (· = 10) ⟨rfl, rfl, rfl⟩ ⟨l1, l2, l3, by simpa [Wd.setF] using l4, l5⟩ (fun _ _ => rfl) (agree_set o10 _ _) (.inl ⟨by decide, rfl⟩) (.inl ⟨by decide, rfl⟩) (.inl ⟨by decide, rfl⟩) (by decide) (fun q _ => .inl ⟨by omega, rfl⟩)
    (.inl ⟨by decide, rfl⟩) (.inl ⟨by decide, rfl⟩) (.inl ⟨by decide, rfl⟩) (.inl ⟨by decide, rfl⟩) (.inl ⟨by decide, rfl, rfl⟩) (fun j _ => .inl ⟨by omega, rfl, rfl⟩) (.inr ?_) (.inl ⟨by decide, rfl, rfl⟩)
  refine (h.cflag.set i hi (.bool b)).ext fun c _ => ?_
  rw [fl_setF p i c b (by omega)]; split <;> rfl

theorem WAt.setTurn (h : WAt F V ow w p) {q : Nat} (hq : q < p.P) (t : Int) : WAt F V ow (w.setCell ⟨F.turns, q, none⟩ (.int .i64 t)) { p with turns := p.turns.set q t } := by
  obtain ⟨o1, o2, o3, o4, o5, o9, o10, oq⟩ := h.own
  obtain ⟨l1, l2, l3, l4, l5⟩ := h.lens
  refine h.upd (· = 5) ⟨rfl, rfl, rfl⟩ ⟨l1, by simpa using l2, l3, l4, l5⟩ (fun _ _ => rfl) (agree_set o5 _ _) (.inl ⟨by decide, rfl⟩) (.inl ⟨by decide, rfl⟩) (.inl ⟨by decide, rfl⟩) (by decide) (fun q _ => .inl ⟨by omega, rfl⟩)
    (.inr ?_) (.inl ⟨by decide, rfl⟩) (.inl ⟨by decide, rfl⟩) (.inl ⟨by decide, rfl⟩) (.inl ⟨by decide, rfl, rfl⟩) (fun j _ => .inl ⟨by omega, rfl, rfl⟩) (.inl ⟨by decide, rfl⟩) (.inl ⟨by decide, rfl, rfl⟩)
  refine (h.cturns.set q hq (.int .i64 t)).ext fun c _ => ?_
  dsimp only
  rw [getD_set _ _ _ _ _ (by omega)]; split <;> rfl

/-- An access counted. -/
theorem WAt.accd (h : WAt F V ow w p) : WAt F V ow (w.setCell ⟨F.mem, 1, none⟩ (.int .i64 (wrap64 (p.cnt + 1)))) p.acc := by
  obtain ⟨o1, o2, o3, o4, o5, o9, o10, oq⟩ := h.own
  obtain ⟨l1, l2, l3, l4, l5⟩ := h.lens
  refine h.upd (· = 2) ⟨rfl, rfl, rfl⟩ ⟨l1, l2, l3, l4, l5⟩ (fun _ _ => rfl) (agree_set o2 _ _) (.inl ⟨by decide, rfl⟩) (.inr ?_) (.inl ⟨by decide, rfl⟩) (by decide) (fun q _ => .inl ⟨by omega, rfl⟩)
    (.inl ⟨by decide, rfl⟩) (.inl ⟨by decide, rfl⟩) (.inl ⟨by decide, rfl⟩) (.inl ⟨by decide, rfl⟩) (.inl ⟨by decide, rfl, rfl⟩) (fun j _ => .inl ⟨by omega, rfl, rfl⟩) (.inl ⟨by decide, rfl⟩) (.inl ⟨by decide, rfl, rfl⟩)
  refine (h.cmem.set 1 (by decide) _).ext fun c hc => ?_
  rcases (show c = 0 ∨ c = 1 by omega) with rfl | rfl
  · rfl
  · rfl

/-- A word stored (its access is counted apart). -/
theorem WAt.word (h : WAt F V ow w p) {a : Nat} (ha : a < nWords p.P p.M p.G) (x : Nat) (hx : x < 18446744073709551616) : WAt F V ow (w.setCell ⟨F.ws, a, none⟩ (.int .u64 (x : Int))) { p with ws := p.ws.set a x } := by
  obtain ⟨o1, o2, o3, o4, o5, o9, o10, oq⟩ := h.own
  obtain ⟨l1, l2, l3, l4, l5⟩ := h.lens
  have hg : ∀ c, (p.ws.set a x).getD c 0 = if c = a then x else p.ws.getD c 0 := fun c => getD_set _ _ _ _ _ (by omega)
  refine h.upd (· = 3) ⟨rfl, rfl, rfl⟩ ⟨l1, l2, l3, l4, by simpa using l5⟩ (fun _ _ => rfl) (agree_set o3 _ _) (.inl ⟨by decide, rfl⟩) (.inl ⟨by decide, rfl⟩) (.inr ⟨?_, ?_⟩) (by decide) (fun q _ => .inl ⟨by omega, rfl⟩)
    (.inl ⟨by decide, rfl⟩) (.inl ⟨by decide, rfl⟩) (.inl ⟨by decide, rfl⟩) (.inl ⟨by decide, rfl⟩) (.inl ⟨by decide, rfl, rfl⟩) (fun j _ => .inl ⟨by omega, rfl, rfl⟩) (.inl ⟨by decide, rfl⟩) (.inl ⟨by decide, rfl, rfl⟩)
  · refine (h.cws.set a ha _).ext fun c _ => ?_
    dsimp only
    rw [hg]; split <;> rfl
  · intro c; dsimp only; rw [hg]; split
    · exact hx
    · exact h.wsb c
end
end Go.Proofs.YtfjepdcnikgjeaaGreatDoor
