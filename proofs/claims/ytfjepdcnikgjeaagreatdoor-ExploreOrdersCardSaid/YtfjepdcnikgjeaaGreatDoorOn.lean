/-
  A world on its way: from the call's beginning to here. Each store of a walk as one step of it. (Written by a program of ours.)
-/
import Derived.Test.YtfjepdcnikgjeaaGreatDoorFields
set_option linter.unusedVariables false
set_option linter.unusedSimpArgs false
set_option linter.unusedSectionVars false
namespace Go.Proofs.YtfjepdcnikgjeaaGreatDoor
open Go Go.RowKit Hst Go.Proofs

theorem mach_self (p : Wd) (i : Nat) (m : Mach) (hi : i < p.all.length) : (p.setM i m).mach i = m := by rw [mach_setM p i i m hi, if_pos rfl]

structure On (F : Fix) (V : Vol) (ow0 : Nat → Nat) (w0 : World) (ow : Nat → Nat) (w : World) (p : Wd) : Prop where
  at_ : WAt F V ow w p
  st : Stp ow0 ow w0 w

theorem WAt.same {F : Fix} {V : Vol} {ow : Nat → Nat} {w w' : World} {p : Wd} (h : WAt F V ow w p) (ow' : Nat → Nat) (e : ∀ b, b < w.heap.size → ow' b = ow b) (a : Agree (fun b => ow b ≠ 0) w w') : WAt F V ow' w' p := by
  obtain ⟨l1, l2, l3, l4, l5⟩ := h.lens
  exact h.upd (fun _ => False) ⟨rfl, rfl, rfl⟩ ⟨l1, l2, l3, l4, l5⟩ e (a.mono fun x _ hx => hx.1) (.inl ⟨id, rfl⟩) (.inl ⟨id, rfl⟩) (.inl ⟨id, rfl⟩) id (fun q _ => .inl ⟨id, rfl⟩)
    (.inl ⟨id, rfl⟩) (.inl ⟨id, rfl⟩) (.inl ⟨id, rfl⟩) (.inl ⟨id, rfl⟩) (.inl ⟨id, rfl, rfl⟩) (fun j _ => .inl ⟨id, rfl, rfl⟩) (.inl ⟨id, rfl⟩) (.inl ⟨id, rfl, rfl⟩)
section
variable {F : Fix} {V : Vol} {ow0 ow : Nat → Nat} {w0 w : World} {p : Wd}
theorem On.start (h : WAt F V ow w p) : On F V ow w ow w p := ⟨h, Stp.refl _ _⟩
theorem On.drew (h : On F V ow0 w0 ow w p) : On F V ow0 w0 ow w.drew p := ⟨h.at_.same ow (fun _ _ => rfl) ⟨Nat.le_refl _, fun _ _ _ => rfl⟩, ⟨h.st.os, h.st.tape, h.st.output, h.st.size, h.st.own, h.st.block⟩⟩
theorem On.drewN (h : On F V ow0 w0 ow w p) (n : Nat) : On F V ow0 w0 ow (w.drewN n) p := ⟨h.at_.same ow (fun _ _ => rfl) ⟨Nat.le_refl _, fun _ _ _ => rfl⟩, ⟨h.st.os, h.st.tape, h.st.output, h.st.size, h.st.own, h.st.block⟩⟩
/-- New blocks that aren't the world's. -/
theorem On.below (h : On F V ow0 w0 ow w p) {w' : World} (b : Below w.heap.size w w') : On F V ow0 w0 (grow ow w.heap.size 0) w' p :=
  ⟨h.at_.same _ (fun _ hb => grow_lt hb) ⟨b.size, fun x hx _ => b.block x hx⟩, h.st.trans ⟨b.os, b.tape, b.output, b.size, fun _ hb => grow_lt hb, fun x hx _ => b.block x hx⟩⟩
theorem On.alloc (h : On F V ow0 w0 ow w p) (o : Obj) : On F V ow0 w0 (grow ow w.heap.size 0) (w.alloc o) p := h.below (below_alloc w o)
/-- A store into a block that isn't the world's, nor was there at first. -/
theorem On.other (h : On F V ow0 w0 ow w p) {a : Addr} (ha : w0.heap.size ≤ a.block) (ho : a.block < w.heap.size → ow a.block = 0) (v : Value) : On F V ow0 w0 ow (w.setCell a v) p := by
  have hb : ∀ b, b < w.heap.size → ow b ≠ 0 → (w.setCell a v).heap[b]? = w.heap[b]? := fun b hb hx => Below.heap_setCell w a v b (fun e => hx (by rw [e]; exact ho (e ▸ hb)))
  exact ⟨h.at_.same ow (fun _ _ => rfl) ⟨by simp, hb⟩, ⟨h.st.os, h.st.tape, h.st.output, by simpa using h.st.size, h.st.own, fun b hb' hx => (Below.heap_setCell w a v b (by omega)).trans (h.st.block b hb' hx)⟩⟩
theorem On.cast (h : On F V ow0 w0 ow w p) {p' : Wd} (e : p = p') : On F V ow0 w0 ow w p' := e ▸ h
theorem On.s_place (h : On F V ow0 w0 ow w p) {i : Nat} (hi : i < p.M) (v : Nat) : On F V ow0 w0 ow (w.setCell ⟨F.all, i * 18, none⟩ (.int .i64 (v : Nat))) (p.setM i { p.mach i with place := v }) :=
  ⟨h.at_.sA_place hi v, h.st.trans (stp_set h.at_.own.2.2.2.2.2.1 (by decide) _ _)⟩
theorem On.s_p (h : On F V ow0 w0 ow w p) {i : Nat} (hi : i < p.M) (v : Int) : On F V ow0 w0 ow (w.setCell ⟨F.all, i * 18 + 1, none⟩ (.int .i64 v)) (p.setM i { p.mach i with p := v }) :=
  ⟨h.at_.sA_p hi v, h.st.trans (stp_set h.at_.own.2.2.2.2.2.1 (by decide) _ _)⟩
theorem On.s_g (h : On F V ow0 w0 ow w p) {i : Nat} (hi : i < p.M) (v : Int) : On F V ow0 w0 ow (w.setCell ⟨F.all, i * 18 + 2, none⟩ (.int .i64 v)) (p.setM i { p.mach i with g := v }) :=
  ⟨h.at_.sA_g hi v, h.st.trans (stp_set h.at_.own.2.2.2.2.2.1 (by decide) _ _)⟩
theorem On.s_next (h : On F V ow0 w0 ow w p) {i : Nat} (hi : i < p.M) (v : Int) : On F V ow0 w0 ow (w.setCell ⟨F.all, i * 18 + 3, none⟩ (.int .i64 v)) (p.setM i { p.mach i with next := v }) :=
  ⟨h.at_.sA_next hi v, h.st.trans (stp_set h.at_.own.2.2.2.2.2.1 (by decide) _ _)⟩
theorem On.s_got (h : On F V ow0 w0 ow w p) {i : Nat} (hi : i < p.M) (v : Int) : On F V ow0 w0 ow (w.setCell ⟨F.all, i * 18 + 4, none⟩ (.int .i64 v)) (p.setM i { p.mach i with got := v }) :=
  ⟨h.at_.sA_got hi v, h.st.trans (stp_set h.at_.own.2.2.2.2.2.1 (by decide) _ _)⟩
theorem On.s_target (h : On F V ow0 w0 ow w p) {i : Nat} (hi : i < p.M) (v : Int) : On F V ow0 w0 ow (w.setCell ⟨F.all, i * 18 + 5, none⟩ (.int .i64 v)) (p.setM i { p.mach i with target := v }) :=
  ⟨h.at_.sA_target hi v, h.st.trans (stp_set h.at_.own.2.2.2.2.2.1 (by decide) _ _)⟩
theorem On.s_i (h : On F V ow0 w0 ow w p) {i : Nat} (hi : i < p.M) (v : Int) : On F V ow0 w0 ow (w.setCell ⟨F.all, i * 18 + 6, none⟩ (.int .i64 v)) (p.setM i { p.mach i with i := v }) :=
  ⟨h.at_.sA_i hi v, h.st.trans (stp_set h.at_.own.2.2.2.2.2.1 (by decide) _ _)⟩
theorem On.s_spin (h : On F V ow0 w0 ow w p) {i : Nat} (hi : i < p.M) (v : Bool) : On F V ow0 w0 ow (w.setCell ⟨F.all, i * 18 + 7, none⟩ (.bool v)) (p.setM i { p.mach i with spin := v }) :=
  ⟨h.at_.sA_spin hi v, h.st.trans (stp_set h.at_.own.2.2.2.2.2.1 (by decide) _ _)⟩
theorem On.s_inn (h : On F V ow0 w0 ow w p) {i : Nat} (hi : i < p.M) (v : Bool) : On F V ow0 w0 ow (w.setCell ⟨F.all, i * 18 + 8, none⟩ (.bool v)) (p.setM i { p.mach i with inn := v }) :=
  ⟨h.at_.sA_inn hi v, h.st.trans (stp_set h.at_.own.2.2.2.2.2.1 (by decide) _ _)⟩
theorem On.s_back (h : On F V ow0 w0 ow w p) {i : Nat} (hi : i < p.M) (v : Nat) : On F V ow0 w0 ow (w.setCell ⟨F.all, i * 18 + 10, none⟩ (.int .i64 (v : Nat))) (p.setM i { p.mach i with back := v }) :=
  ⟨h.at_.sA_back hi v, h.st.trans (stp_set h.at_.own.2.2.2.2.2.1 (by decide) _ _)⟩
theorem On.s_after (h : On F V ow0 w0 ow w p) {i : Nat} (hi : i < p.M) (v : Nat) : On F V ow0 w0 ow (w.setCell ⟨F.all, i * 18 + 11, none⟩ (.int .i64 (v : Nat))) (p.setM i { p.mach i with after := v }) :=
  ⟨h.at_.sA_after hi v, h.st.trans (stp_set h.at_.own.2.2.2.2.2.1 (by decide) _ _)⟩
theorem On.s_arg (h : On F V ow0 w0 ow w p) {i : Nat} (hi : i < p.M) (v : Int) : On F V ow0 w0 ow (w.setCell ⟨F.all, i * 18 + 12, none⟩ (.int .i64 v)) (p.setM i { p.mach i with arg := v }) :=
  ⟨h.at_.sA_arg hi v, h.st.trans (stp_set h.at_.own.2.2.2.2.2.1 (by decide) _ _)⟩
theorem On.s_lkN (h : On F V ow0 w0 ow w p) {i : Nat} (hi : i < p.M) (v : Int) : On F V ow0 w0 ow (w.setCell ⟨F.all, i * 18 + 13, none⟩ (.int .i64 v)) (p.setM i { p.mach i with lkN := v }) :=
  ⟨h.at_.sA_lkN hi v, h.st.trans (stp_set h.at_.own.2.2.2.2.2.1 (by decide) _ _)⟩
theorem On.s_lkS (h : On F V ow0 w0 ow w p) {i : Nat} (hi : i < p.M) (v : Int) : On F V ow0 w0 ow (w.setCell ⟨F.all, i * 18 + 14, none⟩ (.int .i64 v)) (p.setM i { p.mach i with lkS := v }) :=
  ⟨h.at_.sA_lkS hi v, h.st.trans (stp_set h.at_.own.2.2.2.2.2.1 (by decide) _ _)⟩
theorem On.s_stage (h : On F V ow0 w0 ow w p) {i : Nat} (hi : i < p.M) (v : Nat) : On F V ow0 w0 ow (w.setCell ⟨F.all, i * 18 + 15, none⟩ (.int .i64 (v : Nat))) (p.setM i { p.mach i with stage := v }) :=
  ⟨h.at_.sA_stage hi v, h.st.trans (stp_set h.at_.own.2.2.2.2.2.1 (by decide) _ _)⟩
theorem On.s_ticket (h : On F V ow0 w0 ow w p) {i : Nat} (hi : i < p.M) (v : Nat) : On F V ow0 w0 ow (w.setCell ⟨F.all, i * 18 + 16, none⟩ (.int .u64 (v : Nat))) (p.setM i { p.mach i with ticket := v }) :=
  ⟨h.at_.sA_ticket hi v, h.st.trans (stp_set h.at_.own.2.2.2.2.2.1 (by decide) _ _)⟩
theorem On.s_times (h : On F V ow0 w0 ow w p) {i : Nat} (hi : i < p.M) (v : Int) : On F V ow0 w0 ow (w.setCell ⟨F.all, i * 18 + 17, none⟩ (.int .i64 v)) (p.setM i { p.mach i with times := v }) :=
  ⟨h.at_.sA_times hi v, h.st.trans (stp_set h.at_.own.2.2.2.2.2.1 (by decide) _ _)⟩
theorem On.s_flag (h : On F V ow0 w0 ow w p) {i : Nat} (hi : i < p.M) (v : Bool) : On F V ow0 w0 ow (w.setCell ⟨F.flag, i, none⟩ (.bool v)) (p.setF i v) :=
  ⟨h.at_.setFl hi v, h.st.trans (stp_set h.at_.own.2.2.2.2.2.2.1 (by decide) _ _)⟩
theorem On.s_turn (h : On F V ow0 w0 ow w p) {q : Nat} (hq : q < p.P) (t : Int) : On F V ow0 w0 ow (w.setCell ⟨F.turns, q, none⟩ (.int .i64 t)) { p with turns := p.turns.set q t } :=
  ⟨h.at_.setTurn hq t, h.st.trans (stp_set h.at_.own.2.2.2.2.1 (by decide) _ _)⟩
theorem On.s_acc (h : On F V ow0 w0 ow w p) : On F V ow0 w0 ow (w.setCell ⟨F.mem, 1, none⟩ (.int .i64 (wrap64 (p.cnt + 1)))) p.acc :=
  ⟨h.at_.accd, h.st.trans (stp_set h.at_.own.2.1 (by decide) _ _)⟩
theorem On.s_word (h : On F V ow0 w0 ow w p) {a : Nat} (ha : a < nWords p.P p.M p.G) (v : Int) (x : Nat) (e : v = x) (hx : x < 18446744073709551616) : On F V ow0 w0 ow (w.setCell ⟨F.ws, a, none⟩ (.int .u64 v)) { p with ws := p.ws.set a x } := by
  subst e
  exact ⟨h.at_.word ha x hx, h.st.trans (stp_set h.at_.own.2.2.1 (by decide) _ _)⟩
end
end Go.Proofs.YtfjepdcnikgjeaaGreatDoor
