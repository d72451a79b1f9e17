/-
  A world on its way, one of whose machines is being turned: the machine's record stands by itself. (Written by a program of ours.)
-/
import Derived.Test.YtfjepdcnikgjeaaGreatDoorOn
set_option linter.unusedVariables false
set_option linter.unusedSimpArgs false
set_option linter.unusedSectionVars false
namespace Go.Proofs.YtfjepdcnikgjeaaGreatDoor
open Go Go.RowKit Hst Go.Proofs

theorem setM_id (p : Wd) (i : Nat) (hi : i < p.all.length) : p.setM i (p.mach i) = p := by
  unfold Wd.setM Wd.mach
  have : p.all.set i (p.all.getD i Mach.fresh) = p.all := by
    apply List.ext_getElem? ; intro j
    by_cases e : j = i
    · subst e; simp [List.getD_eq_getElem?_getD, hi]
    · rw [List.getElem?_set_ne (Ne.symm e)]
  rw [this]

/-- The world p, but for its machine i, which is m. -/
structure OnM (F : Fix) (V : Vol) (ow0 : Nat → Nat) (w0 : World) (ow : Nat → Nat) (w : World) (p : Wd) (i : Nat) (m : Mach) : Prop where
  on : On F V ow0 w0 ow w (p.setM i m)
  hi : i < p.M

section
variable {F : Fix} {V : Vol} {ow0 ow : Nat → Nat} {w0 w : World} {p : Wd} {i : Nat} {m : Mach}
theorem OnM.len (h : OnM F V ow0 w0 ow w p i m) : i < p.all.length := by
  have := h.on.at_.lens.2.2.1
  have h2 := h.hi
  have h3 : (p.setM i m).all.length = p.all.length := by simp [Wd.setM]
  have h4 : (p.setM i m).M = p.M := rfl
  omega
theorem OnM.start (h : WAt F V ow w p) (hi : i < p.M) : OnM F V ow w ow w p i (p.mach i) := ⟨by rw [setM_id p i (by rw [h.lens.2.2.1]; exact hi)]; exact On.start h, hi⟩
theorem OnM.of_on (h : On F V ow0 w0 ow w p) (hi : i < p.M) : OnM F V ow0 w0 ow w p i (p.mach i) := ⟨by rw [setM_id p i (by rw [h.at_.lens.2.2.1]; exact hi)]; exact h, hi⟩
theorem OnM.drew (h : OnM F V ow0 w0 ow w p i m) : OnM F V ow0 w0 ow w.drew p i m := ⟨h.on.drew, h.hi⟩
theorem OnM.drewN (h : OnM F V ow0 w0 ow w p i m) (n : Nat) : OnM F V ow0 w0 ow (w.drewN n) p i m := ⟨h.on.drewN n, h.hi⟩
theorem OnM.below (h : OnM F V ow0 w0 ow w p i m) {w' : World} (b : Below w.heap.size w w') : OnM F V ow0 w0 (grow ow w.heap.size 0) w' p i m := ⟨h.on.below b, h.hi⟩
theorem OnM.alloc (h : OnM F V ow0 w0 ow w p i m) (o : Obj) : OnM F V ow0 w0 (grow ow w.heap.size 0) (w.alloc o) p i m := ⟨h.on.alloc o, h.hi⟩
theorem OnM.other (h : OnM F V ow0 w0 ow w p i m) {a : Addr} (ha : w0.heap.size ≤ a.block) (ho : a.block < w.heap.size → ow a.block = 0) (v : Value) : OnM F V ow0 w0 ow (w.setCell a v) p i m := ⟨h.on.other ha ho v, h.hi⟩
theorem OnM.fin (h : OnM F V ow0 w0 ow w p i m) {p' : Wd} (e : p.setM i m = p') : On F V ow0 w0 ow w p' := e ▸ h.on
theorem OnM.s_place (h : OnM F V ow0 w0 ow w p i m) (v : Nat) : OnM F V ow0 w0 ow (w.setCell ⟨F.all, i * 18, none⟩ (.int .i64 (v : Nat))) p i { m with place := v } :=
  ⟨(h.on.s_place h.hi v).cast (by rw [mach_self p i m h.len, setM_setM]), h.hi⟩
theorem OnM.s_p (h : OnM F V ow0 w0 ow w p i m) (v : Int) : OnM F V ow0 w0 ow (w.setCell ⟨F.all, i * 18 + 1, none⟩ (.int .i64 v)) p i { m with p := v } :=
  ⟨(h.on.s_p h.hi v).cast (by rw [mach_self p i m h.len, setM_setM]), h.hi⟩
theorem OnM.s_g (h : OnM F V ow0 w0 ow w p i m) (v : Int) : OnM F V ow0 w0 ow (w.setCell ⟨F.all, i * 18 + 2, none⟩ (.int .i64 v)) p i { m with g := v } :=
  ⟨(h.on.s_g h.hi v).cast (by rw [mach_self p i m h.len, setM_setM]), h.hi⟩
theorem OnM.s_next (h : OnM F V ow0 w0 ow w p i m) (v : Int) : OnM F V ow0 w0 ow (w.setCell ⟨F.all, i * 18 + 3, none⟩ (.int .i64 v)) p i { m with next := v } :=
  ⟨(h.on.s_next h.hi v).cast (by rw [mach_self p i m h.len, setM_setM]), h.hi⟩
theorem OnM.s_got (h : OnM F V ow0 w0 ow w p i m) (v : Int) : OnM F V ow0 w0 ow (w.setCell ⟨F.all, i * 18 + 4, none⟩ (.int .i64 v)) p i { m with got := v } :=
  ⟨(h.on.s_got h.hi v).cast (by rw [mach_self p i m h.len, setM_setM]), h.hi⟩
theorem OnM.s_target (h : OnM F V ow0 w0 ow w p i m) (v : Int) : OnM F V ow0 w0 ow (w.setCell ⟨F.all, i * 18 + 5, none⟩ (.int .i64 v)) p i { m with target := v } :=
  ⟨(h.on.s_target h.hi v).cast (by rw [mach_self p i m h.len, setM_setM]), h.hi⟩
theorem OnM.s_i (h : OnM F V ow0 w0 ow w p i m) (v : Int) : OnM F V ow0 w0 ow (w.setCell ⟨F.all, i * 18 + 6, none⟩ (.int .i64 v)) p i { m with i := v } :=
  ⟨(h.on.s_i h.hi v).cast (by rw [mach_self p i m h.len, setM_setM]), h.hi⟩
theorem OnM.s_spin (h : OnM F V ow0 w0 ow w p i m) (v : Bool) : OnM F V ow0 w0 ow (w.setCell ⟨F.all, i * 18 + 7, none⟩ (.bool v)) p i { m with spin := v } :=
  ⟨(h.on.s_spin h.hi v).cast (by rw [mach_self p i m h.len, setM_setM]), h.hi⟩
theorem OnM.s_inn (h : OnM F V ow0 w0 ow w p i m) (v : Bool) : OnM F V ow0 w0 ow (w.setCell ⟨F.all, i * 18 + 8, none⟩ (.bool v)) p i { m with inn := v } :=
  ⟨(h.on.s_inn h.hi v).cast (by rw [mach_self p i m h.len, setM_setM]), h.hi⟩
theorem OnM.s_back (h : OnM F V ow0 w0 ow w p i m) (v : Nat) : OnM F V ow0 w0 ow (w.setCell ⟨F.all, i * 18 + 10, none⟩ (.int .i64 (v : Nat))) p i { m with back := v } :=
  ⟨(h.on.s_back h.hi v).cast (by rw [mach_self p i m h.len, setM_setM]), h.hi⟩
theorem OnM.s_after (h : OnM F V ow0 w0 ow w p i m) (v : Nat) : OnM F V ow0 w0 ow (w.setCell ⟨F.all, i * 18 + 11, none⟩ (.int .i64 (v : Nat))) p i { m with after := v } :=
  ⟨(h.on.s_after h.hi v).cast (by rw [mach_self p i m h.len, setM_setM]), h.hi⟩
theorem OnM.s_arg (h : OnM F V ow0 w0 ow w p i m) (v : Int) : OnM F V ow0 w0 ow (w.setCell ⟨F.all, i * 18 + 12, none⟩ (.int .i64 v)) p i { m with arg := v } :=
  ⟨(h.on.s_arg h.hi v).cast (by rw [mach_self p i m h.len, setM_setM]), h.hi⟩
theorem OnM.s_lkN (h : OnM F V ow0 w0 ow w p i m) (v : Int) : OnM F V ow0 w0 ow (w.setCell ⟨F.all, i * 18 + 13, none⟩ (.int .i64 v)) p i { m with lkN := v } :=
  ⟨(h.on.s_lkN h.hi v).cast (by rw [mach_self p i m h.len, setM_setM]), h.hi⟩
theorem OnM.s_lkS (h : OnM F V ow0 w0 ow w p i m) (v : Int) : OnM F V ow0 w0 ow (w.setCell ⟨F.all, i * 18 + 14, none⟩ (.int .i64 v)) p i { m with lkS := v } :=
  ⟨(h.on.s_lkS h.hi v).cast (by rw [mach_self p i m h.len, setM_setM]), h.hi⟩
theorem OnM.s_stage (h : OnM F V ow0 w0 ow w p i m) (v : Nat) : OnM F V ow0 w0 ow (w.setCell ⟨F.all, i * 18 + 15, none⟩ (.int .i64 (v : Nat))) p i { m with stage := v } :=
  ⟨(h.on.s_stage h.hi v).cast (by rw [mach_self p i m h.len, setM_setM]), h.hi⟩
theorem OnM.s_ticket (h : OnM F V ow0 w0 ow w p i m) (v : Nat) : OnM F V ow0 w0 ow (w.setCell ⟨F.all, i * 18 + 16, none⟩ (.int .u64 (v : Nat))) p i { m with ticket := v } :=
  ⟨(h.on.s_ticket h.hi v).cast (by rw [mach_self p i m h.len, setM_setM]), h.hi⟩
theorem OnM.s_times (h : OnM F V ow0 w0 ow w p i m) (v : Int) : OnM F V ow0 w0 ow (w.setCell ⟨F.all, i * 18 + 17, none⟩ (.int .i64 v)) p i { m with times := v } :=
  ⟨(h.on.s_times h.hi v).cast (by rw [mach_self p i m h.len, setM_setM]), h.hi⟩
theorem OnM.s_flag (h : OnM F V ow0 w0 ow w p i m) {j : Nat} (hj : j < p.M) (v : Bool) : OnM F V ow0 w0 ow (w.setCell ⟨F.flag, j, none⟩ (.bool v)) (p.setF j v) i m := ⟨h.on.s_flag hj v, h.hi⟩
theorem OnM.s_turn (h : OnM F V ow0 w0 ow w p i m) {q : Nat} (hq : q < p.P) (t : Int) : OnM F V ow0 w0 ow (w.setCell ⟨F.turns, q, none⟩ (.int .i64 t)) { p with turns := p.turns.set q t } i m := ⟨h.on.s_turn hq t, h.hi⟩
theorem OnM.s_acc (h : OnM F V ow0 w0 ow w p i m) : OnM F V ow0 w0 ow (w.setCell ⟨F.mem, 1, none⟩ (.int .i64 (wrap64 (p.cnt + 1)))) p.acc i m := ⟨h.on.s_acc, h.hi⟩
theorem OnM.s_word (h : OnM F V ow0 w0 ow w p i m) {a : Nat} (ha : a < nWords p.P p.M p.G) (v : Int) (x : Nat) (e : v = x) (hx : x < 18446744073709551616) : OnM F V ow0 w0 ow (w.setCell ⟨F.ws, a, none⟩ (.int .u64 v)) { p with ws := p.ws.set a x } i m := ⟨h.on.s_word ha v x e hx, h.hi⟩
end
end Go.Proofs.YtfjepdcnikgjeaaGreatDoor
