/-
  Contracts of the memory's functions, and of the locks', over a world on its way.
-/
import Derived.Test.YtfjepdcnikgjeaaGreatDoorOnM
import Derived.Handy
set_option linter.unusedVariables false
set_option linter.unusedSimpArgs false
set_option linter.unusedSectionVars false
namespace Go.Proofs.YtfjepdcnikgjeaaGreatDoor
open Go Go.RowKit Hst Go.Proofs

theorem WAt.nw {F : Fix} {V : Vol} {ow : Nat → Nat} {w : World} {p : Wd} (h : WAt F V ow w p) : nWords p.P p.M p.G ≤ 65536 := by
  obtain ⟨_, _, _, _, _, _⟩ := h.dim
  unfold nWords; omega

theorem On.then_ {F : Fix} {V V' : Vol} {ow0 ow ow' : Nat → Nat} {w0 w w' : World} {p p' : Wd} (h : On F V ow0 w0 ow w p) (k : On F V' ow w ow' w' p') : On F V' ow0 w0 ow' w' p' := ⟨k.at_, h.st.trans k.st⟩
/-- A cell that isn't the world's is as it was. -/
theorem On.keeps {F : Fix} {V : Vol} {ow0 ow : Nat → Nat} {w0 w : World} {p : Wd} (h : On F V ow0 w0 ow w p) {b o : Nat} {v : Value} (hb : ow0 b = 0) (hc : w0.cell? ⟨b, o, none⟩ = some v) : w.cell? ⟨b, o, none⟩ = some v :=
  (World.cell?_of_block (w := w0) (a := ⟨b, o, none⟩) (h.st.block b (World.block_lt_of_cell? w0 _ hc) hb)).trans hc
theorem grow_self (ow : Nat → Nat) (s k : Nat) : grow ow s k s = k := if_neg (by omega)

section
variable {F : Fix} {V : Vol} {ow : Nat → Nat} {w : World} {p : Wd}

set_option maxRecDepth 100000 in
theorem load_on (h : WAt F V ow w p) (a : Nat) (ha : a < nWords p.P p.M p.G) :
    Calls Tryz.prog 115 #[.pointer (some ⟨F.mem, 0, none⟩), .int .i64 a] w fun e w' => e = .returned (.int .u64 (p.ld a : Nat)) ∧ On F V ow w ow w' p.acc := by
  have m0 := h.cM_ws
  have m1 := h.cM_cnt
  have cs := h.cS ha
  have fM := h.cmem.2
  have fS := h.cws.2
  have hne := h.own.ne.2.2.2.2.2.2.1
  have lM := h.cmem.lt (by decide)
  have lS := h.cws.lt (by unfold nWords; omega)
  have hn := h.nw
  have H := Lib.hid h
  clear h
  go_enter Tryz.func115, Tryz.ntmps115
  go_wp2
  go_ret
  exact ⟨rfl, (On.start H.out).s_acc⟩

set_option maxRecDepth 100000 in
theorem store_on (h : WAt F V ow w p) (a : Nat) (ha : a < nWords p.P p.M p.G) (x : Nat) (hx : x < 18446744073709551616) :
    Calls Tryz.prog 226 #[.pointer (some ⟨F.mem, 0, none⟩), .int .i64 a, .int .u64 x] w fun e w' => e = .returned (.bool true) ∧ On F V ow w ow w' (p.st a x) := by
  have m0 := h.cM_ws
  have m1 := h.cM_cnt
  have cs := h.cS ha
  have fM := h.cmem.2
  have fS := h.cws.2
  have hne := h.own.ne.2.2.2.2.2.2.1
  have lM := h.cmem.lt (by decide)
  have lS := h.cws.lt (by unfold nWords; omega)
  have hn := h.nw
  have H := Lib.hid h
  clear h
  go_enter Tryz.func226, Tryz.ntmps226
  go_wp2
  go_ret
  exact ⟨rfl, (On.start H.out).s_acc.s_word ha _ _ rfl hx⟩

set_option maxRecDepth 100000 in
theorem swap_on (h : WAt F V ow w p) (a : Nat) (ha : a < nWords p.P p.M p.G) (o x : Nat) (hx : x < 18446744073709551616) :
    Calls Tryz.prog 151 #[.pointer (some ⟨F.mem, 0, none⟩), .int .i64 a, .int .u64 o, .int .u64 x] w fun e w' => e = .returned (.bool (p.ld a == o)) ∧ On F V ow w ow w' (p.swap a o x) := by
  have m0 := h.cM_ws
  have m1 := h.cM_cnt
  have cs := h.cS ha
  have fM := h.cmem.2
  have fS := h.cws.2
  have hne := h.own.ne.2.2.2.2.2.2.1
  have lM := h.cmem.lt (by decide)
  have lS := h.cws.lt (by unfold nWords; omega)
  have hn := h.nw
  have H := Lib.hid h
  clear h
  by_cases he : p.ld a = o
  · subst he
    go_enter Tryz.func151, Tryz.ntmps151
    go_wp2
    all_goals go_ret
    all_goals exact ⟨by rw [beq_self_eq_true]; rfl, by unfold Wd.swap; rw [if_pos rfl]; exact (On.start H.out).s_acc.s_word ha _ _ rfl hx⟩
  · have e1 : ((p.ld a : Int) == (o : Int)) = false := by rw [beq_eq_false_iff_ne]; omega
    have e2 : (p.ld a == o) = false := by rw [beq_eq_false_iff_ne]; exact he
    have He := Lib.hid he
    clear he
    go_enter Tryz.func151, Tryz.ntmps151
    go_wp2
    all_goals go_ret
    all_goals exact ⟨by rw [e2]; rfl, by unfold Wd.swap; rw [if_neg He.out]; exact (On.start H.out).s_acc⟩

set_option maxRecDepth 100000 in
/-- Add of 1. -/
theorem more_on (h : WAt F V ow w p) (a : Nat) (ha : a < nWords p.P p.M p.G) :
    Calls Tryz.prog 178 #[.pointer (some ⟨F.mem, 0, none⟩), .int .i64 a, .int .i64 1] w fun e w' => e = .returned (.int .u64 (((p.ld a + 1) % 2 ^ 64 : Nat) : Int)) ∧ On F V ow w ow w' (p.more a) := by
  have m0 := h.cM_ws
  have m1 := h.cM_cnt
  have cs := h.cS ha
  have fM := h.cmem.2
  have fS := h.cws.2
  have hne := h.own.ne.2.2.2.2.2.2.1
  have lM := h.cmem.lt (by decide)
  have lS := h.cws.lt (by unfold nWords; omega)
  have hn := h.nw
  have hx : p.ld a < 18446744073709551616 := h.wsb a
  have H := Lib.hid h
  clear h
  go_enter Tryz.func178, Tryz.ntmps178
  go_wp2
  go_ret
  have e1 : IntKind.u64.wrap ((p.ld a : Nat) + 1 : Int) = (((p.ld a + 1) % 2 ^ 64 : Nat) : Int) := by rw [IntKind.wrap_u64]; omega
  rw [e1]
  exact ⟨rfl, (On.start H.out).s_acc.s_word ha _ _ rfl (by omega)⟩

set_option maxRecDepth 100000 in
/-- Add of -1. -/
theorem less_on (h : WAt F V ow w p) (a : Nat) (ha : a < nWords p.P p.M p.G) :
    Calls Tryz.prog 178 #[.pointer (some ⟨F.mem, 0, none⟩), .int .i64 a, .int .i64 (-1)] w fun e w' => ∃ v, e = .returned v ∧ On F V ow w ow w' (p.less a) := by
  have m0 := h.cM_ws
  have m1 := h.cM_cnt
  have cs := h.cS ha
  have fM := h.cmem.2
  have fS := h.cws.2
  have hne := h.own.ne.2.2.2.2.2.2.1
  have lM := h.cmem.lt (by decide)
  have lS := h.cws.lt (by unfold nWords; omega)
  have hn := h.nw
  have hx : p.ld a < 18446744073709551616 := h.wsb a
  have H := Lib.hid h
  clear h
  go_enter Tryz.func178, Tryz.ntmps178
  go_wp2
  go_ret
  have e1 : IntKind.u64.wrap ((p.ld a : Nat) + IntKind.u64.wrap (-1)) = (((p.ld a + (2 ^ 64 - 1)) % 2 ^ 64 : Nat) : Int) := by rw [IntKind.wrap_u64, IntKind.wrap_u64]; omega
  rw [e1]
  exact ⟨_, rfl, (On.start H.out).s_acc.s_word ha _ _ rfl (by omega)⟩

def lockV (a b : Int) : Value := .agg #[.int .i64 a, .int .i64 b]

set_option maxRecDepth 100000 in
theorem take_on (h : WAt F V ow w p) (a : Nat) (b : Int) (ha : a < nWords p.P p.M p.G) :
    Calls Tryz.prog 205 #[.agg #[.int .i64 a, .int .i64 b], .pointer (some ⟨F.mem, 0, none⟩)] w fun e w' => e = .returned (.int .u64 (p.ld a : Nat)) ∧ ∃ ow', On F V ow w ow' w' (p.more a) := by
  have hx : p.ld a < 18446744073709551616 := h.wsb a
  have H := Lib.hid h
  clear h
  go_enter Tryz.func205, Tryz.ntmps205
  go_wp2_with fail
  refine (more_on ((On.start H.out).alloc _).at_ a ha).mono ?_
  rintro e w1 ⟨rfl, h1⟩
  go_wp2
  go_ret
  have e2 : IntKind.u64.wrap (((p.ld a : Int) + 1) % 18446744073709551616 - 1) = ((p.ld a : Nat) : Int) := by rw [IntKind.wrap_u64]; omega
  rw [e2]
  exact ⟨rfl, _, ((On.start H.out).alloc _).then_ h1⟩

set_option maxRecDepth 100000 in
theorem held_on (h : WAt F V ow w p) (a : Int) (b t : Nat) (hb : b < nWords p.P p.M p.G) (ht : t < 18446744073709551616) :
    Calls Tryz.prog 206 #[.agg #[.int .i64 a, .int .i64 b], .pointer (some ⟨F.mem, 0, none⟩), .int .u64 t] w fun e w' => e = .returned (.bool (p.ld b == t)) ∧ ∃ ow', On F V ow w ow' w' p.acc := by
  have hx : p.ld b < 18446744073709551616 := h.wsb b
  have e0 : (IntKind.u64.wrap ((t : Int) - (p.ld b : Int)) == 0) = (p.ld b == t) := by
    rw [Bool.eq_iff_iff, beq_iff_eq, beq_iff_eq, IntKind.wrap_u64]; omega
  have H := Lib.hid h
  have E := Lib.hid e0
  clear h e0
  go_enter Tryz.func206, Tryz.ntmps206
  go_wp2_with (first | (go_at_call 237; go_in) | fail)
  refine (load_on (((On.start H.out).alloc _).alloc _).at_ b hb).mono ?_
  rintro e w1 ⟨rfl, h1⟩
  go_wp2
  go_ret
  exact ⟨by rw [← E.out]; rfl, _, (((On.start H.out).alloc _).alloc _).then_ h1⟩

set_option maxRecDepth 100000 in
theorem free_on (h : WAt F V ow w p) (a : Int) (b t : Nat) (hb : b < nWords p.P p.M p.G) (ht : t < 18446744073709551616) (he : p.ld b = t) :
    Calls Tryz.prog 207 #[.agg #[.int .i64 a, .int .i64 b], .pointer (some ⟨F.mem, 0, none⟩), .int .u64 t] w fun e w' => e = .returned (.bool true) ∧ ∃ ow', On F V ow w ow' w' (p.acc.st b ((t + 1) % 2 ^ 64)) := by
  have e1 : (p.ld b == t) = true := by rw [beq_iff_eq]; exact he
  have H := Lib.hid h
  clear h he
  go_enter Tryz.func207, Tryz.ntmps207
  go_wp2_with fail
  refine (held_on ((On.start H.out).alloc _).at_ a b t hb ht).mono ?_
  rintro e w1 ⟨rfl, ow1, h1⟩
  have c0 := h1.keeps (b := w.heap.size) (o := 1) (v := .int .i64 b) (grow_self _ _ _) (by rw [cell_new]; rfl)
  have H1 := Lib.hid (((On.start H.out).alloc _).then_ h1)
  rw [e1]
  clear e1 h1
  go_wp2_with fail
  have e2 : IntKind.u64.wrap ((t : Int) + 1) = (((t + 1) % 2 ^ 64 : Nat) : Int) := by rw [IntKind.wrap_u64]; omega
  rw [e2]
  refine (store_on H1.out.at_ b hb _ (by omega)).mono ?_
  rintro e w2 ⟨rfl, h2⟩
  go_wp2
  go_ret
  exact ⟨rfl, _, H1.out.then_ h2⟩
end
end Go.Proofs.YtfjepdcnikgjeaaGreatDoor
