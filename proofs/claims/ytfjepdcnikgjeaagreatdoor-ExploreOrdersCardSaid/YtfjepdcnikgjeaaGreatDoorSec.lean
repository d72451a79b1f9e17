/-
  Contracts of a section's step, stage by stage.
-/
import Derived.Test.YtfjepdcnikgjeaaGreatDoorLog
import Derived.Laws.EntriesVeiled
set_option linter.unusedVariables false
set_option linter.unusedSimpArgs false
set_option linter.unusedSectionVars false
namespace Go.Proofs.YtfjepdcnikgjeaaGreatDoor
open Go Go.RowKit Hst Go.Proofs

set_option maxRecDepth 100000 in
set_option maxHeartbeats 1600000 in
theorem sec_take (F : Fix) (V : Vol) (ow : Nat → Nat) (w : World) (p : Wd) (h : WAt F V ow w p) (i a : Nat) (hi : i < p.M) (hs : (p.mach i).stage = 0) (hk : (p.mach i).lkN = (a : Int)) (ha : a < nWords p.P p.M p.G) (fn : Value) :
    Calls Tryz.prog 174 #[.pointer (some ⟨F.all, i * 18 + 13, none⟩), .pointer (some ⟨F.mem, 0, none⟩), fn] w fun e w' =>
      e = .returned (.bool false) ∧ ∃ ow', On F V ow w ow' w' ((p.more a).setM i { p.mach i with ticket := p.ld a, stage := 1 }) := by
  have c13 := h.cA_lkN hi
  have c14 := h.cA_lkS hi
  have c15 := h.cA_stage hi
  have c16 := h.cA_ticket hi
  have m0 := h.cM_ws
  have m1 := h.cM_cnt
  have cs := h.cS ha
  have hx : p.ld a < 18446744073709551616 := h.wsb a
  have fA := h.call.2
  have fM := h.cmem.2
  have fS := h.cws.2
  obtain ⟨n1, n2, n3, n4, n5, n6, n7, n8, n9, n10, n11, n12, n13, n14, n15, n16, n17, n18⟩ := h.own.ne
  have hd := h.dim
  rw [hs] at c15
  rw [hk] at c13
  simp only [Int.natCast_zero] at c15
  have lA := h.call.lt (by omega)
  have lM := h.cmem.lt (by decide)
  have lS := h.cws.lt (by unfold nWords; omega)
  have hn : nWords p.P p.M p.G ≤ 65536 := by unfold nWords; obtain ⟨_, _, _, _, _, _⟩ := hd; omega
  have H := Lib.hid h
  clear h
  go_enter Tryz.func174, Tryz.ntmps174
  go_wp2
  go_ret
  have e1 : IntKind.u64.wrap ((p.ld a : Nat) + 1 : Int) = (((p.ld a + 1) % 2 ^ 64 : Nat) : Int) := by rw [IntKind.wrap_u64]; omega
  have e2 : IntKind.u64.wrap (IntKind.u64.wrap ((p.ld a : Nat) + 1 : Int) - 1) = ((p.ld a : Nat) : Int) := by rw [IntKind.wrap_u64, IntKind.wrap_u64]; omega
  rw [e2, e1]
  exact ⟨rfl, _, (((((OnM.start H.out hi).s_acc.s_word ha _ _ rfl (by omega)).s_ticket _).s_stage _).alloc _).fin rfl⟩

theorem stage_cases {P : Prop} {x y : Nat} (h : ¬ x = y → P) (h2 : x = y → P) : P := by by_cases e : x = y; exact h2 e; exact h e

set_option maxRecDepth 100000 in
set_option maxHeartbeats 1600000 in
theorem sec_wait (F : Fix) (V : Vol) (ow : Nat → Nat) (w : World) (p : Wd) (h : WAt F V ow w p) (i a : Nat) (hi : i < p.M) (hs : (p.mach i).stage = 1) (hk : (p.mach i).lkS = (a : Int)) (ha : a < nWords p.P p.M p.G) (ht : (p.mach i).ticket < 18446744073709551616) (fn : Value) :
    Calls Tryz.prog 174 #[.pointer (some ⟨F.all, i * 18 + 13, none⟩), .pointer (some ⟨F.mem, 0, none⟩), fn] w fun e w' =>
      e = .returned (.bool false) ∧ ∃ ow', On F V ow w ow' w' (if p.ld a = (p.mach i).ticket then p.acc.setM i { p.mach i with stage := 2 } else p.acc) := by
  have c13 := h.cA_lkN hi
  have c14 := h.cA_lkS hi
  have c15 := h.cA_stage hi
  have c16 := h.cA_ticket hi
  have m0 := h.cM_ws
  have m1 := h.cM_cnt
  have cs := h.cS ha
  have hx : p.ld a < 18446744073709551616 := h.wsb a
  have fA := h.call.2
  have fM := h.cmem.2
  have fS := h.cws.2
  obtain ⟨n1, n2, n3, n4, n5, n6, n7, n8, n9, n10, n11, n12, n13, n14, n15, n16, n17, n18⟩ := h.own.ne
  have hd := h.dim
  rw [hs] at c15
  rw [hk] at c14
  simp only [Int.natCast_one] at c15
  have lA := h.call.lt (by omega)
  have lM := h.cmem.lt (by decide)
  have lS := h.cws.lt (by unfold nWords; omega)
  have hn : nWords p.P p.M p.G ≤ 65536 := by unfold nWords; obtain ⟨_, _, _, _, _, _⟩ := hd; omega
  have H := Lib.hid h
  clear h
  have Ha := Lib.hid ha
  clear hs hk ha
  by_cases he : p.ld a = (p.mach i).ticket
  · rw [if_pos he]
    rw [he] at cs
    have Hc := Lib.hid he
    clear he hx
    have e0 : IntKind.u64.wrap (((p.mach i).ticket : Int) - ((p.mach i).ticket : Int)) = 0 := by rw [IntKind.wrap_u64]; omega
    have ha := Ha.out
    go_enter Tryz.func174, Tryz.ntmps174
    go_wp2
    go_still_tail 9, (by kernel_rfl)
    change wpList _ _ _ _ _ w.drew
    go_wp2
    go_ret
    exact ⟨rfl, _, (((((OnM.start H.out hi).s_acc).s_stage 2).alloc _).alloc _).drew.fin rfl⟩
  · rw [if_neg he]
    have e0 : (IntKind.u64.wrap (((p.mach i).ticket : Int) - (p.ld a : Int)) == 0) = false := by
      rw [beq_eq_false_iff_ne, IntKind.wrap_u64]; intro e; apply he; omega
    have e1 : ((((p.mach i).ticket : Int) - (p.ld a : Int)) % 18446744073709551616 == 0) = false := by rw [← IntKind.wrap_u64]; exact e0
    have Hc := Lib.hid he
    clear he hx
    have ha := Ha.out
    go_enter Tryz.func174, Tryz.ntmps174
    go_wp2
    go_still_tail 9, (by kernel_rfl)
    change wpList _ _ _ _ _ w.drew
    go_wp2
    go_ret
    exact ⟨rfl, _, ((((On.start H.out).s_acc).alloc _).alloc _).drew⟩

set_option maxRecDepth 100000 in
set_option maxHeartbeats 1600000 in
/-- The lock is given up: who holds it (its ticket is what is served) frees it. -/
theorem sec_free (F : Fix) (V : Vol) (ow : Nat → Nat) (w : World) (p : Wd) (h : WAt F V ow w p) (i a : Nat) (hi : i < p.M) (hs : (p.mach i).stage = 3) (hk : (p.mach i).lkS = (a : Int)) (ha : a < nWords p.P p.M p.G) (ht : (p.mach i).ticket < 18446744073709551616) (he : p.ld a = (p.mach i).ticket) (fn : Value) :
    Calls Tryz.prog 174 #[.pointer (some ⟨F.all, i * 18 + 13, none⟩), .pointer (some ⟨F.mem, 0, none⟩), fn] w fun e w' =>
      e = .returned (.bool true) ∧ ∃ ow', On F V ow w ow' w' ((p.acc.st a (((p.mach i).ticket + 1) % 2 ^ 64)).setM i { p.mach i with stage := 4 }) := by
  have c13 := h.cA_lkN hi
  have c14 := h.cA_lkS hi
  have c15 := h.cA_stage hi
  have c16 := h.cA_ticket hi
  rw [hs] at c15
  rw [hk] at c14
  have hf := free_on ((On.start h).drew).at_ (p.mach i).lkN a (p.mach i).ticket ha ht he
  have H := Lib.hid h
  have HF := Lib.hid hf
  clear h hs hk he hf
  go_enter Tryz.func174, Tryz.ntmps174
  go_wp2
  go_still_tail 9, (by kernel_rfl)
  change wpList _ _ _ _ _ w.drew
  go_wp2_with fail
  refine HF.out.mono ?_
  rintro e w1 ⟨rfl, ow1, h1⟩
  have k15 := h1.at_.cA_stage hi
  have kf := h1.at_.call.2
  have H1 := Lib.hid h1
  clear h1 c13 c14 c15 c16
  go_wp2
  go_ret
  exact ⟨rfl, _, ((OnM.of_on ((On.start H.out).drew.then_ H1.out) hi).s_stage 4).fin rfl⟩

/-- What a machine does with its lock held, called. -/
def DoOK (N : Nat) (p : Wd) (i : Nat) (t : Int) (p' : Wd) (more : Bool) : Prop := ∀ (F : Fix) (V : Vol) (ow : Nat → Nat) (w : World), WAt F V ow w p → Env N ow w →
  Calls Tryz.prog 176 #[.pointer (some ⟨F.W, 0, none⟩), .int .i64 i, .int .i64 t] w fun e w' => e = .returned (.bool more) ∧ ∃ V' ow', On F V' ow w ow' w' p'

set_option maxRecDepth 100000 in
set_option maxHeartbeats 1600000 in
theorem locked1_any (N : Nat) (F : Fix) (V : Vol) (ow : Nat → Nat) (w : World) (p p' : Wd) (h : WAt F V ow w p) (E : Env N ow w) (i bw bi : Nat) (t : Int) (more : Bool) (hd : DoOK N p i t p' more)
    (hbw : w.cell? ⟨bw, 0, none⟩ = some (.pointer (some ⟨F.W, 0, none⟩))) (hbi : w.cell? ⟨bi, 0, none⟩ = some (.int .i64 i)) :
    Calls Tryz.prog 175 #[.int .i64 t, .pointer (some ⟨bw, 0, none⟩), .pointer (some ⟨bi, 0, none⟩)] w fun e w' => e = .returned (.bool more) ∧ ∃ V' ow', On F V' ow w ow' w' p' := by
  have hd2 := hd F V ow w h E
  have HD := Lib.hid hd2
  clear hd hd2 h E
  go_enter Tryz.func175, Tryz.ntmps175
  go_wp2_with fail
  refine HD.out.mono ?_
  rintro e w1 ⟨rfl, V', ow1, h1⟩
  go_wp2
  go_ret
  exact ⟨rfl, V', _, h1⟩

set_option maxRecDepth 100000 in
set_option maxHeartbeats 1600000 in
theorem sec_do (N : Nat) (F : Fix) (V : Vol) (ow : Nat → Nat) (w : World) (p p' : Wd) (h : WAt F V ow w p) (E : Env N ow w) (i bw bi : Nat) (more : Bool) (hi : i < p.M) (hs : (p.mach i).stage = 2) (hd : DoOK N p i (p.mach i).times p' more) (hi' : i < p'.M) (hs' : (p'.mach i).stage = 2)
    (hbw : w.cell? ⟨bw, 0, none⟩ = some (.pointer (some ⟨F.W, 0, none⟩))) (hbi : w.cell? ⟨bi, 0, none⟩ = some (.int .i64 i)) :
    Calls Tryz.prog 174 #[.pointer (some ⟨F.all, i * 18 + 13, none⟩), .pointer (some ⟨F.mem, 0, none⟩), .func (.func 175) #[] #[.pointer (some ⟨bw, 0, none⟩), .pointer (some ⟨bi, 0, none⟩)]] w fun e w' =>
      e = .returned (.bool false) ∧ ∃ V' ow', On F V' ow w ow' w' (p'.setM i { p'.mach i with times := wrap64 ((p'.mach i).times + 1), stage := if more then 2 else 3 }) := by
  have c15 := h.cA_stage hi
  have c17 := h.cA_times hi
  rw [hs] at c15
  have hd2 := locked1_any N F V ow w p p' h E i bw bi (p.mach i).times more hd hbw hbi
  have HD := Lib.hid hd2
  clear hd hd2 h E hs hbw hbi
  have hS := Lib.hid hs'
  clear hs'
  have hneq : ∀ w : World, (binOp .neq 114 (.func (.func 175) #[] #[.pointer (some ⟨bw, 0, none⟩), .pointer (some ⟨bi, 0, none⟩)]) .nilFunc).run Tryz.prog w = .ok (.bool true) w := fun w => by kernel_rfl
  go_enter Tryz.func174, Tryz.ntmps174
  go_wp2_with fail
  refine HD.out.mono ?_
  rintro e w1 ⟨rfl, V', ow1, h1⟩
  have k15 := h1.at_.cA_stage hi'
  have k17 := h1.at_.cA_times hi'
  have kf := h1.at_.call.2
  rw [hS.out] at k15
  have H1 := Lib.hid h1
  clear h1 c15 c17 hneq
  cases more
  · go_wp2
    go_ret
    exact ⟨rfl, V', _, ((((OnM.of_on H1.out hi').s_times _).s_stage 3).fin rfl)⟩
  · go_wp2
    go_ret
    refine ⟨rfl, V', _, (((OnM.of_on H1.out hi').s_times _).fin ?_)⟩
    rw [hS.out]
end Go.Proofs.YtfjepdcnikgjeaaGreatDoor
