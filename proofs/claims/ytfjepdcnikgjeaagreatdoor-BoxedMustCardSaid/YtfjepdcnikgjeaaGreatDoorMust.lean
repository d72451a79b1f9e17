/-
  What has to be a step: walked.
-/
import Derived.Defers
import Derived.Recover
import Derived.Stop.Asserts
import Derived.Test.YtfjepdcnikgjeaaGreatDoorThg
set_option linter.unusedVariables false
set_option linter.unusedSimpArgs false
set_option linter.unusedSectionVars false
namespace Go.Proofs.YtfjepdcnikgjeaaGreatDoor
open Go Go.RowKit Hst Go.Proofs

def isStep : Bx → Bool
  | .step _ => true
  | _ => false
set_option maxRecDepth 100000 in
theorem ta_bad (b : Bx) (hb : isStep b = false) (w : World) : ∃ cs T, (Instr.typeAssert b.val 20 40 false).run Tryz.prog w = .halt (.panic (.iface 15 (.pointer (some ⟨w.heap.size, 0, none⟩)))) (w.alloc (.cells cs T)) := by
  cases b
  case step x => cases hb
  case none => exact ⟨#[typeHandle Tryz.prog 20, .pointer Option.none, typeHandle Tryz.prog 40, strVal ""], 384, by kernel_rfl⟩
  case num x => exact ⟨#[typeHandle Tryz.prog 20, typeHandle Tryz.prog 3, typeHandle Tryz.prog 40, strVal ""], 384, by kernel_rfl⟩
  case text x => exact ⟨#[typeHandle Tryz.prog 20, typeHandle Tryz.prog 9, typeHandle Tryz.prog 40, strVal ""], 384, by kernel_rfl⟩
  case rune x => exact ⟨#[typeHandle Tryz.prog 20, typeHandle Tryz.prog 21, typeHandle Tryz.prog 40, strVal ""], 384, by kernel_rfl⟩
  case config x => exact ⟨#[typeHandle Tryz.prog 20, typeHandle Tryz.prog 24, typeHandle Tryz.prog 40, strVal ""], 384, by kernel_rfl⟩
  case event x => exact ⟨#[typeHandle Tryz.prog 20, typeHandle Tryz.prog 43, typeHandle Tryz.prog 40, strVal ""], 384, by kernel_rfl⟩
  case err x => exact ⟨#[typeHandle Tryz.prog 20, typeHandle Tryz.prog 214, typeHandle Tryz.prog 40, strVal ""], 384, by kernel_rfl⟩
  case truth x => exact ⟨#[typeHandle Tryz.prog 20, typeHandle Tryz.prog 4, typeHandle Tryz.prog 40, strVal ""], 384, by kernel_rfl⟩
  case ptr x => exact ⟨#[typeHandle Tryz.prog 20, typeHandle Tryz.prog 137, typeHandle Tryz.prog 40, strVal ""], 384, by kernel_rfl⟩

set_option maxHeartbeats 1600000 in
set_option maxRecDepth 100000 in
theorem mustStep_bad (b : Bx) (hb : isStep b = false) (w : World) : Calls Tryz.prog 79 #[b.val] w fun e w' => ∃ g, e = .panicked [{ v := .iface 15 (.pointer (some ⟨g, 0, none⟩)), recovered := false }] ∧ Below w.heap.size w w' := by
  obtain ⟨cs, T, h⟩ := ta_bad b hb (w.alloc (.cells #[.int .u8 0, .int .u8 0, .int .i64 0, .int .i64 0, .int .i64 0] 40))
  have hk : Below w.heap.size w ((w.alloc (.cells #[.int .u8 0, .int .u8 0, .int .i64 0, .int .i64 0, .int .i64 0] 40)).alloc (.cells cs T)) := (below_alloc w _).trans ((below_alloc _ _).mono (by simp))
  generalize b.val = v at *
  go_enter Tryz.func79, Tryz.ntmps79
  go_wp2
  simp [bodyPost]
  exact hk
set_option maxHeartbeats 1600000 in
set_option maxRecDepth 100000 in
theorem mustStep_ok (s : Hst.Stp) (w : World) : Calls Tryz.prog 79 #[(Bx.step s).val] w fun e w' => e = .returned (stV s) ∧ Below w.heap.size w w' := by
  have h : ∀ w, (Instr.typeAssert (.iface 40 (.agg #[.int .u8 (s.kind : Nat), .int .u8 (s.act : Nat), .int .i64 s.a, .int .i64 s.x, .int .i64 s.d])) 20 40 false).run Tryz.prog w = .ok (.agg #[.int .u8 (s.kind : Nat), .int .u8 (s.act : Nat), .int .i64 s.a, .int .i64 s.x, .int .i64 s.d]) w := fun w => by kernel_rfl
  dsimp only [Bx.val, stV]
  go_enter Tryz.func79, Tryz.ntmps79
  go_wp2
  go_returns
  exact ⟨rfl, by go_grown⟩
def overPost (d : List Deferred) (W : World) : Exit → Act → World → Prop
  | .normal, a, w => a.defers = d ∧ w = W
  | _, _, _ => False
theorem wp_over {P : Program} {c : Code} {Q : Exit → Act → World → Prop} {a : Act} {w : World} (W : World)
    (h : c.wp P (overPost a.defers W) a w) (hq : ∀ a', a'.defers = a.defers → Q .normal a' W) : c.wp P Q a w := by
  refine Code.wp_mono ?_ h
  intro e a' w' h
  cases e <;> simp only [overPost] at h
  obtain ⟨h1, rfl⟩ := h
  exact hq a' h1
set_option maxHeartbeats 1000000 in
set_option maxRecDepth 100000 in
theorem must1_panics (p q : Addr) (pv : Value) (older : List PanicEntry) (x y : Value) (w : World) (hc : w.cell? p = some x) (hz : w.frozen? p = false)
    (hd : w.cell? q = some y) (hy : w.frozen? q = false) (hpq : p.block ≠ q.block) :
    CallsD Tryz.prog 78 #[.pointer (some p), .pointer (some q)] (.panicking ({ v := .iface 15 pv, recovered := false } :: older)) w fun e u' w' =>
      e = .returned (.tuple #[]) ∧ u' = .panicking ({ v := .iface 15 pv, recovered := true } :: older) ∧ w' = (w.drew.setCell p (.bool true)).setCell q (.bool true) := by
  refine callsD_of_wpS Tryz.func78 rfl fun c₀ cs hu => ?_
  simp only [Tryz.ntmps78, List.size_toArray, List.length_cons, List.length_nil, Nat.reduceAdd, Nat.reduceSub, Array.replicate_succ, Array.replicate_zero, List.push_toArray, List.append_toArray, List.nil_append, List.cons_append]
  apply wpS_seq
  apply wpS_region
  simp [wpOpsS, go_sem, recoverD, hu, Exit.thenS]
  apply wpS_seq
  apply wpS_region
  have ht : ∀ w, (Instr.typeAssert (.iface 15 pv) 20 138 true).run Tryz.prog w = .ok (.tuple #[.iface 15 pv, .bool true]) w := fun w => run_typeAssert_hasB Tryz.underlying138 (by kernel_rfl) pv 20 w
  simp [wpOpsS, go_sem, Exit.thenS]
  refine wpS_cond (t := true) (by simp [Act.eval, Array.replicate]) ?_
  simp only [if_true]
  refine wpS_of_wp ?_
  go_wp2
  refine wp_over ((w.drew.setCell p (.bool true)).setCell q (.bool true)) ?_ ?_
  · have hc1 : w.drew.cell? p = some x := hc
    have hz1 : w.drew.frozen? p = false := hz
    have hd1 : w.drew.cell? q = some y := hd
    have hy1 : w.drew.frozen? q = false := hy
    have hd2 : (w.setCell p (.bool true)).cell? q = some y := (World.cell?_setCell_other (a := p) (b := q) (w := w) (v := .bool true) fun e => hpq (congrArg Addr.block e)).trans hd
    have hc2 : (w.setCell q (.bool true)).cell? p = some x := (World.cell?_setCell_other (a := q) (b := p) (w := w) (v := .bool true) fun e => hpq (congrArg Addr.block e).symm).trans hc
    clear hu ht hd1 hc1
    go_region
    all_goals exact ⟨rfl, rfl⟩
  · intro a' h
    show bodyPostS Tryz.prog _ _ _ _ .normal a' _ _
    simp [bodyPostS, results, Tryz.results78, go_sem, h]

set_option maxHeartbeats 1000000 in
set_option maxRecDepth 100000 in
theorem must1_idle (p q : Addr) (w : World) :
    CallsD Tryz.prog 78 #[.pointer (some p), .pointer (some q)] .returning w fun e u' w' => e = .returned (.tuple #[]) ∧ u' = .returning ∧ w' = w := by
  refine callsD_of_wpS Tryz.func78 rfl fun c₀ cs hu => ?_
  simp only [Tryz.ntmps78, List.size_toArray, List.length_cons, List.length_nil, Nat.reduceAdd, Nat.reduceSub, Array.replicate_succ, Array.replicate_zero, List.push_toArray, List.append_toArray, List.nil_append, List.cons_append]
  apply wpS_seq
  apply wpS_region
  simp [wpOpsS, go_sem, recoverD, hu, Exit.thenS]
  apply wpS_seq
  apply wpS_region
  simp [wpOpsS, go_sem, Exit.thenS]
  refine wpS_cond (t := false) (by simp [Act.eval, Array.replicate]) ?_
  simp only [Bool.false_eq_true, if_false]
  refine wpS_of_wp (wp_skip ?_)
  cases c₀
  simp_all [bodyPostS, results, Tryz.results78]

theorem heaps3 (w : World) (o0 o1 o2 : Obj) : (((w.alloc o0).alloc o1).alloc o2).heap[w.heap.size]? = some o0 ∧ (((w.alloc o0).alloc o1).alloc o2).heap[w.heap.size + 1]? = some o1 ∧ (((w.alloc o0).alloc o1).alloc o2).heap[w.heap.size + 1 + 1]? = some o2 := by
  have e1 : (w.alloc o0).heap.size = w.heap.size + 1 := by simp
  have e2 : ((w.alloc o0).alloc o1).heap.size = w.heap.size + 1 + 1 := by simp
  refine ⟨?_, ?_, ?_⟩
  · rw [Below.heap_alloc _ _ _ (by omega), Below.heap_alloc _ _ _ (by omega)]; exact heap_alloc_new _ _
  · rw [Below.heap_alloc _ _ _ (by omega), ← e1]; exact heap_alloc_new _ _
  · rw [← e2]; exact heap_alloc_new _ _

set_option maxRecDepth 100000 in
theorem must_res (W : World) (n : Nat) (v d x y z : Value) (k c a x' t' : Value) (p q : Value)
    (b0 : W.heap[n]? = some (.cells #[k, c, a, x', t'] 40)) (b1 : W.heap[n + 1]? = some (.cells #[p] 4)) (b2 : W.heap[n + 1 + 1]? = some (.cells #[q] 4)) :
    (results Tryz.f30 #[v, d, .pointer (some ⟨n, 0, none⟩), .pointer (some ⟨n + 1, 0, none⟩), .pointer (some ⟨n + 1 + 1, 0, none⟩), x, y, z]).run Tryz.prog W = .ok (.tuple #[.agg #[k, c, a, x', t'], p, q]) W := by
  have c0 := box_cell b0 0
  have c1 := box_cell b0 1
  have c2 := box_cell b0 2
  have c3 := box_cell b0 3
  have c4 := box_cell b0 4
  have d1 := box_cell b1 0
  have d2 := box_cell b2 0
  clear b0 b1 b2
  simp at c0 c1 c2 c3 c4 d1 d2
  simp [results, Tryz.results30, go_sem, c0, c1, c2, c3, c4, d1, d2]

set_option maxHeartbeats 1000000 in
set_option maxRecDepth 100000 in
theorem must_bad (b : Bx) (hb : isStep b = false) (w : World) : Calls Tryz.prog 30 #[b.val] w fun e w' => e = .returned (.tuple #[.agg #[.int .u8 0, .int .u8 0, .int .i64 0, .int .i64 0, .int .i64 0], .bool true, .bool true]) ∧ Below w.heap.size w w' := by
  have hc := fun w => mustStep_bad b hb w
  have hmf : ∀ (fn : Fn) (first cap : Array Value) (w : World), (Instr.makeFunc fn first cap).run Tryz.prog w = .ok (.func fn first cap) w := fun _ _ _ _ => rfl
  generalize b.val = v at *
  go_enter_defers Tryz.func30, Tryz.ntmps30
  go_wp2_with fail
  refine (hc _).mono ?_
  rintro e w2 ⟨g, rfl, K⟩
  have H3 := heaps3 w (.cells #[.int .u8 0, .int .u8 0, .int .i64 0, .int .i64 0, .int .i64 0] 40) (.cells #[.bool false] 4) (.cells #[.bool false] 4)
  have hsz : (((w.alloc (.cells #[.int .u8 0, .int .u8 0, .int .i64 0, .int .i64 0, .int .i64 0] 40)).alloc (.cells #[.bool false] 4)).alloc (.cells #[.bool false] 4)).heap.size = w.heap.size + 3 := by simp
  have K0 : Below w.heap.size w w2 := ((below_alloc w _).trans (((below_alloc _ _).mono (by simp)).trans ((below_alloc _ _).mono (by simp; omega)))).trans (K.mono (by omega))
  have b0 := (K.block w.heap.size (by omega)).trans H3.1
  have b1 := (K.block (w.heap.size + 1) (by omega)).trans H3.2.1
  have b2 := (K.block (w.heap.size + 1 + 1) (by omega)).trans H3.2.2
  clear H3 hsz K
  show bodyPostD Tryz.prog _ _ _ _ _
  refine leaves_cons (f := 78) (args := #[.pointer (some ⟨w.heap.size + 1, 0, none⟩), .pointer (some ⟨w.heap.size + 1 + 1, 0, none⟩)]) (by simp) (by simp [go_sem]) ?_
  refine (must1_panics ⟨w.heap.size + 1, 0, none⟩ ⟨w.heap.size + 1 + 1, 0, none⟩ _ [] (.bool false) (.bool false) w2 (box_cell b1 0) ?_ (box_cell b2 0) ?_ (by simp)).mono ?_
  · simp [World.frozen?, b1]
  · simp [World.frozen?, b2]
  rintro e u' w3 ⟨rfl, rfl, rfl⟩
  simp only [settle, List.dropWhile_nil]
  refine ⟨_, must_res _ w.heap.size _ _ _ _ _ (.int .u8 0) (.int .u8 0) (.int .i64 0) (.int .i64 0) (.int .i64 0) (.bool true) (.bool true) ?_ ?_ ?_, rfl, ?_⟩
  · rw [Below.heap_setCell _ _ _ _ (by simp; omega), Below.heap_setCell _ _ _ _ (by simp)]; exact b0
  · rw [Below.heap_setCell _ _ _ _ (by simp)]; exact one_setCell b1
  · exact one_setCell (by rw [Below.heap_setCell _ _ _ _ (by simp)]; exact b2)
  · have ek : Below w.heap.size w2 w2.drew := ⟨rfl, rfl, rfl, Nat.le_refl _, fun _ _ => rfl⟩
    exact ((K0.trans ek).setCell (by simp) _).setCell (by simp; omega) _


set_option maxHeartbeats 1000000 in
set_option maxRecDepth 100000 in
theorem must_good (s : Hst.Stp) (w : World) : Calls Tryz.prog 30 #[(Bx.step s).val] w fun e w' => e = .returned (.tuple #[stV s, .bool false, .bool true]) ∧ Below w.heap.size w w' := by
  have hc := fun w => mustStep_ok s w
  have hmf : ∀ (fn : Fn) (first cap : Array Value) (w : World), (Instr.makeFunc fn first cap).run Tryz.prog w = .ok (.func fn first cap) w := fun _ _ _ _ => rfl
  generalize (Bx.step s).val = v at *
  unfold stV at *
  go_enter_defers Tryz.func30, Tryz.ntmps30
  go_wp2_with fail
  refine (hc _).mono ?_
  rintro e w2 ⟨rfl, K⟩
  have H3 := heaps3 w (.cells #[.int .u8 0, .int .u8 0, .int .i64 0, .int .i64 0, .int .i64 0] 40) (.cells #[.bool false] 4) (.cells #[.bool false] 4)
  have hsz : (((w.alloc (.cells #[.int .u8 0, .int .u8 0, .int .i64 0, .int .i64 0, .int .i64 0] 40)).alloc (.cells #[.bool false] 4)).alloc (.cells #[.bool false] 4)).heap.size = w.heap.size + 3 := by simp
  have K0 : Below w.heap.size w w2 := ((below_alloc w _).trans (((below_alloc _ _).mono (by simp)).trans ((below_alloc _ _).mono (by simp; omega)))).trans (K.mono (by omega))
  have b0 := (K.block w.heap.size (by omega)).trans H3.1
  have b1 := (K.block (w.heap.size + 1) (by omega)).trans H3.2.1
  have b2 := (K.block (w.heap.size + 1 + 1) (by omega)).trans H3.2.2
  clear H3 hsz K
  have c0 := box_cell b0 0
  have c1 := box_cell b0 1
  have c2 := box_cell b0 2
  have c3 := box_cell b0 3
  have c4 := box_cell b0 4
  have d1 := box_cell b1 0
  have d2 := box_cell b2 0
  have z0 : ∀ o, w2.frozen? ⟨w.heap.size, o, none⟩ = false := fun o => by simp [World.frozen?, b0]
  have z1 : ∀ o, w2.frozen? ⟨w.heap.size + 1, o, none⟩ = false := fun o => by simp [World.frozen?, b1]
  have z2 : ∀ o, w2.frozen? ⟨w.heap.size + 1 + 1, o, none⟩ = false := fun o => by simp [World.frozen?, b2]
  simp at c0 c1 c2 c3 c4 d1 d2
  go_wp2_with fail
  refine leaves_cons (f := 78) (args := #[.pointer (some ⟨w.heap.size + 1, 0, none⟩), .pointer (some ⟨w.heap.size + 1 + 1, 0, none⟩)]) (by simp) (by simp [go_sem]) ?_
  refine (must1_idle ⟨w.heap.size + 1, 0, none⟩ ⟨w.heap.size + 1 + 1, 0, none⟩ _).mono ?_
  rintro e u' w3 ⟨rfl, rfl, rfl⟩
  simp only [settle]
  refine ⟨_, must_res _ w.heap.size _ _ _ _ _ (.int .u8 s.kind) (.int .u8 s.act) (.int .i64 s.a) (.int .i64 s.x) (.int .i64 s.d) (.bool false) (.bool true) ?_ ?_ ?_, rfl, ?_⟩
  · rw [Below.heap_setCell _ _ _ _ (by simp; omega), Below.heap_setCell _ _ _ _ (by simp)]
    have e0 := heap_setCell_same _ _ 0 _ _ (.int .u8 s.kind) b0
    have e1 := heap_setCell_same _ _ 1 _ _ (.int .u8 s.act) e0
    have e2 := heap_setCell_same _ _ 2 _ _ (.int .i64 s.a) e1
    have e3 := heap_setCell_same _ _ 3 _ _ (.int .i64 s.x) e2
    have e4 := heap_setCell_same _ _ 4 _ _ (.int .i64 s.d) e3
    exact e4
  · rw [Below.heap_setCell _ _ _ _ (by simp)]
    refine one_setCell (v := .bool false) ?_
    rw [Below.heap_setCell _ _ _ _ (by simp), Below.heap_setCell _ _ _ _ (by simp), Below.heap_setCell _ _ _ _ (by simp), Below.heap_setCell _ _ _ _ (by simp), Below.heap_setCell _ _ _ _ (by simp)]
    exact b1
  · refine one_setCell (v := .bool false) ?_
    rw [Below.heap_setCell _ _ _ _ (by simp), Below.heap_setCell _ _ _ _ (by simp; omega), Below.heap_setCell _ _ _ _ (by simp; omega), Below.heap_setCell _ _ _ _ (by simp; omega), Below.heap_setCell _ _ _ _ (by simp; omega), Below.heap_setCell _ _ _ _ (by simp; omega)]
    exact b2
  · exact ((((((K0.setCell (Nat.le_refl _) _).setCell (Nat.le_refl _) _).setCell (Nat.le_refl _) _).setCell (Nat.le_refl _) _).setCell (Nat.le_refl _) _).setCell (by simp) _).setCell (by simp; omega) _

end Go.Proofs.YtfjepdcnikgjeaaGreatDoor
