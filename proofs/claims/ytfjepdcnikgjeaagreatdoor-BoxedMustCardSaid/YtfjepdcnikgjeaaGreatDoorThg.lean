/-
  (Raw).thing, walked by its kind. (Written by a program of ours.)
-/
import Derived.Laws.Runes
import Derived.BigRegion
import Derived.StillTailTactics
import Derived.Test.YtfjepdcnikgjeaaGreatDoorThgP
import Derived.Test.YtfjepdcnikgjeaaGreatDoorTalJ
set_option linter.unusedVariables false
set_option linter.unusedSimpArgs false
set_option linter.unusedSectionVars false
namespace Go.Proofs.YtfjepdcnikgjeaaGreatDoor
open Go Go.RowKit Hst Go.Proofs

theorem info_thg : (Tryz.prog.info? 50).map (·.size) = some 11 := by kernel_rfl
theorem info_raw : (Tryz.prog.info? 45).map (·.size) = some 17 := by kernel_rfl
/-- The law's call hands a thing and the document's one. -/
def ThingOK (r : RawT) : Prop := ∀ w : World, Calls Tryz.prog 29 #[.agg (rawC r)] w fun e w' => (∃ v, e = .returned (.tuple #[(bxOf r v).val, .agg (thC (thOf r))])) ∧ Below w.heap.size w w'

theorem new_two {w : World} {cs zs : Array Value} {t u : TypeId} : ((w.alloc (.cells cs t)).alloc (.cells zs u)).heap[w.heap.size]? = some (.cells cs t (0, 0)) ∧ ((w.alloc (.cells cs t)).alloc (.cells zs u)).heap[w.heap.size + 1]? = some (.cells zs u (0, 0)) ∧ Below w.heap.size w ((w.alloc (.cells cs t)).alloc (.cells zs u)) :=
  ⟨(two_at w _ _).1, (two_at w _ _).2, (below_alloc w _).trans ((below_alloc _ _).mono (by simp))⟩

set_option maxRecDepth 100000 in
theorem errnew_any (s : ByteArray) (w : World) : Calls Tryz.prog 77 #[.string s] w fun e w' => ∃ g, e = .returned (.iface 214 (.pointer (some ⟨g, 0, none⟩))) ∧ Below w.heap.size w w' := by
  go_enter Tryz.func77, Tryz.ntmps77
  go_wp2
  go_returns
  exact ⟨w.heap.size, rfl, below_alloc _ _⟩

theorem results_slot_cell {P : Program} {fn : Func} {p q : Tmp} {ty : TypeId} (h : fn.results = #[.tmp q, .cell p ty]) (tmps : Array Value) (w : World) (g : Nat) (t : TypeId) (cs : Array Value) (fr : Nat × Nat) (d : TypeDesc) (v : Value) (hv : tmps.getD q undef = v)
    (hp : tmps.getD p undef = .pointer (some ⟨g, 0, none⟩)) (hg : w.heap[g]? = some (.cells cs t fr))
    (hu : P.underlying ty = some d) (hd : (match d with | .struct _ | .array _ _ => true | _ => false) = true) (hi : (P.info? ty).map (·.size) = some cs.size) :
    (results fn tmps).run P w = .ok (.tuple #[v, .agg cs]) w := by
  have hp' : tmps[p]?.getD undef = .pointer (some ⟨g, 0, none⟩) := by simpa using hp
  have hv' : tmps[q]?.getD undef = v := by simpa using hv
  simp [results, h, hp', hv', asAddr, run_loadVar_row w g t ty cs fr d hg hu hd hi]
def zeroThg : Array Value := #[.int .i64 0, .int .i64 0, .int .i64 0, .int .i64 0, .int .u8 0, .int .u8 0, .int .i64 0, .int .i64 0, .int .i64 0, .int .i64 0, .string ⟨#[]⟩]


set_option maxHeartbeats 6400000 in
set_option maxRecDepth 100000 in
theorem thing_0 (r : RawT) (hk : r.kind ≤ 255) (hm : r.kind % 10 = 0) : ThingOK r := by
  intro w
  have ht : thOf r = th0 0 := by unfold thOf; rw [hm]; rfl
  have hb : ∀ v, bxOf r v = .none := fun v => by unfold bxOf; rw [hm]; rfl
  simp only [hb, ht]
  clear hb ht
  have h1 : (r.kind : Int).tmod 10 = 0 := by rw [Int.tmod_eq_emod_of_nonneg (by omega)]; omega
  have h1' : (r.kind : Int) % 10 = 0 := by omega
  have h2 : IntKind.u8.wrap (0 : Int) = 0 := by decide
  obtain ⟨kind, p, m, g, ⟨sk, sa, s0, s1, s2⟩, ⟨e0, e1, e2, e3, e4⟩, num, rune, text⟩ := r
  dsimp only [rawC, thC, th0, st0, Bx.val, stV] at *
  go_enter Tryz.func29, Tryz.ntmps29
  obtain ⟨hx0, hy0, hb0⟩ := @new_two w #[.int .u8 (kind : Nat), .int .i64 p, .int .i64 m, .int .i64 g, .int .u8 (sk : Nat), .int .u8 (sa : Nat), .int .i64 s0, .int .i64 s1, .int .i64 s2, .int .i64 e0, .int .i64 e1, .int .i64 e2, .int .i64 e3, .int .i64 e4, .int .i64 num, .int .i32 rune, .string text] zeroThg 45 50
  have HY := Lib.hid hy0
  have HB := Lib.hid hb0
  clear hx0 hy0 hb0
  go_wp2_with (first | (refine wpList_store_row rfl 50 _ _ rfl (w.heap.size + 1) _ rfl rfl 50 _ HY.out info_thg rfl (by simp [Value.oneCell']) ?_))
  apply bodyPost_ret (v := .tuple #[.nilIface, .agg #[.int .i64 0, .int .i64 0, .int .i64 0, .int .i64 0, .int .u8 0, .int .u8 0, .int .i64 0, .int .i64 0, .int .i64 0, .int .i64 0, .string ⟨#[]⟩]])
  · exact results_slot_cell (p := 3) (q := 2) (ty := 50) rfl _ _ (w.heap.size + 1) 50 #[.int .i64 0, .int .i64 0, .int .i64 0, .int .i64 0, .int .u8 0, .int .u8 0, .int .i64 0, .int .i64 0, .int .i64 0, .int .i64 0, .string ⟨#[]⟩] (0, 0) _ _ rfl rfl (setRow_heap _ _ _ _ _ _ HY.out) Tryz.underlying50 rfl info_thg
  · rfl
  · refine ⟨⟨.nilIface, rfl⟩, ?_⟩
    have hB := HB.out
    exact ⟨hB.os, hB.tape, hB.output, by have := hB.size; simpa using this, fun k hk => (setRow_other _ _ _ _ (by omega)).trans (hB.block k hk)⟩

set_option maxHeartbeats 6400000 in
set_option maxRecDepth 100000 in
theorem thing_1 (r : RawT) (hk : r.kind ≤ 255) (hm : r.kind % 10 = 1) : ThingOK r := by
  intro w
  have ht : thOf r = { th0 1 with p := r.p, m := r.m, g := r.g } := by unfold thOf; rw [hm]; rfl
  have hb : ∀ v, bxOf r v = .config (.agg #[.int .i64 r.p, .int .i64 r.m, .int .i64 r.g]) := fun v => by unfold bxOf; rw [hm]; rfl
  simp only [hb, ht]
  clear hb ht
  have h1 : (r.kind : Int).tmod 10 = 1 := by rw [Int.tmod_eq_emod_of_nonneg (by omega)]; omega
  have h1' : (r.kind : Int) % 10 = 1 := by omega
  have h2 : IntKind.u8.wrap (1 : Int) = 1 := by decide
  obtain ⟨kind, p, m, g, ⟨sk, sa, s0, s1, s2⟩, ⟨e0, e1, e2, e3, e4⟩, num, rune, text⟩ := r
  dsimp only [rawC, thC, th0, st0, Bx.val, stV] at *
  go_enter Tryz.func29, Tryz.ntmps29
  go_wp2
  refine on_gen (fun wb => wb.heap[w.heap.size]? = some (.cells #[.int .u8 (kind : Nat), .int .i64 p, .int .i64 m, .int .i64 g, .int .u8 (sk : Nat), .int .u8 (sa : Nat), .int .i64 s0, .int .i64 s1, .int .i64 s2, .int .i64 e0, .int .i64 e1, .int .i64 e2, .int .i64 e3, .int .i64 e4, .int .i64 num, .int .i32 rune, .string text] 45 (0, 0)) ∧ wb.heap[w.heap.size + 1]? = some (.cells zeroThg 50 (0, 0)) ∧ Below w.heap.size w wb) new_two ?_
  rintro wb ⟨hx, hy, hbw⟩
  have x0 := box_cell hx 0
  have x1 := box_cell hx 1
  have x2 := box_cell hx 2
  have x3 := box_cell hx 3
  have x4 := box_cell hx 4
  have x5 := box_cell hx 5
  have x6 := box_cell hx 6
  have x7 := box_cell hx 7
  have x8 := box_cell hx 8
  have x9 := box_cell hx 9
  have x10 := box_cell hx 10
  have x11 := box_cell hx 11
  have x12 := box_cell hx 12
  have x13 := box_cell hx 13
  have x14 := box_cell hx 14
  have x15 := box_cell hx 15
  have x16 := box_cell hx 16
  have hlx := box_lt hx
  have hly := box_lt hy
  have HY := Lib.hid hy
  have HB := Lib.hid hbw
  clear hx hy hbw
  go_still_tail 14, (by kernel_rfl)
  change wpList _ _ _ _ _ wb.drew
  go_wp2_with (first | (refine wpList_store_row rfl 50 _ _ rfl (w.heap.size + 1) _ rfl rfl 50 _ (show wb.drew.heap[w.heap.size + 1]? = _ from HY.out) info_thg rfl (by simp [Value.oneCell']) ?_))
  apply bodyPost_ret (v := .tuple #[(.iface 24 (.agg #[.int .i64 p, .int .i64 m, .int .i64 g])), .agg #[.int .i64 1, .int .i64 p, .int .i64 m, .int .i64 g, .int .u8 0, .int .u8 0, .int .i64 0, .int .i64 0, .int .i64 0, .int .i64 0, .string ⟨#[]⟩]])
  · exact results_slot_cell (p := 3) (q := 2) (ty := 50) rfl _ _ (w.heap.size + 1) 50 #[.int .i64 1, .int .i64 p, .int .i64 m, .int .i64 g, .int .u8 0, .int .u8 0, .int .i64 0, .int .i64 0, .int .i64 0, .int .i64 0, .string ⟨#[]⟩] (0, 0) _ _ rfl rfl (setRow_heap _ _ _ _ _ _ (show wb.drew.heap[w.heap.size + 1]? = _ from HY.out)) Tryz.underlying50 rfl info_thg
  · rfl
  · refine ⟨⟨.nilIface, rfl⟩, ?_⟩
    have hB := HB.out
    exact ⟨hB.os, hB.tape, hB.output, by have := hB.size; simpa using this, fun k hk => (setRow_other _ _ _ _ (by omega)).trans (hB.block k hk)⟩

set_option maxHeartbeats 6400000 in
set_option maxRecDepth 100000 in
theorem thing_2 (r : RawT) (hk : r.kind ≤ 255) (hm : r.kind % 10 = 2) : ThingOK r := by
  intro w
  have ht : thOf r = { th0 2 with step := r.step } := by unfold thOf; rw [hm]; rfl
  have hb : ∀ v, bxOf r v = .step r.step := fun v => by unfold bxOf; rw [hm]; rfl
  simp only [hb, ht]
  clear hb ht
  have h1 : (r.kind : Int).tmod 10 = 2 := by rw [Int.tmod_eq_emod_of_nonneg (by omega)]; omega
  have h1' : (r.kind : Int) % 10 = 2 := by omega
  have h2 : IntKind.u8.wrap (2 : Int) = 2 := by decide
  obtain ⟨kind, p, m, g, ⟨sk, sa, s0, s1, s2⟩, ⟨e0, e1, e2, e3, e4⟩, num, rune, text⟩ := r
  dsimp only [rawC, thC, th0, st0, Bx.val, stV] at *
  go_enter Tryz.func29, Tryz.ntmps29
  go_wp2
  refine on_gen (fun wb => wb.heap[w.heap.size]? = some (.cells #[.int .u8 (kind : Nat), .int .i64 p, .int .i64 m, .int .i64 g, .int .u8 (sk : Nat), .int .u8 (sa : Nat), .int .i64 s0, .int .i64 s1, .int .i64 s2, .int .i64 e0, .int .i64 e1, .int .i64 e2, .int .i64 e3, .int .i64 e4, .int .i64 num, .int .i32 rune, .string text] 45 (0, 0)) ∧ wb.heap[w.heap.size + 1]? = some (.cells zeroThg 50 (0, 0)) ∧ Below w.heap.size w wb) new_two ?_
  rintro wb ⟨hx, hy, hbw⟩
  have x0 := box_cell hx 0
  have x1 := box_cell hx 1
  have x2 := box_cell hx 2
  have x3 := box_cell hx 3
  have x4 := box_cell hx 4
  have x5 := box_cell hx 5
  have x6 := box_cell hx 6
  have x7 := box_cell hx 7
  have x8 := box_cell hx 8
  have x9 := box_cell hx 9
  have x10 := box_cell hx 10
  have x11 := box_cell hx 11
  have x12 := box_cell hx 12
  have x13 := box_cell hx 13
  have x14 := box_cell hx 14
  have x15 := box_cell hx 15
  have x16 := box_cell hx 16
  have hlx := box_lt hx
  have hly := box_lt hy
  have HY := Lib.hid hy
  have HB := Lib.hid hbw
  clear hx hy hbw
  go_still_tail 7, (by kernel_rfl)
  change wpList _ _ _ _ _ wb.drew
  go_wp2_with (first | (refine wpList_store_row rfl 50 _ _ rfl (w.heap.size + 1) _ rfl rfl 50 _ (show wb.drew.heap[w.heap.size + 1]? = _ from HY.out) info_thg rfl (by simp [Value.oneCell']) ?_))
  apply bodyPost_ret (v := .tuple #[(.iface 40 (.agg #[.int .u8 (sk : Nat), .int .u8 (sa : Nat), .int .i64 s0, .int .i64 s1, .int .i64 s2])), .agg #[.int .i64 2, .int .i64 0, .int .i64 0, .int .i64 0, .int .u8 (sk : Nat), .int .u8 (sa : Nat), .int .i64 s0, .int .i64 s1, .int .i64 s2, .int .i64 0, .string ⟨#[]⟩]])
  · exact results_slot_cell (p := 3) (q := 2) (ty := 50) rfl _ _ (w.heap.size + 1) 50 #[.int .i64 2, .int .i64 0, .int .i64 0, .int .i64 0, .int .u8 (sk : Nat), .int .u8 (sa : Nat), .int .i64 s0, .int .i64 s1, .int .i64 s2, .int .i64 0, .string ⟨#[]⟩] (0, 0) _ _ rfl rfl (setRow_heap _ _ _ _ _ _ (show wb.drew.heap[w.heap.size + 1]? = _ from HY.out)) Tryz.underlying50 rfl info_thg
  · rfl
  · refine ⟨⟨.nilIface, rfl⟩, ?_⟩
    have hB := HB.out
    exact ⟨hB.os, hB.tape, hB.output, by have := hB.size; simpa using this, fun k hk => (setRow_other _ _ _ _ (by omega)).trans (hB.block k hk)⟩

set_option maxHeartbeats 6400000 in
set_option maxRecDepth 100000 in
theorem thing_3 (r : RawT) (hk : r.kind ≤ 255) (hm : r.kind % 10 = 3) : ThingOK r := by
  intro w
  have ht : thOf r = th0 3 := by unfold thOf; rw [hm]; rfl
  have hb : ∀ v, bxOf r v = .event (.agg #[.int .i64 r.ev.kind, .int .i64 r.ev.g, .int .i64 r.ev.m, .int .i64 r.ev.p, .int .i64 r.ev.value]) := fun v => by unfold bxOf; rw [hm]; rfl
  simp only [hb, ht]
  clear hb ht
  have h1 : (r.kind : Int).tmod 10 = 3 := by rw [Int.tmod_eq_emod_of_nonneg (by omega)]; omega
  have h1' : (r.kind : Int) % 10 = 3 := by omega
  have h2 : IntKind.u8.wrap (3 : Int) = 3 := by decide
  obtain ⟨kind, p, m, g, ⟨sk, sa, s0, s1, s2⟩, ⟨e0, e1, e2, e3, e4⟩, num, rune, text⟩ := r
  dsimp only [rawC, thC, th0, st0, Bx.val, stV] at *
  go_enter Tryz.func29, Tryz.ntmps29
  obtain ⟨hx0, hy0, hb0⟩ := @new_two w #[.int .u8 (kind : Nat), .int .i64 p, .int .i64 m, .int .i64 g, .int .u8 (sk : Nat), .int .u8 (sa : Nat), .int .i64 s0, .int .i64 s1, .int .i64 s2, .int .i64 e0, .int .i64 e1, .int .i64 e2, .int .i64 e3, .int .i64 e4, .int .i64 num, .int .i32 rune, .string text] zeroThg 45 50
  have HY := Lib.hid hy0
  have HB := Lib.hid hb0
  clear hx0 hy0 hb0
  go_wp2_with (first | (refine wpList_store_row rfl 50 _ _ rfl (w.heap.size + 1) _ rfl rfl 50 _ HY.out info_thg rfl (by simp [Value.oneCell']) ?_))
  apply bodyPost_ret (v := .tuple #[(.iface 43 (.agg #[.int .i64 e0, .int .i64 e1, .int .i64 e2, .int .i64 e3, .int .i64 e4])), .agg #[.int .i64 3, .int .i64 0, .int .i64 0, .int .i64 0, .int .u8 0, .int .u8 0, .int .i64 0, .int .i64 0, .int .i64 0, .int .i64 0, .string ⟨#[]⟩]])
  · exact results_slot_cell (p := 3) (q := 2) (ty := 50) rfl _ _ (w.heap.size + 1) 50 #[.int .i64 3, .int .i64 0, .int .i64 0, .int .i64 0, .int .u8 0, .int .u8 0, .int .i64 0, .int .i64 0, .int .i64 0, .int .i64 0, .string ⟨#[]⟩] (0, 0) _ _ rfl rfl (setRow_heap _ _ _ _ _ _ HY.out) Tryz.underlying50 rfl info_thg
  · rfl
  · refine ⟨⟨.nilIface, rfl⟩, ?_⟩
    have hB := HB.out
    exact ⟨hB.os, hB.tape, hB.output, by have := hB.size; simpa using this, fun k hk => (setRow_other _ _ _ _ (by omega)).trans (hB.block k hk)⟩

set_option maxHeartbeats 6400000 in
set_option maxRecDepth 100000 in
theorem thing_4 (r : RawT) (hk : r.kind ≤ 255) (hm : r.kind % 10 = 4) : ThingOK r := by
  intro w
  have ht : thOf r = { th0 4 with num := r.num } := by unfold thOf; rw [hm]; rfl
  have hb : ∀ v, bxOf r v = .num r.num := fun v => by unfold bxOf; rw [hm]; rfl
  simp only [hb, ht]
  clear hb ht
  have h1 : (r.kind : Int).tmod 10 = 4 := by rw [Int.tmod_eq_emod_of_nonneg (by omega)]; omega
  have h1' : (r.kind : Int) % 10 = 4 := by omega
  have h2 : IntKind.u8.wrap (4 : Int) = 4 := by decide
  obtain ⟨kind, p, m, g, ⟨sk, sa, s0, s1, s2⟩, ⟨e0, e1, e2, e3, e4⟩, num, rune, text⟩ := r
  dsimp only [rawC, thC, th0, st0, Bx.val, stV] at *
  go_enter Tryz.func29, Tryz.ntmps29
  go_wp2
  refine on_gen (fun wb => wb.heap[w.heap.size]? = some (.cells #[.int .u8 (kind : Nat), .int .i64 p, .int .i64 m, .int .i64 g, .int .u8 (sk : Nat), .int .u8 (sa : Nat), .int .i64 s0, .int .i64 s1, .int .i64 s2, .int .i64 e0, .int .i64 e1, .int .i64 e2, .int .i64 e3, .int .i64 e4, .int .i64 num, .int .i32 rune, .string text] 45 (0, 0)) ∧ wb.heap[w.heap.size + 1]? = some (.cells zeroThg 50 (0, 0)) ∧ Below w.heap.size w wb) new_two ?_
  rintro wb ⟨hx, hy, hbw⟩
  have x0 := box_cell hx 0
  have x1 := box_cell hx 1
  have x2 := box_cell hx 2
  have x3 := box_cell hx 3
  have x4 := box_cell hx 4
  have x5 := box_cell hx 5
  have x6 := box_cell hx 6
  have x7 := box_cell hx 7
  have x8 := box_cell hx 8
  have x9 := box_cell hx 9
  have x10 := box_cell hx 10
  have x11 := box_cell hx 11
  have x12 := box_cell hx 12
  have x13 := box_cell hx 13
  have x14 := box_cell hx 14
  have x15 := box_cell hx 15
  have x16 := box_cell hx 16
  have hlx := box_lt hx
  have hly := box_lt hy
  have HY := Lib.hid hy
  have HB := Lib.hid hbw
  clear hx hy hbw
  go_still_tail 7, (by kernel_rfl)
  change wpList _ _ _ _ _ wb.drew
  go_wp2_with (first | (refine wpList_store_row rfl 50 _ _ rfl (w.heap.size + 1) _ rfl rfl 50 _ (show wb.drew.heap[w.heap.size + 1]? = _ from HY.out) info_thg rfl (by simp [Value.oneCell']) ?_))
  apply bodyPost_ret (v := .tuple #[(.iface 3 (.int .i64 num)), .agg #[.int .i64 4, .int .i64 0, .int .i64 0, .int .i64 0, .int .u8 0, .int .u8 0, .int .i64 0, .int .i64 0, .int .i64 0, .int .i64 num, .string ⟨#[]⟩]])
  · exact results_slot_cell (p := 3) (q := 2) (ty := 50) rfl _ _ (w.heap.size + 1) 50 #[.int .i64 4, .int .i64 0, .int .i64 0, .int .i64 0, .int .u8 0, .int .u8 0, .int .i64 0, .int .i64 0, .int .i64 0, .int .i64 num, .string ⟨#[]⟩] (0, 0) _ _ rfl rfl (setRow_heap _ _ _ _ _ _ (show wb.drew.heap[w.heap.size + 1]? = _ from HY.out)) Tryz.underlying50 rfl info_thg
  · rfl
  · refine ⟨⟨.nilIface, rfl⟩, ?_⟩
    have hB := HB.out
    exact ⟨hB.os, hB.tape, hB.output, by have := hB.size; simpa using this, fun k hk => (setRow_other _ _ _ _ (by omega)).trans (hB.block k hk)⟩

set_option maxHeartbeats 6400000 in
set_option maxRecDepth 100000 in
theorem thing_5 (r : RawT) (hk : r.kind ≤ 255) (hm : r.kind % 10 = 5) : ThingOK r := by
  intro w
  have ht : thOf r = { th0 5 with text := Utf8.encode r.rune } := by unfold thOf; rw [hm]; rfl
  have hb : ∀ v, bxOf r v = .rune r.rune := fun v => by unfold bxOf; rw [hm]; rfl
  simp only [hb, ht]
  clear hb ht
  have h1 : (r.kind : Int).tmod 10 = 5 := by rw [Int.tmod_eq_emod_of_nonneg (by omega)]; omega
  have h1' : (r.kind : Int) % 10 = 5 := by omega
  have h2 : IntKind.u8.wrap (5 : Int) = 5 := by decide
  obtain ⟨kind, p, m, g, ⟨sk, sa, s0, s1, s2⟩, ⟨e0, e1, e2, e3, e4⟩, num, rune, text⟩ := r
  dsimp only [rawC, thC, th0, st0, Bx.val, stV] at *
  go_enter Tryz.func29, Tryz.ntmps29
  go_wp2
  refine on_gen (fun wb => wb.heap[w.heap.size]? = some (.cells #[.int .u8 (kind : Nat), .int .i64 p, .int .i64 m, .int .i64 g, .int .u8 (sk : Nat), .int .u8 (sa : Nat), .int .i64 s0, .int .i64 s1, .int .i64 s2, .int .i64 e0, .int .i64 e1, .int .i64 e2, .int .i64 e3, .int .i64 e4, .int .i64 num, .int .i32 rune, .string text] 45 (0, 0)) ∧ wb.heap[w.heap.size + 1]? = some (.cells zeroThg 50 (0, 0)) ∧ Below w.heap.size w wb) new_two ?_
  rintro wb ⟨hx, hy, hbw⟩
  have x0 := box_cell hx 0
  have x1 := box_cell hx 1
  have x2 := box_cell hx 2
  have x3 := box_cell hx 3
  have x4 := box_cell hx 4
  have x5 := box_cell hx 5
  have x6 := box_cell hx 6
  have x7 := box_cell hx 7
  have x8 := box_cell hx 8
  have x9 := box_cell hx 9
  have x10 := box_cell hx 10
  have x11 := box_cell hx 11
  have x12 := box_cell hx 12
  have x13 := box_cell hx 13
  have x14 := box_cell hx 14
  have x15 := box_cell hx 15
  have x16 := box_cell hx 16
  have hlx := box_lt hx
  have hly := box_lt hy
  have HY := Lib.hid hy
  have HB := Lib.hid hbw
  clear hx hy hbw
  go_still_tail 8, (by kernel_rfl)
  change wpList _ _ _ _ _ wb.drew
  go_wp2_with (first | (refine wpList_store_row rfl 50 _ _ rfl (w.heap.size + 1) _ rfl rfl 50 _ (show wb.drew.heap[w.heap.size + 1]? = _ from HY.out) info_thg rfl (by simp [Value.oneCell']) ?_))
  apply bodyPost_ret (v := .tuple #[(.iface 21 (.int .i32 rune)), .agg #[.int .i64 5, .int .i64 0, .int .i64 0, .int .i64 0, .int .u8 0, .int .u8 0, .int .i64 0, .int .i64 0, .int .i64 0, .int .i64 0, .string (Utf8.encode rune)]])
  · exact results_slot_cell (p := 3) (q := 2) (ty := 50) rfl _ _ (w.heap.size + 1) 50 #[.int .i64 5, .int .i64 0, .int .i64 0, .int .i64 0, .int .u8 0, .int .u8 0, .int .i64 0, .int .i64 0, .int .i64 0, .int .i64 0, .string (Utf8.encode rune)] (0, 0) _ _ rfl rfl (setRow_heap _ _ _ _ _ _ (show wb.drew.heap[w.heap.size + 1]? = _ from HY.out)) Tryz.underlying50 rfl info_thg
  · rfl
  · refine ⟨⟨.nilIface, rfl⟩, ?_⟩
    have hB := HB.out
    exact ⟨hB.os, hB.tape, hB.output, by have := hB.size; simpa using this, fun k hk => (setRow_other _ _ _ _ (by omega)).trans (hB.block k hk)⟩

set_option maxHeartbeats 6400000 in
set_option maxRecDepth 100000 in
theorem thing_6 (r : RawT) (hk : r.kind ≤ 255) (hm : r.kind % 10 = 6) : ThingOK r := by
  intro w
  have ht : thOf r = { th0 6 with text := r.text } := by unfold thOf; rw [hm]; rfl
  have hb : ∀ v, bxOf r v = .text r.text := fun v => by unfold bxOf; rw [hm]; rfl
  simp only [hb, ht]
  clear hb ht
  have h1 : (r.kind : Int).tmod 10 = 6 := by rw [Int.tmod_eq_emod_of_nonneg (by omega)]; omega
  have h1' : (r.kind : Int) % 10 = 6 := by omega
  have h2 : IntKind.u8.wrap (6 : Int) = 6 := by decide
  obtain ⟨kind, p, m, g, ⟨sk, sa, s0, s1, s2⟩, ⟨e0, e1, e2, e3, e4⟩, num, rune, text⟩ := r
  dsimp only [rawC, thC, th0, st0, Bx.val, stV] at *
  go_enter Tryz.func29, Tryz.ntmps29
  go_wp2
  refine on_gen (fun wb => wb.heap[w.heap.size]? = some (.cells #[.int .u8 (kind : Nat), .int .i64 p, .int .i64 m, .int .i64 g, .int .u8 (sk : Nat), .int .u8 (sa : Nat), .int .i64 s0, .int .i64 s1, .int .i64 s2, .int .i64 e0, .int .i64 e1, .int .i64 e2, .int .i64 e3, .int .i64 e4, .int .i64 num, .int .i32 rune, .string text] 45 (0, 0)) ∧ wb.heap[w.heap.size + 1]? = some (.cells zeroThg 50 (0, 0)) ∧ Below w.heap.size w wb) new_two ?_
  rintro wb ⟨hx, hy, hbw⟩
  have x0 := box_cell hx 0
  have x1 := box_cell hx 1
  have x2 := box_cell hx 2
  have x3 := box_cell hx 3
  have x4 := box_cell hx 4
  have x5 := box_cell hx 5
  have x6 := box_cell hx 6
  have x7 := box_cell hx 7
  have x8 := box_cell hx 8
  have x9 := box_cell hx 9
  have x10 := box_cell hx 10
  have x11 := box_cell hx 11
  have x12 := box_cell hx 12
  have x13 := box_cell hx 13
  have x14 := box_cell hx 14
  have x15 := box_cell hx 15
  have x16 := box_cell hx 16
  have hlx := box_lt hx
  have hly := box_lt hy
  have HY := Lib.hid hy
  have HB := Lib.hid hbw
  clear hx hy hbw
  go_still_tail 7, (by kernel_rfl)
  change wpList _ _ _ _ _ wb.drew
  go_wp2_with (first | (refine wpList_store_row rfl 50 _ _ rfl (w.heap.size + 1) _ rfl rfl 50 _ (show wb.drew.heap[w.heap.size + 1]? = _ from HY.out) info_thg rfl (by simp [Value.oneCell']) ?_))
  apply bodyPost_ret (v := .tuple #[(.iface 9 (.string text)), .agg #[.int .i64 6, .int .i64 0, .int .i64 0, .int .i64 0, .int .u8 0, .int .u8 0, .int .i64 0, .int .i64 0, .int .i64 0, .int .i64 0, .string text]])
  · exact results_slot_cell (p := 3) (q := 2) (ty := 50) rfl _ _ (w.heap.size + 1) 50 #[.int .i64 6, .int .i64 0, .int .i64 0, .int .i64 0, .int .u8 0, .int .u8 0, .int .i64 0, .int .i64 0, .int .i64 0, .int .i64 0, .string text] (0, 0) _ _ rfl rfl (setRow_heap _ _ _ _ _ _ (show wb.drew.heap[w.heap.size + 1]? = _ from HY.out)) Tryz.underlying50 rfl info_thg
  · rfl
  · refine ⟨⟨.nilIface, rfl⟩, ?_⟩
    have hB := HB.out
    exact ⟨hB.os, hB.tape, hB.output, by have := hB.size; simpa using this, fun k hk => (setRow_other _ _ _ _ (by omega)).trans (hB.block k hk)⟩

set_option maxHeartbeats 6400000 in
set_option maxRecDepth 100000 in
theorem thing_7 (r : RawT) (hk : r.kind ≤ 255) (hm : r.kind % 10 = 7) : ThingOK r := by
  intro w
  have ht : thOf r = th0 7 := by unfold thOf; rw [hm]; rfl
  have hb : ∀ v, bxOf r v = .err v := fun v => by unfold bxOf; rw [hm]; rfl
  simp only [hb, ht]
  clear hb ht
  have h1 : (r.kind : Int).tmod 10 = 7 := by rw [Int.tmod_eq_emod_of_nonneg (by omega)]; omega
  have h1' : (r.kind : Int) % 10 = 7 := by omega
  have h2 : IntKind.u8.wrap (7 : Int) = 7 := by decide
  obtain ⟨kind, p, m, g, ⟨sk, sa, s0, s1, s2⟩, ⟨e0, e1, e2, e3, e4⟩, num, rune, text⟩ := r
  dsimp only [rawC, thC, th0, st0, Bx.val, stV] at *
  go_enter Tryz.func29, Tryz.ntmps29
  have hnew := fun w => errnew_any text w
  have HN := Lib.hid hnew
  clear hnew
  go_wp2_with fail
  refine (HN.out _).mono ?_
  rintro e w1 ⟨gg, rfl, hb1⟩
  obtain ⟨hx0, hy0, hb0⟩ := @new_two w #[.int .u8 (kind : Nat), .int .i64 p, .int .i64 m, .int .i64 g, .int .u8 (sk : Nat), .int .u8 (sa : Nat), .int .i64 s0, .int .i64 s1, .int .i64 s2, .int .i64 e0, .int .i64 e1, .int .i64 e2, .int .i64 e3, .int .i64 e4, .int .i64 num, .int .i32 rune, .string text] zeroThg 45 50
  have HY := Lib.hid ((hb1.block (w.heap.size + 1) (by simp)).trans hy0)
  have HB := Lib.hid (hb0.trans (hb1.mono hb0.size))
  clear hx0 hy0 hb0 hb1
  go_wp2_with (first | (refine wpList_store_row rfl 50 _ _ rfl (w.heap.size + 1) _ rfl rfl 50 _ HY.out info_thg rfl (by simp [Value.oneCell']) ?_))
  apply bodyPost_ret (v := .tuple #[(.iface 214 (.pointer (some ⟨gg, 0, none⟩))), .agg #[.int .i64 7, .int .i64 0, .int .i64 0, .int .i64 0, .int .u8 0, .int .u8 0, .int .i64 0, .int .i64 0, .int .i64 0, .int .i64 0, .string ⟨#[]⟩]])
  · exact results_slot_cell (p := 3) (q := 2) (ty := 50) rfl _ _ (w.heap.size + 1) 50 #[.int .i64 7, .int .i64 0, .int .i64 0, .int .i64 0, .int .u8 0, .int .u8 0, .int .i64 0, .int .i64 0, .int .i64 0, .int .i64 0, .string ⟨#[]⟩] (0, 0) _ _ rfl rfl (setRow_heap _ _ _ _ _ _ HY.out) Tryz.underlying50 rfl info_thg
  · rfl
  · refine ⟨⟨_, rfl⟩, ?_⟩
    have hB := HB.out
    exact ⟨hB.os, hB.tape, hB.output, by have := hB.size; simpa using this, fun k hk => (setRow_other _ _ _ _ (by omega)).trans (hB.block k hk)⟩

set_option maxHeartbeats 6400000 in
set_option maxRecDepth 100000 in
theorem thing_8 (r : RawT) (hk : r.kind ≤ 255) (hm : r.kind % 10 = 8) : ThingOK r := by
  intro w
  have ht : thOf r = th0 8 := by unfold thOf; rw [hm]; rfl
  have hb : ∀ v, bxOf r v = .truth (.bool (decide (0 < r.num))) := fun v => by unfold bxOf; rw [hm]; rfl
  simp only [hb, ht]
  clear hb ht
  have h1 : (r.kind : Int).tmod 10 = 8 := by rw [Int.tmod_eq_emod_of_nonneg (by omega)]; omega
  have h1' : (r.kind : Int) % 10 = 8 := by omega
  have h2 : IntKind.u8.wrap (8 : Int) = 8 := by decide
  obtain ⟨kind, p, m, g, ⟨sk, sa, s0, s1, s2⟩, ⟨e0, e1, e2, e3, e4⟩, num, rune, text⟩ := r
  dsimp only [rawC, thC, th0, st0, Bx.val, stV] at *
  go_enter Tryz.func29, Tryz.ntmps29
  obtain ⟨hx0, hy0, hb0⟩ := @new_two w #[.int .u8 (kind : Nat), .int .i64 p, .int .i64 m, .int .i64 g, .int .u8 (sk : Nat), .int .u8 (sa : Nat), .int .i64 s0, .int .i64 s1, .int .i64 s2, .int .i64 e0, .int .i64 e1, .int .i64 e2, .int .i64 e3, .int .i64 e4, .int .i64 num, .int .i32 rune, .string text] zeroThg 45 50
  have HY := Lib.hid hy0
  have HB := Lib.hid hb0
  clear hx0 hy0 hb0
  go_wp2_with (first | (refine wpList_store_row rfl 50 _ _ rfl (w.heap.size + 1) _ rfl rfl 50 _ HY.out info_thg rfl (by simp [Value.oneCell']) ?_))
  apply bodyPost_ret (v := .tuple #[(.iface 4 (.bool (decide (0 < num)))), .agg #[.int .i64 8, .int .i64 0, .int .i64 0, .int .i64 0, .int .u8 0, .int .u8 0, .int .i64 0, .int .i64 0, .int .i64 0, .int .i64 0, .string ⟨#[]⟩]])
  · exact results_slot_cell (p := 3) (q := 2) (ty := 50) rfl _ _ (w.heap.size + 1) 50 #[.int .i64 8, .int .i64 0, .int .i64 0, .int .i64 0, .int .u8 0, .int .u8 0, .int .i64 0, .int .i64 0, .int .i64 0, .int .i64 0, .string ⟨#[]⟩] (0, 0) _ _ rfl rfl (setRow_heap _ _ _ _ _ _ HY.out) Tryz.underlying50 rfl info_thg
  · rfl
  · refine ⟨⟨.nilIface, rfl⟩, ?_⟩
    have hB := HB.out
    exact ⟨hB.os, hB.tape, hB.output, by have := hB.size; simpa using this, fun k hk => (setRow_other _ _ _ _ (by omega)).trans (hB.block k hk)⟩

set_option maxHeartbeats 6400000 in
set_option maxRecDepth 100000 in
theorem thing_9 (r : RawT) (hk : r.kind ≤ 255) (hm : r.kind % 10 = 9) : ThingOK r := by
  intro w
  have ht : thOf r = th0 8 := by unfold thOf; rw [hm]; rfl
  have hb : ∀ v, bxOf r v = .ptr v := fun v => by unfold bxOf; rw [hm]; rfl
  simp only [hb, ht]
  clear hb ht
  have h1 : (r.kind : Int).tmod 10 = 9 := by rw [Int.tmod_eq_emod_of_nonneg (by omega)]; omega
  have h1' : (r.kind : Int) % 10 = 9 := by omega
  have h2 : IntKind.u8.wrap (9 : Int) = 9 := by decide
  obtain ⟨kind, p, m, g, ⟨sk, sa, s0, s1, s2⟩, ⟨e0, e1, e2, e3, e4⟩, num, rune, text⟩ := r
  dsimp only [rawC, thC, th0, st0, Bx.val, stV] at *
  go_enter Tryz.func29, Tryz.ntmps29
  obtain ⟨hx0, hy0, hb0⟩ := @new_two w #[.int .u8 (kind : Nat), .int .i64 p, .int .i64 m, .int .i64 g, .int .u8 (sk : Nat), .int .u8 (sa : Nat), .int .i64 s0, .int .i64 s1, .int .i64 s2, .int .i64 e0, .int .i64 e1, .int .i64 e2, .int .i64 e3, .int .i64 e4, .int .i64 num, .int .i32 rune, .string text] zeroThg 45 50
  have HY := Lib.hid hy0
  have HB := Lib.hid hb0
  clear hx0 hy0 hb0
  go_wp2_with (first | (refine wpList_store_row rfl 50 _ _ rfl (w.heap.size + 1) _ rfl rfl 50 _ HY.out info_thg rfl (by simp [Value.oneCell']) ?_))
  apply bodyPost_ret (v := .tuple #[(.iface 137 (.pointer (some ⟨w.heap.size, 4, none⟩))), .agg #[.int .i64 8, .int .i64 0, .int .i64 0, .int .i64 0, .int .u8 0, .int .u8 0, .int .i64 0, .int .i64 0, .int .i64 0, .int .i64 0, .string ⟨#[]⟩]])
  · exact results_slot_cell (p := 3) (q := 2) (ty := 50) rfl _ _ (w.heap.size + 1) 50 #[.int .i64 8, .int .i64 0, .int .i64 0, .int .i64 0, .int .u8 0, .int .u8 0, .int .i64 0, .int .i64 0, .int .i64 0, .int .i64 0, .string ⟨#[]⟩] (0, 0) _ _ rfl rfl (setRow_heap _ _ _ _ _ _ HY.out) Tryz.underlying50 rfl info_thg
  · rfl
  · refine ⟨⟨_, rfl⟩, ?_⟩
    have hB := HB.out
    exact ⟨hB.os, hB.tape, hB.output, by have := hB.size; simpa using this, fun k hk => (setRow_other _ _ _ _ (by omega)).trans (hB.block k hk)⟩

theorem thing_any (r : RawT) (hk : r.kind ≤ 255) : ThingOK r := by
  have h := kind_lt r
  have key : r.kind % 10 = 0 ∨ r.kind % 10 = 1 ∨ r.kind % 10 = 2 ∨ r.kind % 10 = 3 ∨ r.kind % 10 = 4 ∨ r.kind % 10 = 5 ∨ r.kind % 10 = 6 ∨ r.kind % 10 = 7 ∨ r.kind % 10 = 8 ∨ r.kind % 10 = 9 := by omega
  rcases key with h | h | h | h | h | h | h | h | h | h
  · exact thing_0 r hk h
  · exact thing_1 r hk h
  · exact thing_2 r hk h
  · exact thing_3 r hk h
  · exact thing_4 r hk h
  · exact thing_5 r hk h
  · exact thing_6 r hk h
  · exact thing_7 r hk h
  · exact thing_8 r hk h
  · exact thing_9 r hk h
end Go.Proofs.YtfjepdcnikgjeaaGreatDoor
