/-
  What is told of a machine.
-/
import Derived.Test.YtfjepdcnikgjeaaGreatDoorObs
set_option linter.unusedVariables false
set_option linter.unusedSimpArgs false
set_option linter.unusedSectionVars false
namespace Go.Proofs.YtfjepdcnikgjeaaGreatDoor
open Go Go.RowKit Hst Go.Proofs

theorem post_gen {P : Program} {f : Func} {Q : Ending → World → Prop} {e : Exit} {a : Act} {w : World} (R : World → Prop) (h : R w) (k : ∀ w2, R w2 → bodyPost P f Q e a w2) : bodyPost P f Q e a w := k w h
theorem two_new {w w1 : World} {o o2 : Obj} (hb : Below ((w.alloc o).alloc o2).heap.size ((w.alloc o).alloc o2) w1) : w1.heap[w.heap.size]? = some o ∧ w1.heap[w.heap.size + 1]? = some o2 := by
  constructor
  · rw [hb.block _ (by simp; omega), Below.heap_alloc _ _ _ (by simp)]
    exact heap_alloc_new w o
  · rw [hb.block _ (by simp)]
    have e := heap_alloc_new (w.alloc o) o2
    simpa using e

set_option maxHeartbeats 3200000 in
set_option maxRecDepth 100000 in
theorem machcopy_any (m : Mach) (r : Value) (w : World) (hr : w.ownsRow 0 3 1 r m.rest.length (ints m.rest)) (hbig : m.rest.length ≤ 4294967296) :
    Calls Tryz.prog 114 #[.agg (encM m r).toArray] w fun e w' => ∃ v, e = .returned (.agg (encM m v).toArray) ∧ w'.ownsRow w.heap.size 3 1 v m.rest.length (ints m.rest) ∧ Below w.heap.size w w' := by
  obtain ⟨place, mp, mg, mnext, mgot, mtarget, mi, mspin, minn, mrest, mback, mafter, marg, mlkN, mlkS, mstage, mticket, mtimes⟩ := m
  simp only [encM] at *
  obtain ⟨ra, rc, rfl⟩ := ownsRow_slice hr
  have hc := fun w1 (hb : Below w.heap.size w w1) => clone_first (.slice ra mrest.length rc) mrest.length 0 mrest w1 (Agree.row (S := fun _ => True) ⟨hb.size, fun b hl _ => hb.block b hl⟩ (fun _ _ => trivial) hr) (Nat.le_refl _) (by omega) rc
  simp only [List.take_length] at hc
  have HC := Lib.hid hc
  have HR := Lib.hid hr
  clear hc hr
  go_enter Tryz.func114, Tryz.ntmps114
  go_wp2_with fail
  refine (HC.out _ (((Below.refl _ w).alloc (Nat.le_refl _) _).alloc (by simp) _)).mono ?_
  rintro e w1 ⟨v, rfl, hown, hb⟩
  obtain ⟨va, vc, rfl⟩ := ownsRow_slice hown
  obtain ⟨hx, hy⟩ := two_new hb
  have lx := box_lt hx
  have ly := box_lt hy
  have fx : ∀ o, w1.frozen? ⟨w.heap.size, o, none⟩ = false := fun o => Lib.frozen_of_heap hx o
  have b9 := box_cell hx 9
  simp only [List.getElem?_toArray, List.getElem?_cons_zero, List.getElem?_cons_succ] at b9
  have hb0 : Below w.heap.size w w1 := ((((Below.refl _ w).alloc (Nat.le_refl _) _).alloc (by simp) _)).trans (hb.mono (by simp; omega))
  have hvx : Value.ownBlock (.slice va mrest.length vc) ≠ some w.heap.size := fun e => by have := hown.lt _ e; simp at this; omega
  have hvy : Value.ownBlock (.slice va mrest.length vc) ≠ some (w.heap.size + 1) := fun e => by have := hown.lt _ e; simp at this; omega
  have hne : w.heap.size + 1 ≠ w.heap.size := by omega
  have hx2 : (w1.setCell ⟨w.heap.size, 9, none⟩ (.slice va mrest.length vc)).heap[w.heap.size]? = some (.cells #[Value.int .i64 place, Value.int .i64 mp, Value.int .i64 mg, Value.int .i64 mnext, Value.int .i64 mgot, Value.int .i64 mtarget, Value.int .i64 mi, Value.bool mspin, Value.bool minn, Value.slice va mrest.length vc, Value.int .i64 mback, Value.int .i64 mafter, Value.int .i64 marg, Value.int .i64 mlkN, Value.int .i64 mlkS, Value.int .i64 mstage, Value.int .u64 mticket, Value.int .i64 mtimes] 107 (0, 0)) := heap_setCell_same w1 w.heap.size 9 _ _ (.slice va mrest.length vc) hx
  have hy2 := (heap_far (w := w1) (b := w.heap.size) (o := 9) hne (.slice va mrest.length vc)).trans hy
  have ho2 := ownsRow_far (b := w.heap.size) (o := 9) (u := .slice va mrest.length vc) (ownsRow_base (base' := w.heap.size) hown (by simp; omega)) hvx
  have hb2 := hb0.setCell (p := ⟨w.heap.size, 9, none⟩) (Nat.le_refl _) (.slice va mrest.length vc)
  have HX := Lib.hid hx2
  have HY := Lib.hid hy2
  have HO := Lib.hid ho2
  have HB := Lib.hid hb2
  have HVY := Lib.hid hvy
  clear hx hy HC HR hown hb hb0 hx2 hy2 ho2 hb2 hvx hvy
  go_wp2_with (first | (refine wpList_load_row rfl 107 _ rfl w.heap.size rfl 107 _ (0, 0) _ HX.out Tryz.underlying107 rfl (by kernel_rfl) ?_) | (refine wpList_store_row rfl 107 _ _ rfl (w.heap.size + 1) _ rfl rfl 107 _ HY.out (by kernel_rfl) rfl (by simp [Value.oneCell']) ?_))
  apply bodyPost_ret (v := .agg #[Value.int .i64 place, Value.int .i64 mp, Value.int .i64 mg, Value.int .i64 mnext, Value.int .i64 mgot, Value.int .i64 mtarget, Value.int .i64 mi, Value.bool mspin, Value.bool minn, Value.slice va mrest.length vc, Value.int .i64 mback, Value.int .i64 mafter, Value.int .i64 marg, Value.int .i64 mlkN, Value.int .i64 mlkS, Value.int .i64 mstage, Value.int .u64 mticket, Value.int .i64 mtimes])
  · exact results_cell_row rfl _ _ (w.heap.size + 1) 107 _ (0, 0) _ rfl (setRow_heap _ _ _ _ _ _ HY.out) Tryz.underlying107 rfl (by kernel_rfl)
  · rfl
  refine ⟨.slice va mrest.length vc, rfl, ?_, ?_⟩
  · have hO := HO.out
    refine ⟨hO.1, ?_⟩
    rcases hO.2 with hn | ⟨g, cap, cur, hv, hbg, hg, rest⟩
    · exact .inl hn
    · exact .inr ⟨g, cap, cur, hv, hbg, (setRow_other _ _ _ _ (fun e => HVY.out (by rw [hv, ← e]; rfl))).trans hg, rest⟩
  · have hB := HB.out
    exact ⟨hB.os, hB.tape, hB.output, by have := hB.size; simpa using this, fun k hk => (setRow_other _ _ _ _ (by omega)).trans (hB.block k hk)⟩

def zeroMach : Array Value := #[.int .i64 0, .int .i64 0, .int .i64 0, .int .i64 0, .int .i64 0, .int .i64 0, .int .i64 0, .bool false, .bool false, .slice none 0 0, .int .i64 0, .int .i64 0, .int .i64 0, .int .i64 0, .int .i64 0, .int .i64 0, .int .u64 0, .int .i64 0]

set_option maxHeartbeats 3200000 in
set_option maxRecDepth 100000 in
theorem machine_on {F : Fix} {V : Vol} {ow : Nat → Nat} {w : World} {p : Wd} (h : WAt F V ow w p) (i : Nat) (hi : i < p.M) (hbig : (p.mach i).rest.length ≤ 4294967296) :
    Calls Tryz.prog 57 #[.pointer (some ⟨F.W, 0, none⟩), .int .i64 i] w fun e w' => ∃ v, e = .returned (.agg (encM (p.mach i) v).toArray) ∧ w'.ownsRow w.heap.size 3 1 v (p.mach i).rest.length (ints (p.mach i).rest) ∧ Below w.heap.size w w' := by
  have hM := h.dim
  have hcap := h.own_cap.2
  unfold dims at hM
  have hd1 : decide ((p.M : Int) ≤ (i : Int)) = false := by simp; omega
  have h1 := (On.start h).alloc (.cells zeroMach 107)
  have cM := h.cW_F_M
  have c13 := h.cW_all
  have lW := h.cw.lt (by decide)
  have lA := h.call.lt (by show 0 < p.M * 18; omega)
  have a0 := h.cA_place hi
  have a1 := h.cA_p hi
  have a2 := h.cA_g hi
  have a3 := h.cA_next hi
  have a4 := h.cA_got hi
  have a5 := h.cA_target hi
  have a6 := h.cA_i hi
  have a7 := h.cA_spin hi
  have a8 := h.cA_inn hi
  have a9 := h.cA_rest hi
  have a10 := h.cA_back hi
  have a11 := h.cA_after hi
  have a12 := h.cA_arg hi
  have a13 := h.cA_lkN hi
  have a14 := h.cA_lkS hi
  have a15 := h.cA_stage hi
  have a16 := h.cA_ticket hi
  have a17 := h.cA_times hi
  have hc := machcopy_any (p.mach i) (V.rest i) (w.alloc (.cells zeroMach 107)) (h1.at_.crest i hi).1 hbig
  have HC := Lib.hid hc
  clear h h1 hc
  go_enter Tryz.func57, Tryz.ntmps57
  go_wp2_with fail
  refine HC.out.mono ?_
  rintro e w1 ⟨v, rfl, hown, hb⟩
  have hx : w1.heap[w.heap.size]? = some (.cells zeroMach 107 (0, 0)) := below_box hb
  have hb0 : Below w.heap.size w w1 := ((Below.refl _ w).alloc (Nat.le_refl _) _).trans (hb.mono (by simp))
  have hvx : v.ownBlock ≠ some w.heap.size := fun e => by have := hown.lt _ e; simp at this; omega
  obtain ⟨va, vc, rfl⟩ := ownsRow_slice hown
  have HX := Lib.hid hx
  have HB := Lib.hid hb0
  have HV := Lib.hid hvx
  have HO := Lib.hid hown
  clear hx hb0 hvx hown hb HC lW lA cM c13 a0 a1 a2 a3 a4 a5 a6 a7 a8 a9 a10 a11 a12 a13 a14 a15 a16 a17
  go_wp2_with (first | (refine wpList_store_row rfl 107 _ _ rfl w.heap.size _ rfl rfl 107 _ HX.out (by kernel_rfl) rfl (by simp [encM, Value.oneCell']) ?_))
  apply bodyPost_ret (v := .agg (encM (p.mach i) (.slice va (p.mach i).rest.length vc)).toArray)
  · exact results_cell_row rfl _ _ w.heap.size 107 _ (0, 0) _ rfl (setRow_heap _ _ _ _ _ _ HX.out) Tryz.underlying107 rfl (by kernel_rfl)
  · rfl
  refine ⟨.slice va (p.mach i).rest.length vc, rfl, ?_, ?_⟩
  · have hO := HO.out
    refine ⟨hO.1, ?_⟩
    rcases hO.2 with hn | ⟨g, cap, cur, hv, hbg, hg, rest⟩
    · exact .inl hn
    · exact .inr ⟨g, cap, cur, hv, by simp at hbg; omega, (setRow_other _ _ _ _ (fun e => HV.out (by rw [hv, ← e]; rfl))).trans hg, rest⟩
  · have hB := HB.out
    exact ⟨hB.os, hB.tape, hB.output, by have := hB.size; simpa using this, fun k hk => (setRow_other _ _ _ _ (by omega)).trans (hB.block k hk)⟩
end Go.Proofs.YtfjepdcnikgjeaaGreatDoor
