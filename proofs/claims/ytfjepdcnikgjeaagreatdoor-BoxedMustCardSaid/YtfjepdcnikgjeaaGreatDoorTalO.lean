/-
  A goroutine's row, handed over; the chapter's example; TallyJoins, walked.
-/
import Derived.Test.YtfjepdcnikgjeaaGreatDoorTalR
import Derived.Test.YtfjepdcnikgjeaaGreatDoorExpW
set_option linter.unusedVariables false
set_option linter.unusedSimpArgs false
set_option linter.unusedSectionVars false
namespace Go.Proofs.YtfjepdcnikgjeaaGreatDoor
open Go Go.RowKit Hst Go.Proofs
open Go.Maps (Keyed)

/-- A goroutine's row as it is told; null: there is none. -/
def ofC (l : List Hst.Ev) (g : Int) : Array Value :=
  #[.int .i64 (if seenG l g then g else 0), .int .i64 (cntK l g 0 : Nat), .int .i64 (cntK l g 1 : Nat), .int .i64 (cntK l g 2 : Nat), .int .i64 (cntK l g 3 : Nat), .int .i64 (cntK l g 4 : Nat), .int .i64 (cntK l g 5 : Nat), .int .i64 (cntK l g 6 : Nat), .int .i64 (cntK l g 7 : Nat), .int .i64 (if seenG l g then lastG l g else 0)]
theorem ofC_seen {l : List Hst.Ev} {g : Int} (h : seenG l g = true) : ofC l g = rowC l g (lastG l g) := by unfold ofC rowC; simp [h]
theorem ofC_none {l : List Hst.Ev} {g : Int} (h : seenG l g = false) : ofC l g = #[.int .i64 0, .int .i64 0, .int .i64 0, .int .i64 0, .int .i64 0, .int .i64 0, .int .i64 0, .int .i64 0, .int .i64 0, .int .i64 0] := by unfold ofC; simp [h, cntK_unseen h]
theorem ofC_at (l : List Hst.Ev) (g : Int) (k : Nat) (hk : k < 8) : (ofC l g)[1 + k]? = some (.int .i64 (cntK l g k : Nat)) := by
  match k, hk with
  | 0, _ | 1, _ | 2, _ | 3, _ | 4, _ | 5, _ | 6, _ | 7, _ => rfl

set_option maxHeartbeats 3200000 in
set_option maxRecDepth 100000 in
theorem tof_any (g : Int) (hg : i64I g) {w : World} {v : Value} {l : List Hst.Ev} (hA : EvArg w v l) (hc : l.length ≤ 100000) (h64 : inI64 l) :
    Calls Tryz.prog 40 #[v, .int .i64 g] w fun e w' => e = .returned (.tuple #[.agg (ofC l g), .bool (seenG l g)]) ∧ Below w.heap.size w w' := by
  have hr := fun w (h : EvArg w v l) => rows_any h hc h64
  have hA2 := fun o => hA.below (below_alloc w o)
  have hkey := Maps.keyOf_int_mk Tryz.underlying3 (wf64 hg)
  have HR := Lib.hid hr
  have HA := Lib.hid hA2
  clear hr hA2 hA
  by_cases hs : seenG l g = true
  · rw [ofC_seen hs, hs]
    go_enter Tryz.func40, Tryz.ntmps40
    go_wp2_with fail
    refine (HR.out _ (HA.out _)).mono ?_
    rintro e w1 ⟨rfl, ⟨n, D, loc, hn, hR⟩, hb⟩
    obtain ⟨p, hp⟩ : ∃ p, p = loc g := ⟨_, rfl⟩
    have hv0 : ∀ v ps, ptrR v = some (D.atKey (.int .i64 g) (.lit (.int .i64 (-1))), ps) → v = .pointer (some ⟨p, 0, none⟩) := by
      rw [hR.2.1, hs, if_pos rfl, hp]; exact fun v ps h => ptrR_some h
    obtain ⟨hp1, hp2⟩ := hR.2.2.1 g hs
    rw [← hp] at hp1 hp2
    have hx := below_box hb
    have hm : w1.ownsMap Tryz.prog 3 ptrR (w.heap.size + 1) n D := by have := hR.1; simpa using this
    have hlp := box_lt hp2
    have K : Below w.heap.size w w1 := ((Below.refl _ w).alloc (Nat.le_refl _) _).trans (hb.mono (by simp))
    have HX := Lib.hid hx
    have HP := Lib.hid hp2
    have HK := Lib.hid K
    clear hR hp hx hp2 K hb
    go_wp2_with (first
      | (at_lookup; refine wpList_lookup_known _ rfl _ _ 164 rfl 3 163 lawInt Tryz.underlying164 ptrR (zeroRow _) _ [] rfl _ n D rfl hm _ _ rfl hkey _ hv0 ?_)
      | (refine wpList_load_row rfl 70 _ rfl p rfl 70 _ (0, 0) _ HP.out Tryz.underlying70 rfl (by kernel_rfl) ?_)
      | (refine wpList_store_row rfl 70 _ _ rfl w.heap.size _ rfl rfl 70 _ HX.out (by kernel_rfl) rfl (by simp [rowC, Value.oneCell']) ?_))
    apply bodyPost_ret (v := .tuple #[.agg (rowC l g (lastG l g)), .bool true])
    · simp [results, Tryz.results40, asAddr, run_loadVar_row _ w.heap.size 70 70 (rowC l g (lastG l g)) (0, 0) _ (setRow_heap _ _ _ _ _ _ HX.out) Tryz.underlying70 rfl (by kernel_rfl)]
    · rfl
    · refine ⟨rfl, ?_⟩
      have hB := HK.out
      exact ⟨hB.os, hB.tape, hB.output, by have := hB.size; simpa using this, fun k hk => (setRow_other _ _ _ _ (by omega)).trans (hB.block k hk)⟩
  · have hs : seenG l g = false := by simpa using hs
    rw [ofC_none hs, hs]
    go_enter Tryz.func40, Tryz.ntmps40
    go_wp2_with fail
    refine (HR.out _ (HA.out _)).mono ?_
    rintro e w1 ⟨rfl, ⟨n, D, loc, hn, hR⟩, hb⟩
    have hv0 : ∀ v ps, ptrR v = some (D.atKey (.int .i64 g) (.lit (.int .i64 (-1))), ps) → v = .pointer none := by
      rw [hR.2.1, hs, if_neg (by simp)]; exact fun v ps h => ptrR_nil h
    have hx := below_box hb
    have hm : w1.ownsMap Tryz.prog 3 ptrR (w.heap.size + 1) n D := by have := hR.1; simpa using this
    have K : Below w.heap.size w w1 := ((Below.refl _ w).alloc (Nat.le_refl _) _).trans (hb.mono (by simp))
    have x0 := fun o => box_cell hx o
    have fx : ∀ o, w1.frozen? ⟨w.heap.size, o, none⟩ = false := fun o => Lib.frozen_of_heap hx o
    have HX := Lib.hid hx
    have HK := Lib.hid K
    clear hR hx K hb
    go_wp2_with (first
      | (at_lookup; refine wpList_lookup_known _ rfl _ _ 164 rfl 3 163 lawInt Tryz.underlying164 ptrR (zeroRow _) _ [] rfl _ n D rfl hm _ _ rfl hkey _ hv0 ?_)
      | (refine wpList_store_row rfl 70 _ _ rfl w.heap.size _ rfl rfl 70 _ HX.out (by kernel_rfl) rfl (by simp [Value.oneCell']) ?_))
    apply bodyPost_ret (v := .tuple #[.agg #[.int .i64 0, .int .i64 0, .int .i64 0, .int .i64 0, .int .i64 0, .int .i64 0, .int .i64 0, .int .i64 0, .int .i64 0, .int .i64 0], .bool false])
    · simp [results, Tryz.results40, asAddr, run_loadVar_row _ w.heap.size 70 70 #[.int .i64 0, .int .i64 0, .int .i64 0, .int .i64 0, .int .i64 0, .int .i64 0, .int .i64 0, .int .i64 0, .int .i64 0, .int .i64 0] (0, 0) _ (setRow_heap _ _ _ _ _ _ HX.out) Tryz.underlying70 rfl (by kernel_rfl)]
    · rfl
    · refine ⟨rfl, ?_⟩
      have hB := HK.out
      exact ⟨hB.os, hB.tape, hB.output, by have := hB.size; simpa using this, fun k hk => (setRow_other _ _ _ _ (by omega)).trans (hB.block k hk)⟩

def ev3 : List Hst.Ev := [⟨0, 0, 0, 0, 0⟩, ⟨0, 1, 0, 0, 0⟩, ⟨2, 0, 0, 0, 0⟩]
theorem ev3_arg (w : World) : EvArg (w.alloc (.cells #[.int .i64 0, .int .i64 0, .int .i64 0, .int .i64 0, .int .i64 0, .int .i64 0, .int .i64 1, .int .i64 0, .int .i64 0, .int .i64 0, .int .i64 2, .int .i64 0, .int .i64 0, .int .i64 0, .int .i64 0] 43)) (.slice (some ⟨w.heap.size, 0, none⟩) 3 3) ev3 := by
  refine .inr (.inr ⟨w.heap.size, 0, 3, rfl, by simp, ?_, ?_, ?_, ?_, ?_⟩)
  all_goals
    intro j e he
    rw [Nat.zero_add, cell_new]
    match j, he with
    | 0, he => cases he; rfl
    | 1, he => cases he; rfl
    | 2, he => cases he; rfl

set_option maxHeartbeats 3200000 in
set_option maxRecDepth 100000 in
theorem lives27_any (N : Nat) (w : World) (T : Tabs N w) : Calls Tryz.prog 39 #[] w fun e w' => e = .returned (.bool true) ∧ Below w.heap.size w w' := by
  have hl := fun w1 (hb : Below w.heap.size w w1) => lives_any N w1 (T.of_below hb T.le)
  have hg := fun w1 (hb : Below (w.heap.size + 1) (w.alloc (.cells #[.int .i64 0, .int .i64 0, .int .i64 0, .int .i64 0, .int .i64 0, .int .i64 0, .int .i64 1, .int .i64 0, .int .i64 0, .int .i64 0, .int .i64 2, .int .i64 0, .int .i64 0, .int .i64 0, .int .i64 0] 43)) w1) => longest_any 0 ((ev3_arg w).below (by simpa using hb)) (by decide)
  have ho := fun w1 (hb : Below (w.heap.size + 1) (w.alloc (.cells #[.int .i64 0, .int .i64 0, .int .i64 0, .int .i64 0, .int .i64 0, .int .i64 0, .int .i64 1, .int .i64 0, .int .i64 0, .int .i64 0, .int .i64 2, .int .i64 0, .int .i64 0, .int .i64 0, .int .i64 0] 43)) w1) => torder_any ((ev3_arg w).below (by simpa using hb)) (by decide)
  rw [show (lg ev3 0).best = 1 by decide] at hg
  rw [show orderG ev3 = [0] by decide] at ho
  have HL := Lib.hid hl
  have HG := Lib.hid hg
  have HO := Lib.hid ho
  clear hl hg ho T
  go_enter Tryz.func39, Tryz.ntmps39
  go_wp2_with fail
  refine (HL.out _ (below_alloc _ _)).mono ?_
  rintro e w1 ⟨rfl, b1⟩
  simp only [World.size_alloc] at b1
  have B1 := Lib.hid b1
  go_wp2_with fail
  refine (HG.out w1 b1).mono ?_
  rintro e w2 ⟨rfl, b2⟩
  have b2' := b1.trans (b2.mono (by have := b1.size; simpa using this))
  have B2 := Lib.hid b2'
  go_wp2_with fail
  refine (HO.out w2 b2').mono ?_
  rintro e w3 ⟨v, rfl, hr, b3⟩
  have b3' := b2'.trans (b3.mono (by have := b2'.size; simpa using this))
  have hv : (w3.alloc (.cells #[.int .i64 0] 3)).ownsRow 0 3 1 (.slice (some ⟨w3.heap.size, 0, none⟩) 1 1) [(0 : Int)].length (ints [0]) :=
    ⟨by simp [ints], .inr ⟨w3.heap.size, 1, #[.int .i64 0], rfl, Nat.zero_le _, heap_alloc_new w3 _, by simp, by decide, by simp, by simp [ints]⟩⟩
  have hs := same_any [0] [0] v (.slice (some ⟨w3.heap.size, 0, none⟩) 1 1) w2.heap.size 0 (w3.alloc (.cells #[.int .i64 0] 3)) (ownsRow_below hr (below_alloc w3 _)) hv (by decide)
  have B3 := Lib.hid b3'
  have HS := Lib.hid hs
  clear hs hv hr b3 b2 b2' b3' b1
  go_wp2_with fail
  refine HS.out.mono ?_
  rintro e w4 ⟨rfl, b4⟩
  have hK : Below w.heap.size w w4 := ((below_alloc w _).trans (B3.out.mono (Nat.le_succ _))).trans (((Below.refl _ w3).alloc (Nat.le_refl _) _).trans (b4.mono (by simp)) |>.mono (by have := B3.out.size; simp at this; omega))
  have HK := Lib.hid hK
  clear hK b4
  go_wp2
  go_returns
  exact ⟨rfl, HK.out⟩
end Go.Proofs.YtfjepdcnikgjeaaGreatDoor
