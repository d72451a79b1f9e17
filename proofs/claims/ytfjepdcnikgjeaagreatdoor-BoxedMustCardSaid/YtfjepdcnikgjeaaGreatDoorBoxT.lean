/-
  BoxedTexts, walked; the chapter's example.
-/
import Derived.Maps.AppendAt
import Derived.Laws.StructEq
import Derived.BigQuiet
import Derived.Test.YtfjepdcnikgjeaaGreatDoorBoxS
import Derived.Test.YtfjepdcnikgjeaaGreatDoorBoxR
import Derived.Test.YtfjepdcnikgjeaaGreatDoorLives
set_option linter.unusedVariables false
set_option linter.unusedSimpArgs false
set_option linter.unusedSectionVars false
namespace Go.Proofs.YtfjepdcnikgjeaaGreatDoor
open Go Go.RowKit Hst Go.Proofs

theorem any_own {w : World} {B : Nat} {v : Value} {l : List Bx} (h : w.ownsRow B 20 1 v l.length (l.map Bx.val)) : AnyArg w v l := by
  rcases h.2 with ⟨rfl, h0⟩ | ⟨g, cap, cur, rfl, hbg, hg, hnc, hcm, hcs, htk⟩
  · obtain rfl := List.length_eq_zero_iff.1 h0
    exact ⟨Option.none, 0, rfl, .inl rfl⟩
  · refine ⟨_, cap, rfl, .inr ⟨g, 0, rfl, box_lt hg, fun j e he => ?_⟩⟩
    rw [Nat.zero_add]
    exact own_cell hg htk j _ (by rw [List.getElem?_map, he]; rfl)
theorem any_one (w : World) (v : Value) (e : Bx) (g c : Nat) (hg : g = w.heap.size) (hv : v = e.val) : AnyArg (w.alloc (.cells #[v] 20)) (.slice (some ⟨g, 0, Option.none⟩) 1 c) [e] := by
  subst hg hv
  refine ⟨_, c, rfl, .inr ⟨w.heap.size, 0, rfl, by simp, fun j x hx => ?_⟩⟩
  rw [Nat.zero_add, cell_new]
  match j, hx with
  | 0, hx => cases hx; rfl
theorem infoAny : (Tryz.prog.info? 20).map (fun i => (i.zero, i.size, i.bytes)) = some (some .nilIface, 1, 16) := by kernel_rfl
theorem own_grown {w w' : World} {base e size n : Nat} {v : Value} {xs : List Value} {row : Option Nat} (h : w.ownsRow base e size v n xs) (hg : w.grownBy w' row) (hne : ∀ b, v.ownBlock = some b → row ≠ some b) : w'.ownsRow base e size v n xs := by
  refine ⟨h.1, ?_⟩
  rcases h.2 with hn | ⟨g, cap, cur, hv, hbg, hb, rest⟩
  · exact .inl hn
  · refine .inr ⟨g, cap, cur, hv, hbg, (hg.block g (box_lt hb) (fun e => hne g (by rw [hv]; rfl) e.symm)).trans hb, rest⟩
theorem neq_st (s : Hst.Stp) (w : World) : (binOp .neq 40 (.agg #[.int .u8 (s.kind : Nat), .int .u8 (s.act : Nat), .int .i64 s.a, .int .i64 s.x, .int .i64 s.d]) (.agg #[.int .u8 (s.kind : Nat), .int .u8 (s.act : Nat), .int .i64 s.a, .int .i64 s.x, .int .i64 s.d])).run Tryz.prog w = .ok (.bool false) w := by
  rw [run_neq_struct, run_equalIn_struct w 9999 40 _ _ (by kernel_rfl) (by kernel_rfl)]
  simp only [Program.fieldsOf, Tryz.underlying40, Op.eqFields]
  simp [go_sem, Tryz.underlying5, Tryz.underlying3, Tryz.underlying2, Result.andThen]

def ev3s : List Bx := [.text ⟨#[48, 97, 49]⟩, .num 2]
set_option maxHeartbeats 3200000 in
set_option maxRecDepth 100000 in
theorem lives26_any (N : Nat) (w : World) (T : Tabs N w) : Calls Tryz.prog 27 #[] w fun e w' => e = .returned (.bool true) ∧ Below w.heap.size w w' := by
  have hl := fun w1 (hb : Below w.heap.size w w1) => lives_any N w1 (T.of_below hb T.le)
  have hA : AnyArg (w.alloc (.cells #[.iface 9 (.string ⟨#[48, 97, 49]⟩), .iface 3 (.int .i64 2)] 20)) (.slice (some ⟨w.heap.size, 0, Option.none⟩) 2 2) ev3s := by
    refine ⟨_, 2, rfl, .inr ⟨w.heap.size, 0, rfl, by simp, fun j x hx => ?_⟩⟩
    rw [Nat.zero_add, cell_new]
    match j, hx with
    | 0, hx => cases hx; rfl
    | 1, hx => cases hx; rfl
  have hs := steps_any hA (by decide) (fun e he => by
    simp only [ev3s, List.mem_cons, List.not_mem_nil, or_false] at he
    rcases he with rfl | rfl
    · show (3 : Nat) ≤ 1000; decide
    · trivial)
  rw [show stepsBs ev3s = [dSt 0, dSt 1, dSt 2] from rfl] at hs
  have HL := Lib.hid hl
  have HS := Lib.hid hs
  clear hl hs hA T
  go_enter Tryz.func27, Tryz.ntmps27
  go_wp2_with fail
  refine HS.out.mono ?_
  rintro e w1 ⟨v, rfl, hr, b1⟩
  simp only [World.size_alloc] at b1
  have K1 : Below w.heap.size w w1 := (below_alloc w _).trans (b1.mono (Nat.le_succ _))
  obtain ⟨g, cap, rfl, hbg, hgl, hcp⟩ := ownsRow_some hr (by decide)
  have HR := Lib.hid hr
  have HK := Lib.hid K1
  clear hr b1 K1
  go_wp2_with fail
  refine (HL.out _ HK.out).mono ?_
  rintro e w2 ⟨rfl, b2⟩
  have hr2 := own_below HR.out (b2.mono (Nat.le_refl _) |> fun h => (h : Below w1.heap.size w1 w2))
  have c0 := hr2.cellAt 2 (by decide)
  have c1 := hr2.cellAt 7 (by decide)
  have c2 := hr2.cellAt 12 (by decide)
  have HK2 := Lib.hid (HK.out.trans (b2.mono HK.out.size))
  change w2.cell? _ = some (.int .i64 0) at c0
  change w2.cell? _ = some (.int .i64 1) at c1
  change w2.cell? _ = some (.int .i64 2) at c2
  clear hr2 b2
  go_wp2
  all_goals (try go_returns)
  all_goals exact ⟨rfl, HK2.out⟩
end Go.Proofs.YtfjepdcnikgjeaaGreatDoor
