/-
  A world for the witness; a row's post of a call that writes nothing old.
-/
import Derived.Test.YtfjepdcnikgjeaaGreatDoorTabs
import Derived.Deep.DeepWitnessRowRef
set_option linter.unusedVariables false
set_option linter.unusedSimpArgs false
set_option linter.unusedSectionVars false
namespace Go.Proofs.YtfjepdcnikgjeaaGreatDoor
open Go Go.ChangeShapes Go.WideShapes Go.ChangeAt Go.RowKit Go.Proofs

/-- 'post_of_same' for a row that asks nothing of a second reading: what is frozen above the call's beginning does not matter. -/
theorem post_kept {H : Type} {enc : TypeId × Value → H} {P : Program} {f : Func} {s : ChangeSpec} {apart fresh handsOn : Bool} {W W' : World} {args : Array Value} {v : Value} {ds gs : List (DataW H)} {before pa pv : List MemPlace}
    (hW : DataW.Whole enc P f.params.toList s.vars apart W args.toList ds gs before)
    (hres : ∀ (b : Nat) (sp : Nat → Bool) (hd : Bool), DataW.TrodAll enc P W' b sp hd f.resultTypes.toList (v.resultList f.resultTypes.size) (s.fn H (ds ++ gs)).results [])
    (hargs : ∀ sp : Nat → Bool, (∀ p ∈ before, sp p.block = true) → DataW.TrodAll enc P W' 0 sp true f.params.toList args.toList (s.fn H (ds ++ gs)).args pa)
    (hvars : ∀ sp : Nat → Bool, (∀ p ∈ before, sp p.block = true) → DataW.TrodVars enc P W' sp s.vars (s.fn H (ds ++ gs)).vars pv)
    (hps : before = pa ++ pv) (hk : W.keptBut W' (· ∈ before)) :
    s.post enc P f apart fresh handsOn false W args v W' := by
  have hold : ∀ p ∈ before, (fun b => decide (b < W.heap.size)) p.block = true := fun p hp => by simpa using hW.lt p hp
  refine ⟨ds, gs, before, [], pa, pv, hW, hres _ _ _, hargs _ hold, hvars _ hold, World.keptBut_mono (fun p hp => ⟨hp, ?_⟩) hk, fun h => by cases h⟩
  rw [hps, List.mem_append] at hp
  exact Or.inr hp

theorem i64_of {n : Int} (h : (Lit.int .i64 n).wf = true) : -9223372036854775808 ≤ n ∧ n ≤ 9223372036854775807 := by
  simp only [Lit.wf, Bool.and_eq_true, decide_eq_true_eq] at h
  exact ⟨Int.le_trans (by decide) h.1, Int.le_trans h.2 (by decide)⟩

/-- A table laid at its block. -/
noncomputable def World.lay (w : World) (g : Nat) (cs : Array Value) : World :=
  { w with heap := w.heap.modify g fun
      | .cells _ t frozen => .cells cs t frozen
      | o => o }
noncomputable def cells_math_bits_deBruijn64tab : Array Value := #[.int .u8 0, .int .u8 1, .int .u8 56, .int .u8 2, .int .u8 57, .int .u8 49, .int .u8 28, .int .u8 3, .int .u8 61, .int .u8 58, .int .u8 42, .int .u8 50, .int .u8 38, .int .u8 29, .int .u8 17, .int .u8 4, .int .u8 62, .int .u8 47, .int .u8 59, .int .u8 36, .int .u8 45, .int .u8 43, .int .u8 51, .int .u8 22, .int .u8 53, .int .u8 39, .int .u8 33, .int .u8 30, .int .u8 24, .int .u8 18, .int .u8 12, .int .u8 5, .int .u8 63, .int .u8 55, .int .u8 48, .int .u8 27, .int .u8 60, .int .u8 41, .int .u8 37, .int .u8 16, .int .u8 46, .int .u8 35, .int .u8 44, .int .u8 21, .int .u8 52, .int .u8 32, .int .u8 23, .int .u8 11, .int .u8 54, .int .u8 26, .int .u8 40, .int .u8 15, .int .u8 34, .int .u8 20, .int .u8 31, .int .u8 10, .int .u8 25, .int .u8 14, .int .u8 19, .int .u8 9, .int .u8 13, .int .u8 8, .int .u8 7, .int .u8 6]
noncomputable def cells_hostler_event_all : Array Value := #[.string ⟨#[115, 112, 97, 119, 110]⟩, .int .u64 0, .int .u64 1, .string ⟨#[114, 101, 97, 100, 121]⟩, .int .u64 0, .int .u64 1, .string ⟨#[100, 105, 115, 112, 97, 116, 99, 104]⟩, .int .u64 1, .int .u64 2, .string ⟨#[121, 105, 101, 108, 100]⟩, .int .u64 2, .int .u64 1, .string ⟨#[98, 108, 111, 99, 107]⟩, .int .u64 2, .int .u64 3, .string ⟨#[115, 108, 101, 101, 112]⟩, .int .u64 2, .int .u64 4, .string ⟨#[119, 97, 105, 116]⟩, .int .u64 2, .int .u64 5, .string ⟨#[101, 120, 105, 116]⟩, .int .u64 2, .int .u64 6]
noncomputable def cells_hostler_mach_places : Array Value := #[.string ⟨#[101, 120, 101, 99]⟩, .int .i64 0, .string ⟨#[115, 99, 104, 101, 100]⟩, .int .i64 0, .string ⟨#[111, 110, 101]⟩, .int .i64 1, .string ⟨#[108, 111, 99, 97, 108]⟩, .int .i64 2, .string ⟨#[103, 108, 111, 98, 97, 108]⟩, .int .i64 1, .string ⟨#[115, 112, 105, 110, 117, 112]⟩, .int .i64 0, .string ⟨#[115, 116, 101, 97, 108]⟩, .int .i64 3, .string ⟨#[114, 101, 108, 101, 97, 115, 101]⟩, .int .i64 1, .string ⟨#[100, 114, 111, 112]⟩, .int .i64 0, .string ⟨#[108, 111, 111, 107]⟩, .int .i64 4, .string ⟨#[108, 111, 111, 107, 103, 108, 111, 98, 97, 108]⟩, .int .i64 1, .string ⟨#[114, 101, 116, 97, 107, 101]⟩, .int .i64 1, .string ⟨#[115, 112, 105, 110, 98, 97, 99, 107]⟩, .int .i64 0, .string ⟨#[115, 116, 111, 112]⟩, .int .i64 1, .string ⟨#[99, 104, 101, 99, 107]⟩, .int .i64 5, .string ⟨#[117, 110, 112, 111, 108, 108]⟩, .int .i64 1, .string ⟨#[115, 108, 101, 101, 112]⟩, .int .i64 0, .string ⟨#[112, 117, 116, 114, 101, 115, 116]⟩, .int .i64 2, .string ⟨#[112, 117, 116, 111, 118, 101, 114]⟩, .int .i64 1, .string ⟨#[117, 110, 115, 112, 105, 110]⟩, .int .i64 0, .string ⟨#[100, 105, 115, 112, 97, 116, 99, 104]⟩, .int .i64 0, .string ⟨#[108, 111, 97, 100]⟩, .int .i64 0, .string ⟨#[99, 108, 97, 105, 109]⟩, .int .i64 0, .string ⟨#[102, 105, 110, 100]⟩, .int .i64 1, .string ⟨#[119, 97, 107, 101]⟩, .int .i64 0, .string ⟨#[100, 101, 108, 105, 118, 101, 114]⟩, .int .i64 5, .string ⟨#[109, 97, 114, 107]⟩, .int .i64 0, .string ⟨#[112, 117, 116, 111, 110, 101]⟩, .int .i64 1, .string ⟨#[112, 117, 116, 110, 101, 120, 116]⟩, .int .i64 2, .string ⟨#[112, 97, 114, 107]⟩, .int .i64 5, .string ⟨#[97, 119, 97, 105, 116]⟩, .int .i64 5]
/-- The holding world, with the rows of status.next behind it. -/
noncomputable def nextRows (w : World) : World := (((((((w.alloc (.cells #[.int .u64 1] 98)).alloc (.cells #[.int .u64 2] 98)).alloc (.cells #[.int .u64 1, .int .u64 3, .int .u64 4, .int .u64 5, .int .u64 6] 98)).alloc (.cells #[.int .u64 1] 98)).alloc (.cells #[.int .u64 1] 98)).alloc (.cells #[.int .u64 1] 98)).alloc (.cells #[] 98))
noncomputable def cells_hostler_status_next (n : Nat) : Array Value := #[.slice (some ⟨n + 0, 0, none⟩) 1 1, .slice (some ⟨n + 1, 0, none⟩) 1 1, .slice (some ⟨n + 2, 0, none⟩) 5 5, .slice (some ⟨n + 3, 0, none⟩) 1 1, .slice (some ⟨n + 4, 0, none⟩) 1 1, .slice (some ⟨n + 5, 0, none⟩) 1 1, .slice (some ⟨n + 6, 0, none⟩) 0 0]
/-- A WORLD FOR THE WITNESS. -/
noncomputable def laidWorld (os : Os) : World :=
  World.lay (World.lay (World.lay (World.lay (nextRows (World.holding Tryz.prog os ⟨#[], #[], []⟩)) 0 (cells_hostler_status_next (World.holding Tryz.prog os ⟨#[], #[], []⟩).heap.size)) 1 cells_hostler_event_all) 2 cells_hostler_mach_places) 3 cells_math_bits_deBruijn64tab
end Go.Proofs.YtfjepdcnikgjeaaGreatDoor
