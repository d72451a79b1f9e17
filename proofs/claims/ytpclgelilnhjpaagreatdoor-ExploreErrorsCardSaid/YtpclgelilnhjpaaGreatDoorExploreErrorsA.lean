/-
  hostler/hostlerlaw28.ExploreErrors: for every input the law returns true, and its arguments read as they did.
  Conditions: what the row lists (tables of the program's text, tied by the card).
-/
import Derived.ChangeMaps5
import Derived.Test.YtpclgelilnhjpaaGreatDoorLaid
import Derived.Test.YtpclgelilnhjpaaGreatDoorExpX
set_option linter.unusedVariables false
set_option linter.unusedSimpArgs false
set_option linter.unusedSectionVars false
namespace Go.Proofs.YtpclgelilnhjpaaGreatDoor.exploreErrors
open Go Go.ChangeShapes Go.WideShapes Go.ChangeAt Go.RowKit Go.Proofs

set_option maxRecDepth 100000 in
theorem contract (H : Type) (enc : TypeId × Value → H) (W : World) (base : Nat) (args : Array Value) (ds gs : List (DataW H)) (before : List MemPlace)
    (hval : ∀ (j : Nat) t v, Tryz.f6.params[j]? = some t → args[j]? = some v → Value.okWide Tryz.prog W .any base t v)
    (hW : DataW.Whole enc Tryz.prog Tryz.f6.params.toList Rows.exploreErrorsSpec.vars false W args.toList ds gs before) (hL : laidMetH Tryz.prog Rows.exploreErrorsRow.laid W) :
    Calls Tryz.prog 6 args W fun e W' => ∃ v, e = .returned v ∧ Rows.exploreErrorsSpec.post enc Tryz.prog Tryz.f6 false true false false W args v W' := by
  have hW' := hW
  obtain ⟨p, q, hA0, hV, rfl, hfz, hnd⟩ := hW
  have hA : DataW.TrodAll enc Tryz.prog W 0 (fun _ => true) true Tryz.f6.params.toList args.toList ds p := hA0
  rw [Tryz.params6] at hA hval
  obtain ⟨v0, vs0, d0, ds0, p0, q0, hargs, rfl, rfl, t0, r0⟩ := trodAll_cons hA
  obtain ⟨v1, vs1, d1, ds1, p1, q1, rfl, rfl, rfl, t1, r1⟩ := trodAll_cons r0
  obtain ⟨rfl, rfl, rfl⟩ := trodAll_nil r1
  obtain rfl : args = #[v0, v1] := by cases args; simp_all
  obtain ⟨rfl, rfl⟩ := trodVars_none hV
  obtain ⟨a0, rfl, hE0⟩ := open_cfg (hval 0 29 v0 rfl rfl) t0
  obtain ⟨a1, rfl, rfl, rfl, h1⟩ := open_int Tryz.underlying3 (hval 1 3 v1 rfl rfl) t1
  clear hA0
  simp only [List.append_nil, List.nil_append] at hW' hA
  refine (errors_any a0 a1 W.heap.size W hE0 (tabs_of (l := Rows.exploreErrorsRow.laid) hL (by simp [Rows.exploreErrorsRow]) (by simp [Rows.exploreErrorsRow]) (by simp [Rows.exploreErrorsRow]) (by simp [Rows.exploreErrorsRow]))).mono fun e W' ⟨he, hg⟩ => ?_
  subst he
  exact ⟨_, rfl, post_kept (pa := p0) (pv := []) hW' (fun _ _ _ => trodAll_cons_mk (shut_bool Tryz.underlying4 _) trodAll_mk0)
    (fun sp hs => DataW.TrodAll.respare kids full (by decide) (trodAll_carry hA fun x hx => hg.same (hW'.lt x (by simpa using hx))) fun x hx => hs x (by simpa using hx)) (fun _ _ => rfl) (by simp) (hg.frame _)⟩

theorem laid_met (os : Os) : laidMet Tryz.prog Rows.exploreErrorsRow.laid ((laidWorldQ os).forCall (fun _ _ => 0) ⟨#[], #[.agg #[.int .i64 0, .int .i64 0, .int .i64 0], .int .i64 0], []⟩).memory :=
  laidMet_of_run' 8 (by kernel_rfl) (by kernel_rfl)
theorem reads (os : Os) {H : Type} (enc : TypeId × Value → H) : ∃ places, DataW.whole enc Tryz.prog ((laidWorldQ os).forCall (fun _ _ => 0) ⟨#[], #[.agg #[.int .i64 0, .int .i64 0, .int .i64 0], .int .i64 0], []⟩).memory Tryz.f6.params.toList Rows.exploreErrorsSpec.vars false #[Value.agg #[.int .i64 0, .int .i64 0, .int .i64 0], Value.int .i64 0].toList 8 = some ([.agg [.lit (.int .i64 0), .lit (.int .i64 0), .lit (.int .i64 0)], .lit (.int .i64 0)], [], places) :=
  ⟨[], by kernel_rfl⟩

set_option maxRecDepth 100000 in
theorem lifted (os : Os) (started : os.Started) (H : Type) (enc : TypeId × Value → H) (F : Stop.Interp) :
    ReturnsInHanded {} Tryz.checked os 6 .any ((OpenSpec.ofChange Rows.exploreErrorsSpec).preRow enc Tryz.prog Tryz.f6 Rows.exploreErrorsRow.domain false Rows.exploreErrorsRow.laid) (((OpenSpec.ofChange Rows.exploreErrorsSpec).at F).post enc Tryz.prog Tryz.f6 false true false false) := by
  obtain ⟨places, hx⟩ := reads os enc
  refine returnsInHanded_of_row (C := Tryz.checked) (s := OpenSpec.ofChange Rows.exploreErrorsSpec) own started (by kernel_rfl) Tryz.func6
    (witness_row_atRef (enc := enc) (C := Tryz.checked) false (laidWorldQ os) #[.agg #[.int .i64 0, .int .i64 0, .int .i64 0], .int .i64 0] rfl (by kernel_rfl) (by kernel_rfl) (by kernel_rfl)
      (OpenSpec.preRow_of_cond 8 hx (by kernel_rfl) (fun k hk => by cases hk) (by kernel_rfl) (laid_met os))) ?_
  intro W base args ds gs before hval hW _ _ _ hL _ _
  exact contract H enc W base args ds gs before hval hW hL
end Go.Proofs.YtpclgelilnhjpaaGreatDoor.exploreErrors
