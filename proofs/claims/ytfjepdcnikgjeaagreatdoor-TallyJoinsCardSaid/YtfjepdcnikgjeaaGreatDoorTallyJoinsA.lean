/-
  hostler/hostlerlaw27.TallyJoins: for every input the law returns true, and its arguments read as they did.
  Conditions: what the row lists (tables of the program's text, tied by the card).
-/
import Derived.Test.YtfjepdcnikgjeaaGreatDoorLaid
import Derived.Test.YtfjepdcnikgjeaaGreatDoorTalJ
set_option linter.unusedVariables false
set_option linter.unusedSimpArgs false
set_option linter.unusedSectionVars false
namespace Go.Proofs.YtfjepdcnikgjeaaGreatDoor.tallyJoins
open Go Go.ChangeShapes Go.WideShapes Go.ChangeAt Go.RowKit Go.Proofs

set_option maxRecDepth 100000 in
theorem contract (H : Type) (enc : TypeId × Value → H) (W : World) (base : Nat) (args : Array Value) (ds gs : List (DataW H)) (before : List MemPlace)
    (hval : ∀ (j : Nat) t v, Tryz.f8.params[j]? = some t → args[j]? = some v → Value.okWide Tryz.prog W .any base t v)
    (hW : DataW.Whole enc Tryz.prog Tryz.f8.params.toList Rows.tallyJoinsSpec.vars false W args.toList ds gs before) (hL : laidMetH Tryz.prog Rows.tallyJoinsRow.laid W) :
    Calls Tryz.prog 8 args W fun e W' => ∃ v, e = .returned v ∧ Rows.tallyJoinsSpec.post enc Tryz.prog Tryz.f8 false true false false W args v W' := by
  have hW' := hW
  obtain ⟨p, q, hA0, hV, rfl, hfz, hnd⟩ := hW
  have hA : DataW.TrodAll enc Tryz.prog W 0 (fun _ => true) true Tryz.f8.params.toList args.toList ds p := hA0
  rw [Tryz.params8] at hA hval
  obtain ⟨v0, vs0, d0, ds0, p0, q0, hargs, rfl, rfl, t0, r0⟩ := trodAll_cons hA
  obtain ⟨v1, vs1, d1, ds1, p1, q1, rfl, rfl, rfl, t1, r1⟩ := trodAll_cons r0
  obtain ⟨v2, vs2, d2, ds2, p2, q2, rfl, rfl, rfl, t2, r2⟩ := trodAll_cons r1
  obtain ⟨rfl, rfl, rfl⟩ := trodAll_nil r2
  obtain rfl : args = #[v0, v1, v2] := by cases args; simp_all
  obtain ⟨rfl, rfl⟩ := trodVars_none hV
  obtain ⟨pa0, ca0, l0, rfl, hE0, hv0⟩ := open_evs (hval 0 60 v0 rfl rfl) t0
  obtain ⟨pa1, ca1, l1, rfl, hE1, hv1⟩ := open_evs (hval 1 60 v1 rfl rfl) t1
  obtain ⟨a2, rfl, rfl, rfl, h2⟩ := open_int Tryz.underlying3 (hval 2 3 v2 rfl rfl) t2
  clear hA0
  simp only [List.append_nil, List.nil_append] at hW' hA
  refine (joins27_any pa0 pa1 ca0 ca1 l0 l1 a2 W.heap.size W hE0 hE1 hv0 hv1 (i64_of h2) (tabs_of (l := Rows.tallyJoinsRow.laid) hL (by simp [Rows.tallyJoinsRow]) (by simp [Rows.tallyJoinsRow]) (by simp [Rows.tallyJoinsRow]) (by simp [Rows.tallyJoinsRow]))).mono fun e W' ⟨he, hg⟩ => ?_
  subst he
  exact ⟨_, rfl, post_kept (pa := p0 ++ p1) (pv := []) hW' (fun _ _ _ => trodAll_cons_mk (shut_bool Tryz.underlying4 _) trodAll_mk0)
    (fun sp hs => DataW.TrodAll.respare kids full (by decide) (trodAll_carry hA fun x hx => hg.same (hW'.lt x (by simpa using hx))) fun x hx => hs x (by simpa using hx)) (fun _ _ => rfl) (by simp) (hg.frame _)⟩

theorem laid_met (os : Os) : laidMet Tryz.prog Rows.tallyJoinsRow.laid ((laidWorld os).forCall (fun _ _ => 0) ⟨#[], #[.slice none 0 0, .slice none 0 0, .int .i64 0], []⟩).memory :=
  laidMet_of_run' 8 (by kernel_rfl) (by kernel_rfl)
theorem reads (os : Os) {H : Type} (enc : TypeId × Value → H) : ∃ places, DataW.whole enc Tryz.prog ((laidWorld os).forCall (fun _ _ => 0) ⟨#[], #[.slice none 0 0, .slice none 0 0, .int .i64 0], []⟩).memory Tryz.f8.params.toList Rows.tallyJoinsSpec.vars false #[Value.slice none 0 0, Value.slice none 0 0, Value.int .i64 0].toList 8 = some ([.nil, .nil, .lit (.int .i64 0)], [], places) :=
  ⟨[], by kernel_rfl⟩

set_option maxRecDepth 100000 in
theorem lifted (os : Os) (started : os.Started) (H : Type) (enc : TypeId × Value → H) (F : Stop.Interp) :
    ReturnsInHanded {} Tryz.checked os 8 .any ((OpenSpec.ofChange Rows.tallyJoinsSpec).preRow enc Tryz.prog Tryz.f8 Rows.tallyJoinsRow.domain false Rows.tallyJoinsRow.laid) (((OpenSpec.ofChange Rows.tallyJoinsSpec).at F).post enc Tryz.prog Tryz.f8 false true false false) := by
  obtain ⟨places, hx⟩ := reads os enc
  refine returnsInHanded_of_row (C := Tryz.checked) (s := OpenSpec.ofChange Rows.tallyJoinsSpec) own started (by kernel_rfl) Tryz.func8
    (witness_row_atRef (enc := enc) (C := Tryz.checked) false (laidWorld os) #[.slice none 0 0, .slice none 0 0, .int .i64 0] rfl (by kernel_rfl) (by kernel_rfl) (by kernel_rfl)
      (OpenSpec.preRow_of_cond 8 hx (by kernel_rfl) (fun k hk => by cases hk) (by kernel_rfl) (laid_met os))) ?_
  intro W base args ds gs before hval hW _ _ _ hL _ _
  exact contract H enc W base args ds gs before hval hW hL
end Go.Proofs.YtfjepdcnikgjeaaGreatDoor.tallyJoins
