/-
  The law's things, and what is few; the document's steps and texts of things, walked.
-/
import Derived.Test.YtfjepdcnikgjeaaGreatDoorThg
import Derived.Test.YtfjepdcnikgjeaaGreatDoorRStps
import Derived.Test.YtfjepdcnikgjeaaGreatDoorBoxU
set_option linter.unusedVariables false
set_option linter.unusedSimpArgs false
set_option linter.unusedSectionVars false
namespace Go.Proofs.YtfjepdcnikgjeaaGreatDoor
open Go Go.RowKit Hst Go.Proofs

/-- A load of a struct that lies in a row of structs. -/
theorem wpList_load_at {P : Program} {ops : Array Oper} {rest : List Oper} {o : Oper} {a : Act} {w : World} {Q : Exit → Act → World → Prop} (hgd : o.guard = none) (ty : TypeId) (x : Operand) (ho : o.op = .load ty x)
    (g off : Nat) (hx : a.eval x = .pointer (some ⟨g, off, none⟩)) (cs : Array Value) (d : TypeDesc) (hg : ∀ i, i < cs.size → w.cell? ⟨g, off + i, none⟩ = cs[i]?)
    (hu : P.underlying ty = some d) (hd : (match d with | .struct _ | .array _ _ => true | _ => false) = true) (hi : (P.info? ty).map (·.size) = some cs.size)
    (h : wpList P ops Q rest (a.put o.dst (.agg cs)) w) : wpList P ops Q (o :: rest) a w := by
  refine wpList_plain hgd fun _ hK => ?_
  have hl : (loadCells ⟨g, off, none⟩ cs.toList.length).run P w = .ok cs.toList.toArray w :=
    run_loadCells_list (P := P) w ⟨g, off, none⟩ cs.toList (fun j v hv => by
      have hadd : (⟨g, off, none⟩ : Addr).add j = ⟨g, off + j, none⟩ := by unfold Addr.add; split <;> simp_all
      have hj : j < cs.size := by simpa using (List.getElem?_eq_some_iff.1 hv).1
      rw [hadd, hg j hj]
      simpa using hv)
  have hlv : (loadVar ty ⟨g, off, none⟩).run P w = .ok (.agg cs) w := by
    cases hq : P.info? ty with
    | none => simp [hq] at hi
    | some i =>
      have hs : i.size = cs.size := by simpa [hq] using hi
      have hagg : (isAgg ty).run P w = .ok true w := by
        unfold isAgg
        rw [Sem.run_bind, run_underlying hu w]
        cases d <;> simp_all
      simp only [Array.length_toList, Array.toArray_toList] at hl
      simp [loadVar, Sem.run_bind, hagg, sizeOf, typeInfo, hq, hs, hl]
  unfold Oper.wp execOp
  simp only [ho, hx, Instr.loadAt, Instr.sureAddr, Sem.run_bind, Sem.run_pure, Result.andThen_ok, hlv]
  exact hK _ _ h
/-- Rows of the law's things, as they lie in the heap. -/
structure RawCells (w : World) (b o : Nat) (l : List RawT) : Prop where
  lt : b < w.heap.size
  at_ : ∀ j r, l[j]? = some r → ∀ i, i < 17 → w.cell? ⟨b, o + j * 17 + i, none⟩ = (rawC r)[i]?
theorem RawCells.below {w w' : World} {b o : Nat} {l : List RawT} (h : RawCells w b o l) {B : Nat} (hB : b < B) (hb : Below B w w') : RawCells w' b o l where
  lt := Nat.lt_of_lt_of_le h.lt hb.size
  at_ j r he i hi := (below_cell hb hB).trans (h.at_ j r he i hi)
def RawArg (w : World) (v : Value) (l : List RawT) : Prop :=
  ∃ a c, v = .slice a l.length c ∧ (l = [] ∨ ∃ b o, a = some ⟨b, o, none⟩ ∧ RawCells w b o l)
theorem RawArg.below {w w' : World} {v : Value} {l : List RawT} (h : RawArg w v l) (hb : Below w.heap.size w w') : RawArg w' v l := by
  obtain ⟨a, c, hv, h⟩ := h
  refine ⟨a, c, hv, ?_⟩
  rcases h with h | ⟨b, o, ha, hc⟩
  · exact .inl h
  · exact .inr ⟨b, o, ha, hc.below hc.lt hb⟩
/-- Rows of the document's things. -/
structure ThgCells (w : World) (b o : Nat) (l : List Thg) : Prop where
  lt : b < w.heap.size
  at_ : ∀ j r, l[j]? = some r → ∀ i, i < 11 → w.cell? ⟨b, o + j * 11 + i, none⟩ = (thC r)[i]?
theorem ThgCells.below {w w' : World} {b o : Nat} {l : List Thg} (h : ThgCells w b o l) {B : Nat} (hB : b < B) (hb : Below B w w') : ThgCells w' b o l where
  lt := Nat.lt_of_lt_of_le h.lt hb.size
  at_ j r he i hi := (below_cell hb hB).trans (h.at_ j r he i hi)
def ThgArg (w : World) (v : Value) (l : List Thg) : Prop :=
  ∃ a c, v = .slice a l.length c ∧ (l = [] ∨ ∃ b o, a = some ⟨b, o, none⟩ ∧ ThgCells w b o l)
theorem ThgArg.below {w w' : World} {v : Value} {l : List Thg} (h : ThgArg w v l) (hb : Below w.heap.size w w') : ThgArg w' v l := by
  obtain ⟨a, c, hv, h⟩ := h
  refine ⟨a, c, hv, ?_⟩
  rcases h with h | ⟨b, o, ha, hc⟩
  · exact .inl h
  · exact .inr ⟨b, o, ha, hc.below hc.lt hb⟩
def fewB (l : List RawT) : Bool := l.all (fun r => decide (r.text.size ≤ 100)) && decide (l.length ≤ 40)

set_option maxHeartbeats 6400000 in
set_option maxRecDepth 100000 in
theorem few_any {w : World} {v : Value} {l : List RawT} (hA : RawArg w v l) (hl : l.length ≤ 9223372036854775807) :
    Calls Tryz.prog 28 #[v] w fun e w' => e = .returned (.bool (fewB l)) ∧ Below w.heap.size w w' := by
  obtain ⟨a, c, rfl, hE⟩ := hA
  go_enter Tryz.func28, Tryz.ntmps28
  go_wp2
  go_loopw [7] (fun i wr => ∃ j : Nat, i = .int .i64 (j : Int) ∧ j ≤ l.length ∧ (l.take j).all (fun r => decide (r.text.size ≤ 100)) = true ∧ Below w.heap.size w wr) (fun i _ => l.length - (intOf i).toNat)
  case atStart => exact ⟨0, rfl, by omega, rfl, Below.refl _ w⟩
  case round =>
    obtain ⟨j, rfl, hj, hall, K⟩ := hrel
    by_cases hp : j < l.length
    · rcases hE with rfl | ⟨b, o, rfl, hE⟩
      · simp at hp
      obtain ⟨r, he⟩ : ∃ r, l[j]? = some r := ⟨_, List.getElem?_eq_getElem hp⟩
      have hc := fun i hi => (hE.below hE.lt K).at_ j r he i hi
      have hlt := (hE.below hE.lt K).lt
      have hpi : (j : Int) < l.length := by omega
      have htk := take_at he
      have hmem := List.mem_of_getElem? he
      have hcA := fun i (hi : i < (rawC r).size) => hc i hi
      have HTK := Lib.hid htk
      have HM := Lib.hid hmem
      have HALL := Lib.hid hall
      have HC := Lib.hid hcA
      clear hc hcA hE he htk hmem hall
      by_cases hs : (100 : Int) < r.text.size
      · have hf : fewB l = false := by
          unfold fewB
          rw [Bool.and_eq_false_iff]
          left
          rw [List.all_eq_false]
          exact ⟨_, HM.out, by simp; omega⟩
        have HF := Lib.hid hf
        clear hf
        go_wp2_with (first
          | (refine wpList_load_at rfl 45 _ rfl b (o + j * 17) rfl (rawC r) _ HC.out Tryz.underlying45 rfl info_raw ?_)
          | (refine wpList_store_row rfl 45 _ _ rfl _ _ rfl rfl 45 _ (heap_alloc_new wr _) info_raw rfl (by simp [rawC, Value.oneCell']) ?_; refine wpl_gen (fun wb => wb.heap[wr.heap.size]? = some (.cells (rawC r) 45 (0, 0)) ∧ Below wr.heap.size wr wb) (setRow_new _) ?_; rintro wb ⟨hx, hbw⟩; have x16 := box_cell hx 16; have K1 := K.trans (hbw.mono K.size); change wb.cell? _ = some (.string r.text) at x16; clear hx hbw))
        go_returns
        exact ⟨by rw [HF.out]; rfl, K1⟩
      · go_wp2_with (first
          | (refine wpList_load_at rfl 45 _ rfl b (o + j * 17) rfl (rawC r) _ HC.out Tryz.underlying45 rfl info_raw ?_)
          | (refine wpList_store_row rfl 45 _ _ rfl _ _ rfl rfl 45 _ (heap_alloc_new wr _) info_raw rfl (by simp [rawC, Value.oneCell']) ?_; refine wpl_gen (fun wb => wb.heap[wr.heap.size]? = some (.cells (rawC r) 45 (0, 0)) ∧ Below wr.heap.size wr wb) (setRow_new _) ?_; rintro wb ⟨hx, hbw⟩; have x16 := box_cell hx 16; have K1 := K.trans (hbw.mono K.size); change wb.cell? _ = some (.string r.text) at x16; clear hx hbw))
        go_roundw
        case rel => exact ⟨j + 1, by go_num, hp, by rw [HTK.out, List.all_append, HALL.out]; simp; omega, K1⟩
        case measure => simp [intOf]; omega
    · obtain rfl : j = l.length := by omega
      rw [List.take_length] at hall
      have hpi : ¬ (l.length : Int) < l.length := by omega
      have hf : fewB l = decide ((l.length : Int) ≤ 40) := by
        unfold fewB
        rw [hall, Bool.true_and]
        exact decide_eq_decide.2 (by omega)
      have HF := Lib.hid hf
      clear hf hall
      go_wp2
      go_returns
      exact ⟨by rw [HF.out]; rfl, K⟩
end Go.Proofs.YtfjepdcnikgjeaaGreatDoor
