/-
  BoxedMust, walked.
-/
import Derived.Test.YtfjepdcnikgjeaaGreatDoorMust
import Derived.Test.YtfjepdcnikgjeaaGreatDoorBoxN
import Derived.BigFrame
import Derived.Great.BuildSlice
set_option linter.unusedVariables false
set_option linter.unusedSimpArgs false
set_option linter.unusedSectionVars false
namespace Go.Proofs.YtfjepdcnikgjeaaGreatDoor
open Go Go.RowKit Hst Go.Proofs

/-- As wpList_load_at, of an operation that is guarded. -/
theorem wpList_load_want {P : Program} {ops : Array Oper} {rest : List Oper} {o : Oper} {a : Act} {w : World} {Q : Exit → Act → World → Prop} (hgd : Region.wanted o (yielded ops a.tmps) = true) (ty : TypeId) (x : Operand) (ho : o.op = .load ty x)
    (g off : Nat) (hx : a.eval x = .pointer (some ⟨g, off, none⟩)) (cs : Array Value) (d : TypeDesc) (hg : ∀ i, i < cs.size → w.cell? ⟨g, off + i, none⟩ = cs[i]?)
    (hu : P.underlying ty = some d) (hd : (match d with | .struct _ | .array _ _ => true | _ => false) = true) (hi : (P.info? ty).map (·.size) = some cs.size)
    (h : wpList P ops Q rest (a.put o.dst (.agg cs)) w) : wpList P ops Q (o :: rest) a w := by
  refine BigFrame.wpList_want hgd fun _ hK => ?_
  have hl : (loadCells ⟨g, off, none⟩ cs.toList.length).run P w = .ok cs.toList.toArray w :=
    run_loadCells_list (P := P) w ⟨g, off, none⟩ cs.toList (fun j v hv => by
      have hadd : (⟨g, off, none⟩ : Addr).add j = ⟨g, off + j, none⟩ := by unfold Addr.add; split <;> simp_all
      have hj : j < cs.size := by simpa using (List.getElem?_eq_some_iff.1 hv).1
      rw [hadd, hg j hj]
      simpa using hv)
  have hlv : (loadVar ty ⟨g, off, none⟩).run P w = .ok (.agg cs) w := by
    cases hq : P.info? ty with
    | none => simp [hq] at hi
    | some i =>
      have hs : i.size = cs.size := by simpa [hq] using hi
      have hagg : (isAgg ty).run P w = .ok true w := by
        unfold isAgg
        rw [Sem.run_bind, run_underlying hu w]
        cases d <;> simp_all
      simp only [Array.length_toList, Array.toArray_toList] at hl
      simp [loadVar, Sem.run_bind, hagg, sizeOf, typeInfo, hq, hs, hl]
  unfold Oper.wp execOp
  simp only [ho, hx, Instr.loadAt, Instr.sureAddr, Sem.run_bind, Sem.run_pure, Result.andThen_ok, hlv]
  exact hK _ _ h
theorem wpList_build_want {P : Program} {ops : Array Oper} {rest : List Oper} {o : Oper} {a : Act} {w : World} {Q : Exit → Act → World → Prop} (hg : Region.wanted o (yielded ops a.tmps) = true) (t e : TypeId) (len : Nat) (parts : Array (Nat × Operand)) (ho : o.op = .buildSlice t len parts)
    (cells : Array Value) (ie : TypeInfo) (z : Value)
    (hu : P.underlying t = some (.slice e)) (hie : P.info? e = some ie) (hz : ie.zero = some z) (hsmall : ¬ len * ie.size > 2 ^ 24) (hpos : ¬ len * ie.size = 0)
    (hf : Instr.fill (fun i => some (i * ie.size, ie.size)) ((Array.range (len * ie.size)).map (z.cells[· % z.cells.size]!)) (parts.map fun (i, x) => (i, a.eval x)).toList = some cells)
    (h : wpList P ops Q rest (a.put o.dst (.slice (some ⟨w.heap.size, 0, none⟩) len len)) (w.alloc (.cells cells e))) : wpList P ops Q (o :: rest) a w :=
  BigFrame.wpList_want hg fun _ hK => wp_buildSlice t e len parts ho cells ie z hu hie hz hsmall hpos hf (hK _ _ h)
set_option maxRecDepth 100000 in
theorem fill_raw (r : RawT) : ∃ ie z, Tryz.prog.info? 45 = some ie ∧ ie.zero = some z ∧ ie.size = 17 ∧ Instr.fill (fun i => some (i * ie.size, ie.size)) ((Array.range (1 * ie.size)).map (z.cells[· % z.cells.size]!)) [(0, .agg (rawC r))] = some (rawC r) := by
  refine ⟨_, _, rfl, rfl, by kernel_rfl, ?_⟩
  kernel_rfl
theorem eq_st (s : Hst.Stp) (w : World) : (binOp .eql 40 (.agg #[.int .u8 (s.kind : Nat), .int .u8 (s.act : Nat), .int .i64 s.a, .int .i64 s.x, .int .i64 s.d]) (.agg #[.int .u8 (s.kind : Nat), .int .u8 (s.act : Nat), .int .i64 s.a, .int .i64 s.x, .int .i64 s.d])).run Tryz.prog w = .ok (.bool true) w := by
  rw [run_eql_struct, run_equalIn_struct w 9999 40 _ _ (by kernel_rfl) (by kernel_rfl)]
  simp only [Program.fieldsOf, Tryz.underlying40, Op.eqFields]
  simp [go_sem, Tryz.underlying5, Tryz.underlying3, Tryz.underlying2, Result.andThen]
theorem eq_st0 (w : World) : (binOp .eql 40 (.agg #[.int .u8 0, .int .u8 0, .int .i64 0, .int .i64 0, .int .i64 0]) (.agg #[.int .u8 0, .int .u8 0, .int .i64 0, .int .i64 0, .int .i64 0])).run Tryz.prog w = .ok (.bool true) w :=
  eq_st ⟨0, 0, 0, 0, 0⟩ w
theorem thOf_ne {r : RawT} (h2 : ¬ r.kind % 10 = 2) : ¬ (thOf r).kind = 2 := by
  unfold thOf
  split <;> simp_all [th0]
theorem raw_one {w : World} {r : RawT} : RawArg (w.alloc (.cells (rawC r) 45)) (.slice (some ⟨w.heap.size, 0, none⟩) 1 1) [r] := by
  refine ⟨_, _, rfl, .inr ⟨w.heap.size, 0, rfl, by simp, fun j x hx i hi => ?_⟩⟩
  match j, hx with
  | 0, hx =>
    cases hx
    rw [box_cell (heap_alloc_new w _)]
    simp

set_option maxHeartbeats 3200000 in
set_option maxRecDepth 100000 in
theorem bmust_any (r : RawT) (N : Nat) (w : World) (hn : r.nums) (T : Tabs N w) :
    Calls Tryz.prog 6 #[.agg (rawC r)] w fun e w' => e = .returned (.bool true) ∧ Below w.heap.size w w' := by
  have hl := fun w1 (hb : Below w.heap.size w w1) => lives26_any N w1 (T.of_below hb T.le)
  have HLV := Lib.hid hl
  clear hl T
  have hok : fewB [r] = true → r.ok := fun h => by
    simp [fewB] at h
    exact ⟨h, hn.2⟩
  have HOK := Lib.hid hok
  clear hok
  have hk := hn.1
  clear hn
  go_enter Tryz.func6, Tryz.ntmps6
  go_wp2_with fail
  refine (HLV.out _ (below_alloc _ _)).mono ?_
  rintro e w1 ⟨rfl, K1⟩
  have b0 : w1.heap[w.heap.size]? = some (.cells (rawC r) 45 (0, 0)) := (K1.block _ (by simp)).trans (heap_alloc_new _ _)
  have KK : Below w.heap.size w w1 := (below_alloc _ _).trans (K1.mono (by simp))
  have hlt := box_lt b0
  have KK := Lib.hid KK
  have B0 := Lib.hid b0
  clear K1 b0
  have HC := fun i (hi : i < (rawC r).size) => ((box_cell B0.out (0 + i)).trans (by rw [Nat.zero_add]))
  have HC := Lib.hid HC
  obtain ⟨ie, z, hie, hz, hs, hf⟩ := fill_raw r
  have HIE := Lib.hid hie
  have HZ := Lib.hid hz
  have HF := Lib.hid hf
  clear hie hz hf
  go_wp2_with (first
    | (refine wpList_build_want rfl 47 45 1 _ rfl (rawC r) ie z Tryz.underlying47 HIE.out HZ.out (by rw [hs]; decide) (by rw [hs]; decide) (by rw [Array.toList_map]; exact HF.out) ?_)
    | (refine wpList_load_want rfl 45 _ rfl w.heap.size 0 rfl (rawC r) _ HC.out Tryz.underlying45 rfl info_raw ?_))
  refine (few_any raw_one (by simp)).mono ?_
  rintro e w2 ⟨rfl, b2⟩
  have KK2 : Below w.heap.size w w2 := KK.out.trans (((below_alloc _ _).mono KK.out.size).trans (b2.mono (by have := KK.out.size; simp; omega)))
  have b0 : w2.heap[w.heap.size]? = some (.cells (rawC r) 45 (0, 0)) := (b2.block _ (by simp; omega)).trans ((heap_alloc_old _ _ hlt).trans B0.out)
  have hlt2 := box_lt b0
  have KK2 := Lib.hid KK2
  have B2 := Lib.hid b0
  clear b2 b0 HC B0 KK hlt HF HZ HIE
  have HC := fun i (hi : i < (rawC r).size) => ((box_cell B2.out (0 + i)).trans (by rw [Nat.zero_add]))
  have HC := Lib.hid HC
  by_cases hf : fewB [r] = true
  · have hok := HOK.out hf
    have HF := Lib.hid hf
    clear hf
    have hth := thing_any r hk
    unfold ThingOK at hth
    obtain ⟨t, ht⟩ : ∃ t, t = thOf r := ⟨_, rfl⟩
    simp only [← ht] at hth
    have HTH := Lib.hid hth
    have HT := Lib.hid ht
    clear hth ht
    generalize fewB [r] = q at *
    have hq : q = true := HF.out
    subst hq
    go_wp2_with (first
      | (refine wpList_load_at rfl 45 _ rfl w.heap.size 0 rfl (rawC r) _ HC.out Tryz.underlying45 rfl info_raw ?_))
    refine (HTH.out _).mono ?_
    rintro e w3 ⟨⟨pv, rfl⟩, b3⟩
    have K3 : Below w.heap.size w w3 := KK2.out.trans (b3.mono KK2.out.size)
    have b0 : w3.heap[w.heap.size]? = some (.cells (rawC r) 45 (0, 0)) := (b3.block _ hlt2).trans B2.out
    have K3 := Lib.hid K3
    have B3 := Lib.hid b0
    clear b3 b0 B2 HC KK2 hlt2 HF HTH
    go_wp2_with (first
      | (refine wpList_store_row rfl 50 _ _ rfl _ _ rfl rfl 50 _ (heap_alloc_new w3 _) info_thg rfl (by simp [thC, Value.oneCell']) ?_; refine wpl_gen (fun wb => wb.heap[w3.heap.size]? = some (.cells (thC t) 50 (0, 0)) ∧ Below w3.heap.size w3 wb) (setRow_new _) ?_; rintro wb ⟨hx, hbw⟩; have x0 := box_cell hx 0; have KB := K3.out.trans (hbw.mono K3.out.size); change wb.cell? _ = some (.int .i64 t.kind) at x0))
    have hlb : w3.heap.size < wb.heap.size := box_lt hx
    have b0 : wb.heap[w.heap.size]? = some (.cells (rawC r) 45 (0, 0)) := (hbw.block _ (box_lt B3.out)).trans B3.out
    have hltb := box_lt b0
    have KB := Lib.hid KB
    have B4 := Lib.hid b0
    have X0 := Lib.hid x0
    clear hx hbw B3 K3 x0 b0
    have hq := fun s w => eq_st s w
    have hq0 := fun w => eq_st0 w
    by_cases h2 : r.kind % 10 = 2
    · have hbx : bxOf r pv = Bx.step r.step := by unfold bxOf; rw [h2]; rfl
      have hkd : t.kind = 2 := by rw [HT.out]; unfold thOf; rw [h2]; rfl
      rw [hbx]
      clear h2 HT hbx
      refine (must_good r.step wb).mono ?_
      rintro e w4 ⟨rfl, b4⟩
      have x0 := below_cell (o := 0) b4 hlb
      have K4 := KB.out.trans (b4.mono KB.out.size)
      rw [X0.out, hkd] at x0
      have b0 := (b4.block _ hltb).trans B4.out
      have x4 := box_cell b0 4
      have x5 := box_cell b0 5
      have x6 := box_cell b0 6
      have x7 := box_cell b0 7
      have x8 := box_cell b0 8
      change w4.cell? _ = some (.int .u8 (r.step.kind : Nat)) at x4
      change w4.cell? _ = some (.int .u8 (r.step.act : Nat)) at x5
      change w4.cell? _ = some (.int .i64 r.step.a) at x6
      change w4.cell? _ = some (.int .i64 r.step.x) at x7
      change w4.cell? _ = some (.int .i64 r.step.d) at x8
      have hlb4 := Nat.lt_of_lt_of_le hlb b4.size
      have hltb4 := Nat.lt_of_lt_of_le hltb b4.size
      have K4 := Lib.hid K4
      clear b4 b0 B4 X0 KB hlb hltb hkd
      unfold stV
      go_wp2
      go_returns
      exact ⟨rfl, K4.out.trans (Below.mono (B := w4.heap.size) (by go_grown) K4.out.size)⟩
    · have hbx : isStep (bxOf r pv) = false := by
        have h := kind_lt r
        unfold bxOf
        generalize r.kind % 10 = k at *
        match k, h with
        | 0, _ | 1, _ | 3, _ | 4, _ | 5, _ | 6, _ | 7, _ | 8, _ | 9, _ => rfl
        | 2, _ => exact absurd rfl h2
      have hkd : ¬ t.kind = 2 := by
        rw [HT.out]
        exact thOf_ne h2
      clear h2 HT
      refine (must_bad _ hbx wb).mono ?_
      rintro e w4 ⟨rfl, b4⟩
      have x0 := below_cell (o := 0) b4 hlb
      have K4 := KB.out.trans (b4.mono KB.out.size)
      rw [X0.out] at x0
      have hlb4 := Nat.lt_of_lt_of_le hlb b4.size
      have hltb4 := Nat.lt_of_lt_of_le hltb b4.size
      have K4 := Lib.hid K4
      clear b4 B4 X0 KB hlb hltb hbx
      go_wp2
      go_returns
      exact ⟨rfl, K4.out.trans (Below.mono (B := w4.heap.size) (by go_grown) K4.out.size)⟩
  · generalize fewB [r] = q at *
    have hq : q = false := by simpa using hf
    subst hq
    clear hf
    go_wp2_with fail
    refine (HLV.out _ KK2.out).mono ?_
    rintro e w3 ⟨rfl, b3⟩
    have K3 := KK2.out.trans (b3.mono KK2.out.size)
    go_wp2_with fail
    go_returns
    exact ⟨rfl, K3⟩
set_option maxRecDepth 100000 in
theorem open_raw {H : Type} {enc : TypeId × Value → H} {W : World} {base : Nat} {v : Value} {d : DataW H} {p : List MemPlace} (hval : Value.okWide Tryz.prog W .any base 45 v)
    (h : DataW.Trod enc Tryz.prog W 0 (fun _ => true) true 45 v d p) : ∃ r : RawT, v = .agg (rawC r) ∧ r.nums := by
  obtain ⟨cs, rfl, _⟩ := WideShapes.okWide_struct Tryz.underlying45 hval
  obtain ⟨fuel, hf⟩ := h
  obtain ⟨r, he, hn⟩ := open_raw1 hf
  refine ⟨r, ?_, hn⟩
  have : cs.toList = (rawC r).toList := he
  rw [Array.toList_inj.1 this]
end Go.Proofs.YtfjepdcnikgjeaaGreatDoor
