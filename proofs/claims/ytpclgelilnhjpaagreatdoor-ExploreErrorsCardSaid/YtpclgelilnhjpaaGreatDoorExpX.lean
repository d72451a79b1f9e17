/-
  ExploreErrors, walked.
-/
import Derived.Test.YtpclgelilnhjpaaGreatDoorExpQ
import Derived.Carry
import Derived.Test.YtpclgelilnhjpaaGreatDoorExpY
set_option linter.unusedVariables false
set_option linter.unusedSimpArgs false
set_option linter.unusedSectionVars false
namespace Go.Proofs.YtpclgelilnhjpaaGreatDoor
open Go Go.RowKit Hst Go.Proofs

theorem twoAt (w : World) (o o2 : Obj) : ((w.alloc o).alloc o2).heap[w.heap.size]? = some o ∧ ((w.alloc o).alloc o2).heap[w.heap.size + 1]? = some o2 ∧ Below w.heap.size w ((w.alloc o).alloc o2) := by
  refine ⟨?_, ?_, (below_alloc w _).trans ((below_alloc _ _).mono (by simp))⟩
  · rw [Below.heap_alloc _ _ _ (by simp)]; exact heap_alloc_new w o
  · have e := heap_alloc_new (w.alloc o) o2; simpa using e
theorem results_cell_slot {P : Program} {fn : Func} {p q : Tmp} {ty : TypeId} (h : fn.results = #[.cell p ty, .tmp q]) (tmps : Array Value) (w : World) (g : Nat) (t : TypeId) (cs : Array Value) (fr : Nat × Nat) (d : TypeDesc) (v : Value) (hv : tmps.getD q undef = v)
    (hp : tmps.getD p undef = .pointer (some ⟨g, 0, none⟩)) (hg : w.heap[g]? = some (.cells cs t fr))
    (hu : P.underlying ty = some d) (hd : (match d with | .struct _ | .array _ _ => true | _ => false) = true) (hi : (P.info? ty).map (·.size) = some cs.size) :
    (results fn tmps).run P w = .ok (.tuple #[.agg cs, v]) w := by
  have hp' : tmps[p]?.getD undef = .pointer (some ⟨g, 0, none⟩) := by simpa using hp
  have hv' : tmps[q]?.getD undef = v := by simpa using hv
  simp [results, h, hp', hv', asAddr, run_loadVar_row w g t ty cs fr d hg hu hd hi]
theorem info_out : (Tryz.prog.info? 48).map (·.size) = some 4 := by kernel_rfl
theorem cntLoop_nonneg (m : Int) (hm : 0 ≤ m) : ∀ (j : Nat) (acc : Int), 0 ≤ acc → 0 ≤ cntLoop m j acc
  | 0, acc, h => h
  | j + 1, acc, h => by
    unfold cntLoop
    split
    · exact Int.le_refl 0
    · exact cntLoop_nonneg m hm j _ (Int.mul_nonneg h hm)
theorem cntE_nonneg (m n : Int) : 0 ≤ cntE m n := by
  unfold cntE
  split
  · exact Int.le_refl 0
  · split
    · decide
    · exact cntLoop_nonneg m (by omega) _ _ (by decide)

set_option maxHeartbeats 3200000 in
set_option maxRecDepth 100000 in
theorem all_bad (p m g n : Int) (h : rightI p m g = false) (w : World) :
    Calls Tryz.prog 15 #[.agg #[.int .i64 p, .int .i64 m, .int .i64 g, .slice none 0 0, .int .i64 n, .int .u8 0, .int .i64 0]] w fun e w' => e = .returned (.tuple #[.agg #[.int .i64 0, .int .i64 0, .int .i64 0, .map none], .int .i64 1]) ∧ Below w.heap.size w w' := by
  have hn := fun w => new_bad p m g h w
  have HN := Lib.hid hn
  clear hn h
  go_enter Tryz.func15, Tryz.ntmps15
  go_wp2_with fail
  refine (HN.out _).mono ?_
  rintro e w1 ⟨rfl, b1⟩
  have H3 := twoAt w (.cells #[.int .i64 p, .int .i64 m, .int .i64 g, .slice none 0 0, .int .i64 n, .int .u8 0, .int .i64 0] 52) (.cells #[.int .i64 0, .int .i64 0, .int .i64 0, .map none] 48)
  have x0 := box_cell ((b1.block w.heap.size (by simp; omega)).trans H3.1) 0
  have HY : w1.heap[w.heap.size + 1]? = some (.cells #[.int .i64 0, .int .i64 0, .int .i64 0, .map none] 48 (0, 0)) := (b1.block (w.heap.size + 1) (by simp)).trans H3.2.1
  have hB : Below w.heap.size w w1 := H3.2.2.trans (b1.mono (by simp; omega))
  have HY := Lib.hid HY
  have HB := Lib.hid hB
  clear b1 H3 hB x0
  go_wp2_with (first | (refine wpList_store_row rfl 48 _ _ rfl (w.heap.size + 1) _ rfl rfl 48 _ HY.out info_out rfl (by simp [Value.oneCell']) ?_))
  apply bodyPost_ret (v := .tuple #[.agg #[.int .i64 0, .int .i64 0, .int .i64 0, .map none], .int .i64 1])
  · exact results_cell_slot (p := 2) (q := 3) (ty := 48) rfl _ _ (w.heap.size + 1) 48 #[.int .i64 0, .int .i64 0, .int .i64 0, .map none] (0, 0) _ _ rfl rfl (setRow_heap _ _ _ _ _ _ HY.out) Tryz.underlying48 rfl info_out
  · rfl
  · refine ⟨rfl, ?_⟩
    have hB := HB.out
    exact ⟨hB.os, hB.tape, hB.output, by have := hB.size; simpa using this, fun k hk => (setRow_other _ _ _ _ (by omega)).trans (hB.block k hk)⟩

set_option maxHeartbeats 3200000 in
set_option maxRecDepth 100000 in
theorem all_cnt (P M G N : Nat) (hd : dims P M G) (n c z : Int) (hc : cntE M n = c) (h : (c = 0 ∧ z = 1) ∨ (4096 < c ∧ z = 7)) (w : World) (T : Tabs N w) :
    Calls Tryz.prog 15 #[.agg #[.int .i64 P, .int .i64 M, .int .i64 G, .slice none 0 0, .int .i64 n, .int .u8 0, .int .i64 0]] w fun e w' => e = .returned (.tuple #[.agg #[.int .i64 0, .int .i64 0, .int .i64 0, .map none], .int .i64 z]) ∧ Below w.heap.size w w' := by
  have hn := fun w1 (hb : Below w.heap.size w w1) => new_ok P M G N hd w1 (T.of_below hb T.le)
  have hm : (M : Int) ≤ 1099511627776 := by unfold dims at hd; omega
  have hcn := fun w => ecount_any M n hm w
  simp only [hc] at hcn
  have HN := Lib.hid hn
  have HC := Lib.hid hcn
  clear hn hcn hm hc T hd
  go_enter Tryz.func15, Tryz.ntmps15
  go_wp2_with fail
  have H3 := twoAt w (.cells #[.int .i64 P, .int .i64 M, .int .i64 G, .slice none 0 0, .int .i64 n, .int .u8 0, .int .i64 0] 52) (.cells #[.int .i64 0, .int .i64 0, .int .i64 0, .map none] 48)
  refine (HN.out _ H3.2.2).mono ?_
  rintro e w1 ⟨F, V, ow, rfl, _, _, b1⟩
  have hp := (b1.block w.heap.size (by simp; omega)).trans H3.1
  have x1 := box_cell hp 1
  have x4 := box_cell hp 4
  have HY : w1.heap[w.heap.size + 1]? = some (.cells #[.int .i64 0, .int .i64 0, .int .i64 0, .map none] 48 (0, 0)) := (b1.block (w.heap.size + 1) (by simp)).trans H3.2.1
  have hB : Below w.heap.size w w1 := H3.2.2.trans (b1.mono (by simp; omega))
  have hly := box_lt HY
  have HY := Lib.hid HY
  have HB := Lib.hid hB
  simp at x1 x4
  clear b1 H3 hB hp
  have hmk := @run_makeMap Tryz.prog
  go_wp2_with fail
  refine (HC.out _).mono ?_
  rintro e w2 ⟨rfl, rfl⟩
  have hy2 : ((w2.alloc (.map #[] 0)).alloc (.cells #[.int .i64 c, .int .i64 0, .int .i64 0, .map (some w2.heap.size)] 48)).heap[w.heap.size + 1]? = some (.cells #[.int .i64 0, .int .i64 0, .int .i64 0, .map none] 48 (0, 0)) :=
    (Below.heap_alloc _ _ _ (by simp; omega)).trans ((Below.heap_alloc _ _ _ hly).trans HY.out)
  have hb2 : Below w.heap.size w ((w2.alloc (.map #[] 0)).alloc (.cells #[.int .i64 c, .int .i64 0, .int .i64 0, .map (some w2.heap.size)] 48)) :=
    HB.out.trans (((below_alloc _ _).mono (by have := HB.out.size; omega)).trans ((below_alloc _ _).mono (by have := HB.out.size; simp; omega)))
  have HY2 := Lib.hid hy2
  have HB2 := Lib.hid hb2
  clear hy2 hb2
  rcases h with ⟨rfl, rfl⟩ | ⟨h4, rfl⟩
  · go_wp2_with (first
      | (refine wpList_store_row rfl 48 _ _ rfl (w.heap.size + 1) _ rfl rfl 48 _ HY2.out info_out rfl (by simp [Value.oneCell']) ?_))
    apply bodyPost_ret (v := .tuple #[.agg #[.int .i64 0, .int .i64 0, .int .i64 0, .map none], .int .i64 1])
    · exact results_cell_slot (p := 2) (q := 3) (ty := 48) rfl _ _ (w.heap.size + 1) 48 #[.int .i64 0, .int .i64 0, .int .i64 0, .map none] (0, 0) _ _ rfl rfl (setRow_heap _ _ _ _ _ _ HY2.out) Tryz.underlying48 rfl info_out
    · rfl
    · refine ⟨rfl, ?_⟩
      have hB := HB2.out
      exact ⟨hB.os, hB.tape, hB.output, by have := hB.size; simpa using this, fun k hk => (setRow_other _ _ _ _ (by omega)).trans (hB.block k hk)⟩
  · have h0 : (c == 0) = false := by rw [beq_eq_false_iff_ne]; omega
    go_wp2_with (first
      | (refine wpList_store_row rfl 48 _ _ rfl (w.heap.size + 1) _ rfl rfl 48 _ HY2.out info_out rfl (by simp [Value.oneCell']) ?_))
    apply bodyPost_ret (v := .tuple #[.agg #[.int .i64 0, .int .i64 0, .int .i64 0, .map none], .int .i64 7])
    · exact results_cell_slot (p := 2) (q := 3) (ty := 48) rfl _ _ (w.heap.size + 1) 48 #[.int .i64 0, .int .i64 0, .int .i64 0, .map none] (0, 0) _ _ rfl rfl (setRow_heap _ _ _ _ _ _ HY2.out) Tryz.underlying48 rfl info_out
    · rfl
    · refine ⟨rfl, ?_⟩
      have hB := HB2.out
      exact ⟨hB.os, hB.tape, hB.output, by have := hB.size; simpa using this, fun k hk => (setRow_other _ _ _ _ (by omega)).trans (hB.block k hk)⟩

set_option maxHeartbeats 3200000 in
set_option maxRecDepth 100000 in
theorem errors_any (q : Cfg) (n : Int) (N : Nat) (w : World) (hm : q.m ≤ 9223372036854775807) (T : Tabs N w) :
    Calls Tryz.prog 6 #[.agg (cfgC q), .int .i64 n] w fun e w' => e = .returned (.bool true) ∧ Below w.heap.size w w' := by
  obtain ⟨p, m, g⟩ := q
  dsimp only [cfgC] at *
  have hl := fun w1 (hb : Below w.heap.size w w1) => lives28_any N w1 (T.of_below hb T.le)
  have HLV := Lib.hid hl
  have HT := Lib.hid T
  clear hl T
  by_cases hbig : 1048576 < n
  · go_enter Tryz.func6, Tryz.ntmps6
    go_wp2_with fail
    refine (HLV.out _ (below_alloc w _)).mono ?_
    rintro e w1 ⟨rfl, b1⟩
    have K1 : Below w.heap.size w w1 := (below_alloc w _).trans (b1.mono (by simp))
    have K1 := Lib.hid K1
    clear b1
    go_wp2_with fail
    refine (HLV.out _ K1.out).mono ?_
    rintro e w2 ⟨rfl, b2⟩
    have K2 := Lib.hid (K1.out.trans (b2.mono K1.out.size))
    clear b2
    go_wp2_with fail
    go_returns
    exact ⟨rfl, K2.out⟩
  · have hnb : n ≤ 1048576 := by omega
    cases hr : rightI p m g with
    | false =>
      have hn := fun w => new_bad p m g hr w
      have ha := fun w => all_bad p m g n hr w
      have hcn : ∀ w, Calls Tryz.prog 14 #[.int .i64 m, .int .i64 n] w fun e w' => (∃ c, e = .returned (.int .i64 c)) ∧ w' = w := fun w => by
        by_cases h : m ≤ 1099511627776
        · exact (ecount_any m n h w).mono fun e w' ⟨h1, h2⟩ => ⟨⟨_, h1⟩, h2⟩
        · exact ecount_big m n (by omega) hm w
      have HN := Lib.hid hn
      have HA := Lib.hid ha
      have HC := Lib.hid hcn
      clear hn ha hcn hr HT
      go_enter Tryz.func6, Tryz.ntmps6
      go_wp2_with fail
      refine (HLV.out _ (below_alloc w _)).mono ?_
      rintro e w1 ⟨rfl, b1⟩
      have hb1 := (b1.block w.heap.size (by simp)).trans (heap_alloc_new w _)
      have K1 : Below w.heap.size w w1 := (below_alloc w _).trans (b1.mono (by simp))
      have x0 := box_cell hb1 0
      have x1 := box_cell hb1 1
      have x2 := box_cell hb1 2
      simp at x0 x1 x2
      have hlt := box_lt hb1
      have HB1 := Lib.hid hb1
      have K1 := Lib.hid K1
      clear b1 hb1
      go_wp2_with fail
      refine (HN.out _).mono ?_
      rintro e w2 ⟨rfl, b2⟩
      have hb2 := (b2.block w.heap.size hlt).trans HB1.out
      have K2 := Lib.hid (K1.out.trans (b2.mono K1.out.size))
      clear x0 x1 x2 hlt
      have x0 := box_cell hb2 0
      have x1 := box_cell hb2 1
      have x2 := box_cell hb2 2
      simp at x0 x1 x2
      clear b2 hb2
      go_wp2_with fail
      refine (HC.out _).mono ?_
      rintro e w3 ⟨⟨c, rfl⟩, rfl⟩
      go_wp2_with fail
      refine (HA.out _).mono ?_
      rintro e w4 ⟨rfl, b4⟩
      have K4 := Lib.hid (K2.out.trans (b4.mono K2.out.size))
      clear b4
      go_wp2
      all_goals (go_returns; exact ⟨rfl, K4.out.trans (Below.mono (B := w4.heap.size) (by go_grown) K4.out.size)⟩)
    | true =>
      obtain ⟨P, M, G, rfl, rfl, rfl, hd⟩ := right_dims hr
      have hn := fun w1 (hb : Below w.heap.size w w1) => new_ok P M G N hd w1 (HT.out.of_below hb HT.out.le)
      have hmm : (M : Int) ≤ 1099511627776 := by unfold dims at hd; omega
      obtain ⟨c, hc⟩ : ∃ c, c = cntE M n := ⟨_, rfl⟩
      have hc0 : 0 ≤ c := hc ▸ cntE_nonneg M n
      have hcn := fun w => ecount_any M n hmm w
      simp only [← hc] at hcn
      have HN := Lib.hid hn
      have HC := Lib.hid hcn
      have HCC := Lib.hid hc
      have HD := Lib.hid hd
      clear hn hcn hc hd hmm hr
      go_enter Tryz.func6, Tryz.ntmps6
      go_wp2_with fail
      refine (HLV.out _ (below_alloc w _)).mono ?_
      rintro e w1 ⟨rfl, b1⟩
      have hb1 := (b1.block w.heap.size (by simp)).trans (heap_alloc_new w _)
      have K1 : Below w.heap.size w w1 := (below_alloc w _).trans (b1.mono (by simp))
      have x0 := box_cell hb1 0
      have x1 := box_cell hb1 1
      have x2 := box_cell hb1 2
      simp at x0 x1 x2
      have hlt := box_lt hb1
      have HB1 := Lib.hid hb1
      have K1 := Lib.hid K1
      clear b1 hb1
      go_wp2_with fail
      refine (HN.out _ K1.out).mono ?_
      rintro e w2 ⟨F, V, ow, rfl, _, _, b2⟩
      have hb2 := (b2.block w.heap.size hlt).trans HB1.out
      have K2 := Lib.hid (K1.out.trans (b2.mono K1.out.size))
      clear x0 x1 x2 hlt
      have x0 := box_cell hb2 0
      have x1 := box_cell hb2 1
      have x2 := box_cell hb2 2
      simp at x0 x1 x2
      clear b2 hb2
      go_wp2_with fail
      refine (HC.out _).mono ?_
      rintro e w3 ⟨rfl, rfl⟩
      by_cases h1 : 0 < c ∧ c ≤ 4096
      · obtain ⟨h1, h2⟩ := h1
        go_wp2_with fail
        go_returns
        exact ⟨rfl, K2.out⟩
      · obtain ⟨z, hz⟩ : ∃ z : Int, (c = 0 ∧ z = 1) ∨ (4096 < c ∧ z = 7) := by
          by_cases h : c = 0
          · exact ⟨1, .inl ⟨h, rfl⟩⟩
          · exact ⟨7, .inr ⟨by omega, rfl⟩⟩
        have ha := all_cnt P M G N HD.out n c z HCC.out.symm hz _ (HT.out.of_below K2.out HT.out.le)
        have HA := Lib.hid ha
        clear ha h1
        rcases hz with ⟨rfl, rfl⟩ | ⟨h4, rfl⟩
        · go_wp2_with fail
          refine HA.out.mono ?_
          rintro e w4 ⟨rfl, b4⟩
          have K4 := Lib.hid (K2.out.trans (b4.mono K2.out.size))
          clear b4
          go_wp2
          all_goals (go_returns; exact ⟨rfl, K4.out.trans (Below.mono (B := w4.heap.size) (by go_grown) K4.out.size)⟩)
        · have h0 : (c == 0) = false := by rw [beq_eq_false_iff_ne]; omega
          have h5 : 0 < c := by omega
          go_wp2_with fail
          refine HA.out.mono ?_
          rintro e w4 ⟨rfl, b4⟩
          have K4 := Lib.hid (K2.out.trans (b4.mono K2.out.size))
          clear b4
          go_wp2
          all_goals (go_returns; exact ⟨rfl, K4.out.trans (Below.mono (B := w4.heap.size) (by go_grown) K4.out.size)⟩)
end Go.Proofs.YtpclgelilnhjpaaGreatDoor
