/-
  ExploreApart, walked.
-/
import Derived.Test.YtfjepdcnikgjeaaGreatDoorExpK
set_option linter.unusedVariables false
set_option linter.unusedSimpArgs false
set_option linter.unusedSectionVars false
namespace Go.Proofs.YtfjepdcnikgjeaaGreatDoor
open Go Go.RowKit Hst Go.Proofs
open Go.Maps (Keyed)

set_option maxHeartbeats 6400000 in
set_option maxRecDepth 100000 in
theorem apart_any (a b : Int) (N : Nat) (w : World) (ha : 0 ≤ a ∧ a ≤ 255) (hb : 0 ≤ b ∧ b ≤ 255) (T : Tabs N w) :
    Calls Tryz.prog 4 #[.int .u8 a, .int .u8 b] w fun e w' => e = .returned (.bool true) ∧ Below w.heap.size w w' := by
  have hl := lives28_any N w T
  have HL := Lib.hid hl
  clear hl T
  obtain ⟨r, hr, hr5⟩ : ∃ r : Nat, a % 5 = (r : Int) ∧ r < 5 := ⟨(a % 5).toNat, by omega, by omega⟩
  obtain ⟨n, hn, hn6⟩ : ∃ n : Nat, b % 6 = (n : Int) ∧ n < 6 := ⟨(b % 6).toNat, by omega, by omega⟩
  have r1 : a.tmod 5 = (r : Int) := by rw [Int.tmod_eq_emod_of_nonneg (by omega)]; exact hr
  have n1 : b.tmod 6 = (n : Int) := by rw [Int.tmod_eq_emod_of_nonneg (by omega)]; exact hn
  have r2 : IntKind.u8.wrap (r : Int) = (r : Int) := by rw [IntKind.wrap_u8]; omega
  have n2 : IntKind.u8.wrap (n : Int) = (n : Int) := by rw [IntKind.wrap_u8]; omega
  have r3 : IntKind.i64.wrap (r : Int) = (r : Int) := IntWalk.i64_in _ (by omega)
  have n3 : IntKind.i64.wrap (n : Int) = (n : Int) := IntWalk.i64_in _ (by omega)
  have r4 : IntKind.i64.wrap (1 + (r : Int)) = (r : Int) + 1 := by rw [Int.add_comm]; exact IntWalk.i64_in _ (by omega)
  obtain ⟨hc1, hc2, hc3⟩ := cnt_small r hr5 n hn6
  have hcn := fun w => ecount_any ((r : Int) + 1) n (by omega) w
  simp only [hc1] at hcn
  have ho := fun i (hi : i < (r + 1) ^ n) w => order_any (r + 1) n i (by omega) (by omega) (fun _ => by omega) (by rw [show ((r + 1 : Nat) : Int) = (r : Int) + 1 by omega]; exact hc1) hi w w.heap.size (Nat.le_refl _) (by omega)
  simp only [show ((r + 1 : Nat) : Int) = (r : Int) + 1 by omega] at ho
  obtain ⟨c, hcc⟩ : ∃ c, c = (r + 1) ^ n := ⟨_, rfl⟩
  rw [← hcc] at hc2 hc3 ho hcn
  have hd64 : ∀ i, ∀ x ∈ digs (r + 1) n i, i64I x := fun i x hx => by
    have := digs_bound (r + 1) n i (fun _ => by omega) x hx
    exact ⟨by omega, by omega⟩
  have hdl := fun i => digs_len (r + 1) n i
  have hdb := fun i x hx => digs_bound (r + 1) n i (fun _ => by omega) x hx
  have hdi := fun i j (hi : i < c) (hj : j < c) h => digs_inj (r + 1) n i j (fun _ => by omega) (hcc ▸ hi) (hcc ▸ hj) h
  have hmm := @run_makeMap Tryz.prog
  have HCN := Lib.hid hcn
  have HO := Lib.hid ho
  have HD64 := Lib.hid hd64
  have HDL := Lib.hid hdl
  have HDB := Lib.hid hdb
  have HDI := Lib.hid hdi
  clear hcn ho hd64 hdl hdb hdi hcc hc1
  have hcI : (1 : Int) ≤ (c : Int) ∧ (c : Int) ≤ 3125 := by omega
  have hc4 : ¬ (c : Int) < 1 := by omega
  have hc5 : ¬ (4096 : Int) < (c : Int) := by omega
  go_enter Tryz.func4, Tryz.ntmps4
  go_wp2_with fail
  refine HL.out.mono ?_
  rintro e w1 ⟨rfl, b1⟩
  have B1 := Lib.hid b1
  clear b1
  go_wp2_with fail
  refine (HCN.out w1).mono ?_
  rintro e w2 ⟨rfl, hw⟩
  have hw := hw.symm
  subst hw
  go_wp2
  go_loopw [40] (fun iv wr => ∃ k : Nat, iv = .int .i64 (k : Int) ∧ k ≤ c ∧ (∃ D : DataW Unit, wr.ownsMap Tryz.prog 35 (plainElem Tryz.prog 3) w1.heap.size k D ∧ Maps.size D = k ∧ ∀ kl, Maps.has D kl = true → ∃ j, j < k ∧ kl = klOf (digs (r + 1) n j)) ∧ Below w1.heap.size w1 wr) (fun iv _ => c - (intOf iv).toNat)
  case atStart => exact ⟨0, rfl, by omega, ⟨.map [], World.ownsMap_made _ _ _ _, rfl, fun kl h => by cases h⟩, below_alloc _ _⟩
  case round =>
    obtain ⟨k, rfl, hk, ⟨D, hown, hsz, hhas⟩, K⟩ := hrel
    by_cases hkc : k < c
    · have hki : (k : Int) < (c : Int) := by omega
      obtain ⟨d, hd⟩ : ∃ d, d = digs (r + 1) n k := ⟨_, rfl⟩
      have hok := HO.out k hkc
      rw [← hd] at hok
      have hdl := HDL.out k
      have hd64 := HD64.out k
      have hdb := HDB.out k
      rw [← hd] at hdl hd64 hdb
      have hnew : Maps.has D (klOf d) = false := by
        rw [Bool.eq_false_iff]
        intro h
        obtain ⟨j, hj, e⟩ := hhas _ h
        have hl2 := HDL.out j
        have := klOf_inj hd64 (HD64.out j) (by rw [hdl, hl2]) (by omega) e
        rw [hd] at this
        have := HDI.out k j hkc (by omega) this
        omega
      have hkey := klOf_key hd64
      have HD := Lib.hid hd
      have HOWN := Lib.hid hown
      have HSZ := Lib.hid hsz
      have HHAS := Lib.hid hhas
      have HNEW := Lib.hid hnew
      have HKEY := Lib.hid hkey
      have HDB2 := Lib.hid hdb
      have HOK := Lib.hid hok
      clear hd hown hsz hhas hnew hkey hdb hd64 hok
      go_wp2_with fail
      refine (HOK.out wr).mono ?_
      rintro e w2 ⟨v, rfl, hrow, hb2⟩
      obtain ⟨va, vc, rfl⟩ := ownsRow_slice hrow
      have hnn : ((n : Int) != (n : Int)) = false := by simp
      have HB2 := Lib.hid hb2
      have HROW := Lib.hid hrow
      clear hb2 hrow
      go_wp2
      go_loopw [53] (fun iv wi => ∃ j : Nat, iv = .int .i64 (j : Int) ∧ j ≤ n ∧ wi.heap[w2.heap.size]? = some (.cells (ints (key5 (d.take j))).toArray 35 (0, 0)) ∧ Below w2.heap.size w2 wi) (fun iv _ => n - (intOf iv).toNat)
      case atStart => exact ⟨0, rfl, by omega, heap_alloc_new _ _, below_alloc _ _⟩
      case round =>
        obtain ⟨j, rfl, hj, hblk, Ki⟩ := hrel
        by_cases hjn : j < n
        · have hji : (j : Int) < (n : Int) := by omega
          have hr1 := own_below HROW.out Ki
          obtain ⟨g, cap, e1, _, _, _⟩ := ownsRow_some hr1 (by omega)
          simp only [Value.slice.injEq] at e1
          obtain ⟨rfl, _, rfl⟩ := e1
          have hc := hr1.cellAt j (by omega)
          have hjd : j < d.length := by omega
          have hdj : (ints d)[j]? = some (.int .i64 (d.getD j 0)) := by simp [ints, List.getD_eq_getElem?_getD, hjd]
          rw [hdj] at hc
          have hx := HDB2.out (d.getD j 0) (by rw [List.getD_eq_getElem?_getD, List.getElem?_eq_getElem hjd]; exact List.getElem_mem hjd)
          have hset := key5_set hjd (by omega)
          have hcp := box_cell hblk j
          have hk5 := key5_len (d.take j)
          have hcp2 : ∃ u, wr.cell? ⟨w2.heap.size, j, none⟩ = some u := ⟨_, hcp.trans (by rw [List.getElem?_toArray]; exact List.getElem?_eq_getElem (by simp [ints, hk5]; omega))⟩
          have hfz : wr.frozen? ⟨w2.heap.size, j, none⟩ = false := Lib.frozen_of_heap hblk j
          have hbl2 := heap_setCell_same wr w2.heap.size j _ _ (.int .i64 (d.getD j 0)) hblk
          have hbl3 : (ints (key5 (d.take j))).toArray.setIfInBounds j (.int .i64 (d.getD j 0)) = (ints (key5 (d.take (j + 1)))).toArray := by
            rw [← hset]
            simp [ints, List.map_set]
          rw [hbl3] at hbl2
          have hlb := box_lt hblk
          generalize d.getD j 0 = x at *
          have HBL := Lib.hid hbl2
          have HKI := Lib.hid (Ki.setCell (p := ⟨w2.heap.size, j, none⟩) (Nat.le_refl _) (.int .i64 x))
          obtain ⟨u, hu⟩ := hcp2
          have hj5 : (0 : Int) ≤ (j : Int) ∧ (j : Int) < 5 := by omega
          have hj6 : (j : Int) < 5 := by omega
          have hx1 : ¬ x < 0 := by omega
          have hx2 : ¬ (r : Int) + 1 ≤ x := by omega
          clear hbl2 hbl3 hset hblk Ki hr1 hdj hcp hk5 hx
          go_wp2
          go_roundw
          case rel => exact ⟨j + 1, by go_num, hjn, HBL.out, HKI.out⟩
          case measure => simp [intOf]; omega
        · have hji : ¬ (j : Int) < (n : Int) := by omega
          obtain rfl : j = n := by omega
          rw [show d.take j = d by rw [← hdl]; exact List.take_length] at hblk
          have hown2 := HOWN.out.kept (row := none) (w' := wr) ⟨(HB2.out.trans (Ki.mono HB2.out.size)).os, (HB2.out.trans (Ki.mono HB2.out.size)).tape, (HB2.out.trans (Ki.mono HB2.out.size)).output, (HB2.out.trans (Ki.mono HB2.out.size)).size, fun b hl _ => (HB2.out.trans (Ki.mono HB2.out.size)).block b hl⟩ (by simp)
          have hKw := K.trans ((HB2.out.trans (Ki.mono HB2.out.size)).mono K.size)
          have hlb := box_lt hblk
          have hBp : w1.heap.size ≠ w2.heap.size := by have := K.size; have := HB2.out.size; have := HOWN.out.lt; omega
          obtain ⟨hl0, st, wa, wb, hm, hl1, hst, hown3, hga, hgb⟩ := key_new (hown2.drew) (by unfold maxLen; omega) HKEY.out HNEW.out
          have hblkA : wa.heap[w2.heap.size]? = some (.cells (ints (key5 d)).toArray 35 (0, 0)) := (hga.block _ hlb (fun e => hBp (Option.some.inj e).symm)).trans hblk
          obtain ⟨x0, x1, x2, x3, x4, hx⟩ := five_of (key5_len d)
          rw [hx] at hl0 hm hl1 hblk hblkA
          simp only [ints, List.map_cons, List.map_nil] at hl0 hm hl1 hblk hblkA
          have c0 := box_cell hblk 0
          have c1 := box_cell hblk 1
          have c2 := box_cell hblk 2
          have c3 := box_cell hblk 3
          have c4 := box_cell hblk 4
          have d0 := box_cell hblkA 0
          have d1 := box_cell hblkA 1
          have d2 := box_cell hblkA 2
          have d3 := box_cell hblkA 3
          have d4 := box_cell hblkA 4
          have hm2 : (Instr.mapEntry 32 (.map (some w1.heap.size)) (.agg #[.int .i64 x0, .int .i64 x1, .int .i64 x2, .int .i64 x3, .int .i64 x4])).run Tryz.prog wr.drew = .ok (.tuple #[.int .i64 0, .int .i64 st]) wa := hm
          have hst2 : (Instr.entryStore 32 (.map (some w1.heap.size)) (.int .i64 st) (.int .i64 1)).run Tryz.prog wa = .ok () wb := hst
          have hKb : Below w1.heap.size w1 wb := hKw.trans ⟨hgb.os, hgb.tape, hgb.output, hgb.size, fun b hb => hgb.block b (Nat.lt_of_lt_of_le hb hKw.size) (fun e => by have := Option.some.inj e; omega)⟩
          have HO3 := Lib.hid hown3
          have HKB := Lib.hid hKb
          clear hm hst hblk hblkA hown2 hown3 hga hgb hKb hKw Ki hx
          go_wp2
          go_region
          go_wp2
          go_roundw
          case rel => exact ⟨k + 1, by go_num, hkc, ⟨_, HO3.out, by
            rw [Maps.size_put (HOWN.out.tidy key_law), HNEW.out, HSZ.out]; rfl, fun kl h => by
            by_cases e : kl = klOf d
            · exact ⟨k, Nat.lt_succ_self k, by rw [e, HD.out]⟩
            · rw [Maps.has_put_other e] at h
              obtain ⟨j, hj, e2⟩ := HHAS.out kl h
              exact ⟨j, Nat.lt_succ_of_lt hj, e2⟩⟩, HKB.out⟩
          case measure => simp [intOf]; omega
    · have hki : ¬ (k : Int) < (c : Int) := by omega
      obtain rfl : k = c := by omega
      have K2 := Lib.hid (B1.out.trans (K.mono B1.out.size))
      have hq : ((k : Int) == (k : Int)) = true := by simp
      clear hhas K
      go_wp2_with (first | (at_len; refine wpList_len_own _ rfl _ 32 rfl 35 3 Tryz.underlying32 _ _ k D rfl hown ?_; rw [hsz]))
      go_returns
      exact ⟨rfl, K2.out⟩
end Go.Proofs.YtfjepdcnikgjeaaGreatDoor
