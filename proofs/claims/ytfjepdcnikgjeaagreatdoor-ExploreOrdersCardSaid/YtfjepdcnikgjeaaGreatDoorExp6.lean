/-
  The order behind one, walked.
-/
import Derived.Test.YtfjepdcnikgjeaaGreatDoorExp5
import Derived.Test.YtfjepdcnikgjeaaGreatDoorGlob3
set_option linter.unusedVariables false
set_option linter.unusedSimpArgs false
set_option linter.unusedSectionVars false
namespace Go.Proofs.YtfjepdcnikgjeaaGreatDoor
open Go Go.RowKit Hst Go.Proofs

/-- The row behind t carries. -/
def carr (m n k t : Nat) : List Value := (List.range n).map fun x => if n - 1 - x < t then .int .i64 0 else .int .i64 ((dig m (n - 1 - x) k : Nat) : Int)
theorem carr_len (m n k t : Nat) : (carr m n k t).length = n := by simp [carr]
theorem carr_zero (m n k : Nat) : carr m n k 0 = ints (digs m n k) := by
  unfold carr digs ints
  rw [List.map_map]
  apply List.map_congr_left
  intro x _
  rw [if_neg (by omega)]; rfl
theorem carr_at (m n k t x : Nat) (h : x < n) : (carr m n k t)[x]? = some (if n - 1 - x < t then .int .i64 0 else .int .i64 ((dig m (n - 1 - x) k : Nat) : Int)) := by simp [carr, h]
theorem carr_succ (m n k t : Nat) (ht : t < n) : (carr m n k t).set (n - 1 - t) (.int .i64 0) = carr m n k (t + 1) := by
  apply List.ext_getElem?
  intro x
  rw [List.getElem?_set, carr_len]
  by_cases hx : x < n
  · rw [carr_at _ _ _ _ _ hx, carr_at _ _ _ _ _ hx]
    by_cases e : n - 1 - t = x
    · rw [if_pos e, if_pos (by omega), if_pos (by omega)]
    · rw [if_neg e]
      by_cases h : n - 1 - x < t
      · rw [if_pos h, if_pos (by omega)]
      · rw [if_neg h, if_neg (by omega)]
  · rw [if_neg (by omega), List.getElem?_eq_none (by rw [carr_len]; omega), List.getElem?_eq_none (by rw [carr_len]; omega)]
theorem ints_digs_at (m n k x : Nat) (h : x < n) : (ints (digs m n k))[x]? = some (.int .i64 ((dig m (n - 1 - x) k : Nat) : Int)) := by simp [ints, digs, h]
theorem carr_end {m n k t : Nat} (hm : 0 < m) (ht : t < n) (hd : m ^ t ∣ k + 1) (h : dig m t k + 1 < m) : (carr m n k t).set (n - 1 - t) (.int .i64 ((dig m t k + 1 : Nat) : Int)) = ints (digs m n (k + 1)) := by
  obtain ⟨e1, e2⟩ := carry_end hm hd h
  apply List.ext_getElem?
  intro x
  rw [List.getElem?_set, carr_len]
  by_cases hx : x < n
  · rw [carr_at _ _ _ _ _ hx, ints_digs_at _ _ _ _ hx]
    by_cases e : n - 1 - t = x
    · rw [if_pos e, if_pos (by omega)]
      have : n - 1 - x = t := by omega
      rw [this, e1]
    · rw [if_neg e]
      by_cases h : n - 1 - x < t
      · rw [if_pos h, dvd_dig hd h hm]; rfl
      · rw [if_neg h, e2 _ (by omega)]
  · rw [if_neg (by omega), List.getElem?_eq_none (by rw [carr_len]; omega), List.getElem?_eq_none (by simp [ints, digs]; omega)]
theorem carr_all {m n k : Nat} (hm : 0 < n → 0 < m) (hd : m ^ n ∣ k + 1) : carr m n k n = ints (digs m n (k + 1)) := by
  apply List.ext_getElem?
  intro x
  by_cases hx : x < n
  · rw [carr_at _ _ _ _ _ hx, ints_digs_at _ _ _ _ hx, if_pos (by omega), dvd_dig hd (by omega) (hm (by omega))]; rfl
  · rw [List.getElem?_eq_none (by rw [carr_len]; omega), List.getElem?_eq_none (by simp [ints, digs]; omega)]

set_option maxHeartbeats 3200000 in
set_option maxRecDepth 100000 in
theorem next_any (M N k : Nat) (hM : M ≤ 1099511627776) (hN : N ≤ 1048576) (hp : 0 < N → 0 < M) (v : Value) (b0 : Nat) (w : World) (hrow : w.ownsRow b0 3 1 v N (ints (digs M N k))) :
    Calls Tryz.prog 26 #[v, .int .i64 M] w fun e w' => ∃ v', e = .returned v' ∧ w'.ownsRow w.heap.size 3 1 v' N (ints (digs M N (k + 1))) ∧ Below w.heap.size w w' := by
  obtain ⟨i0, hi, hz0, hz1, hz2⟩ := info_parts Tryz.infoInt
  have hown0 : (w.alloc (.cells #[] 3)).ownsRow w.heap.size 3 1 (.slice (some ⟨w.heap.size, 0, none⟩) 0 0) ([] : List Int).length (ints []) :=
    ⟨by simp [ints], .inr ⟨w.heap.size, 0, #[], rfl, Nat.le_refl _, heap_alloc_new w _, Nat.le_refl _, by decide, by simp, by simp [ints]⟩⟩
  have hx : (w.alloc (.cells #[] 3)).ownsRow b0 3 1 v (digs M N k).length (ints (digs M N k)) := by
    rw [digs_len]; exact ownsRow_below hrow (below_alloc w _)
  obtain ⟨v', w2, hrun, hown2, hgrow, hat, a2, c2, rfl⟩ := append_ints (P := Tryz.prog) 33 33 3 i0 (w.alloc (.cells #[] 3)) w.heap.size b0 (.slice (some ⟨w.heap.size, 0, none⟩) 0 0) v [] (digs M N k) Tryz.underlying33 hi hz0 hz1 hz2 hown0 hx (by simp) (by rw [digs_len]; simp; omega)
  rw [List.nil_append] at hown2 hrun
  have hB2 : Below w.heap.size w w2 := by
    refine ⟨hgrow.os, hgrow.tape, hgrow.output, by have := hgrow.size; simp at this; omega, fun b hb => ?_⟩
    exact (hgrow.block b (by simp; omega) (by simp [Value.ownBlock]; omega)).trans (Below.heap_alloc w _ b hb)
  rw [digs_len] at hown2 hrun
  have HRUN := Lib.hid hrun
  have HP := Lib.hid hp
  have HR2 := Lib.hid hown2
  have HB2 := Lib.hid hB2
  clear hrun hp hown2 hB2 hgrow hat hx hown0 hrow hi hz0 hz1 hz2
  go_enter Tryz.func26, Tryz.ntmps26
  go_wp2_with (first | (at_builtin; refine wpList_append_run rfl _ _ 33 rfl _ _ _ rfl rfl HRUN.out ?_))
  go_loopw [6] (fun i wr => ∃ t : Nat, t ≤ N ∧ i = .int .i64 ((N : Int) - 1 - t) ∧ M ^ t ∣ k + 1 ∧ wr.ownsRow w.heap.size 3 1 (.slice a2 N c2) N (carr M N k t) ∧ Below w.heap.size w wr) (fun i _ => (intOf i + 1).toNat)
  case atStart => exact ⟨0, Nat.zero_le _, by simp, by rw [Nat.pow_zero]; exact Nat.one_dvd _, by rw [carr_zero]; exact HR2.out, HB2.out⟩
  case round =>
    obtain ⟨t, ht, rfl, hdv, hr, hbl⟩ := hrel
    by_cases hlt : t < N
    · have hM0 : 0 < M := HP.out (by omega)
      obtain ⟨g, cap, e1, _, _, _⟩ := ownsRow_some hr (by omega)
      simp only [Value.slice.injEq] at e1
      obtain ⟨rfl, _, rfl⟩ := e1
      have hfr := ownsRow_fr hr
      obtain ⟨hb1, hb2, hb3, hb4⟩ := ownsRow_lt hr
      have hxx : (N : Int) - 1 - (t : Int) = ((N - 1 - t : Nat) : Int) := by omega
      have hc := (hr.cellAt (N - 1 - t) (by omega)).trans (carr_at M N k t (N - 1 - t) (by omega))
      rw [if_neg (by omega), show N - 1 - (N - 1 - t) = t by omega] at hc
      have hdl := dig_lt M t k hM0
      have r1 := ownsRow_set1 hr (i := N - 1 - t) (by omega) (.int .i64 ((dig M t k + 1 : Nat) : Int))
      have bl1 : Below w.heap.size w (wr.setCell ⟨g, N - 1 - t, none⟩ (.int .i64 ((dig M t k + 1 : Nat) : Int))) := hbl.setCell hb1 _
      rw [hxx]
      by_cases hd : dig M t k + 1 < M
      · rw [carr_end hM0 hlt hdv hd] at r1
        obtain ⟨d, hdd⟩ : ∃ d, d = dig M t k := ⟨_, rfl⟩
        rw [← hdd] at hd hdl hc r1 bl1
        rw [show ((d + 1 : Nat) : Int) = (d : Int) + 1 by omega] at r1 bl1
        have R1 := Lib.hid r1
        have B1 := Lib.hid bl1
        clear r1 bl1 hdd hr hbl hdv
        generalize N - 1 - t = x at *
        have hdi : (d : Int) + 1 < (M : Int) := by omega
        go_wp2
        go_returns
        exact ⟨_, rfl, R1.out, B1.out⟩
      · have hd2 : dig M t k + 1 = M := by omega
        have hdv2 := carry_on hM0 hdv hd2
        have r2 := ownsRow_set1 r1 (i := N - 1 - t) (by omega) (.int .i64 0)
        rw [List.set_set, carr_succ M N k t hlt] at r2
        have bl2 : Below w.heap.size w ((wr.setCell ⟨g, N - 1 - t, none⟩ (.int .i64 ((dig M t k + 1 : Nat) : Int))).setCell ⟨g, N - 1 - t, none⟩ (.int .i64 0)) := bl1.setCell hb1 _
        obtain ⟨d, hdd⟩ : ∃ d, d = dig M t k := ⟨_, rfl⟩
        rw [← hdd] at hd hd2 hdl hc r2 bl2
        rw [show ((d + 1 : Nat) : Int) = (d : Int) + 1 by omega] at r2 bl2
        have R1 := Lib.hid r2
        have B1 := Lib.hid bl2
        have HD := Lib.hid hdv2
        clear r1 bl1 r2 bl2 hdd hr hbl hdv hdv2
        have HX := Lib.hid hxx
        have hxl : N - 1 - t < N := by omega
        clear hxx
        generalize N - 1 - t = x at *
        have hdi : (M : Int) ≤ (d : Int) + 1 := by omega
        clear hd hd2
        go_wp2
        go_roundw
        case rel => exact ⟨t + 1, hlt, by have := HX.out; exact congrArg (Value.int .i64) (by omega), HD.out, R1.out, B1.out⟩
        case measure => simp [intOf]
    · obtain rfl : t = N := by omega
      have e := carr_all HP.out hdv
      rw [e] at hr
      have R1 := Lib.hid hr
      have B1 := Lib.hid hbl
      clear hr hbl e hdv
      have hxx : (t : Int) - 1 - (t : Int) = -1 := by omega
      rw [hxx]
      go_wp2
      go_returns
      exact ⟨_, rfl, R1.out, B1.out⟩
end Go.Proofs.YtfjepdcnikgjeaaGreatDoor
