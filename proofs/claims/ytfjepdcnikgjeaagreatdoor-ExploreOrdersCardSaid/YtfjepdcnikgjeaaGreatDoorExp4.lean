/-
  The i-th order, walked; two rows of numbers, held side by side.
-/
import Derived.Test.YtfjepdcnikgjeaaGreatDoorExp3
set_option linter.unusedVariables false
set_option linter.unusedSimpArgs false
set_option linter.unusedSectionVars false
namespace Go.Proofs.YtfjepdcnikgjeaaGreatDoor
open Go Go.RowKit Hst Go.Proofs

theorem ownsRow_set1 {w : World} {base e n cap g i : Nat} {xs : List Value} (h : w.ownsRow base e 1 (.slice (some ⟨g, 0, none⟩) n cap) n xs) (_hi : i < n) (u : Value) :
    (w.setCell ⟨g, i, none⟩ u).ownsRow base e 1 (.slice (some ⟨g, 0, none⟩) n cap) n (xs.set i u) := by
  obtain ⟨hl, h⟩ := h
  rcases h with ⟨h0, _⟩ | ⟨g', cap', cur, hv, hb, hg, hc, hm, hs, ht⟩
  · cases h0
  · simp only [Value.slice.injEq, Option.some.injEq, Addr.mk.injEq, and_true, true_and] at hv
    obtain ⟨rfl, rfl⟩ := hv
    refine ⟨by simpa using hl, .inr ⟨g, cap, cur.setIfInBounds i u, rfl, hb, heap_setCell_same w g i cur e u hg, hc, hm, by simpa using hs, ?_⟩⟩
    rw [← ht]
    simp [List.take_set]
theorem ownsRow_fr {w : World} {base e size n cap g : Nat} {xs : List Value} (h : w.ownsRow base e size (.slice (some ⟨g, 0, none⟩) n cap) n xs) : ∀ o, w.frozen? ⟨g, o, none⟩ = false := by
  rcases h.2 with ⟨h0, _⟩ | ⟨g', cap', cur, hv, _, hg, _⟩
  · cases h0
  · simp only [Value.slice.injEq, Option.some.injEq, Addr.mk.injEq, and_true, true_and] at hv
    obtain ⟨rfl, rfl⟩ := hv
    exact fun o => Lib.frozen_of_heap hg o
theorem ownsRow_lt {w : World} {base e size n cap g : Nat} {xs : List Value} (h : w.ownsRow base e size (.slice (some ⟨g, 0, none⟩) n cap) n xs) : base ≤ g ∧ g < w.heap.size ∧ n ≤ cap ∧ cap ≤ maxLen := by
  rcases h.2 with ⟨h0, _⟩ | ⟨g', cap', cur, hv, hb, hg, hc, hm, _⟩
  · cases h0
  · simp only [Value.slice.injEq, Option.some.injEq, Addr.mk.injEq, and_true, true_and] at hv
    obtain ⟨rfl, rfl⟩ := hv
    exact ⟨hb, box_lt hg, hc, hm⟩
theorem made_rep (n : Nat) : madeCells #[.int .i64 0] n = Array.replicate n (.int .i64 0) := by
  apply Array.ext
  · simp [madeCells]
  · intro i h1 h2
    simp [madeCells, Nat.mod_one]
theorem makeR (n : Nat) (hn : n ≤ 1048576) (w : World) : (Instr.makeSlice 33 (.int .i64 n) (.int .i64 n)).run Tryz.prog w = .ok (.slice (some ⟨w.heap.size, 0, none⟩) n n) (w.alloc (.cells (Array.replicate n (.int .i64 0)) 3)) := by
  obtain ⟨i0, hi, hz0, hz1, hz2⟩ := info_parts Tryz.infoInt
  have h := run_make (P := Tryz.prog) w 33 3 i0 (.int .i64 0) Tryz.underlying33 hi hz0 .i64 .i64 n n (by omega) (Int.le_refl _) (by rw [hz2]; omega) (by omega)
  simp only [Int.toNat_natCast, hz1, Nat.mul_one] at h
  rw [← made_rep]
  exact h
theorem row_new (w : World) (base n : Nat) (hb : base ≤ w.heap.size) (hn : n ≤ maxLen) : (w.alloc (.cells (Array.replicate n (.int .i64 0)) 3)).ownsRow base 3 1 (.slice (some ⟨w.heap.size, 0, none⟩) n n) n (List.replicate n (.int .i64 0)) :=
  ⟨by simp, .inr ⟨w.heap.size, n, Array.replicate n (.int .i64 0), rfl, hb, heap_alloc_new w _, Nat.le_refl _, hn, by simp, by simp⟩⟩

/-- A row on its way: the places from the end are filled. -/
def part (m n k j : Nat) : List Value := (List.range n).map fun x => if n - 1 - x < j then .int .i64 ((dig m (n - 1 - x) k : Nat) : Int) else .int .i64 0
theorem part_zero (m n k : Nat) : part m n k 0 = List.replicate n (.int .i64 0) := by simp [part, List.map_const']
theorem part_all (m n k : Nat) : part m n k n = ints (digs m n k) := by
  unfold part digs ints
  rw [List.map_map]
  apply List.map_congr_left
  intro x hx
  have : x < n := by simpa using hx
  rw [if_pos (by omega)]; rfl
theorem part_len (m n k j : Nat) : (part m n k j).length = n := by simp [part]
theorem part_succ (m n k j : Nat) (hj : j < n) : (part m n k j).set (n - 1 - j) (.int .i64 ((dig m j k : Nat) : Int)) = part m n k (j + 1) := by
  apply List.ext_getElem?
  intro x
  rw [List.getElem?_set, part_len]
  by_cases hx : x < n
  · by_cases e : n - 1 - j = x
    · rw [if_pos e, if_pos (by omega)]
      unfold part
      rw [List.getElem?_map, List.getElem?_range (by omega)]
      have : n - 1 - x = j := by omega
      simp [this]
    · rw [if_neg e]
      unfold part
      rw [List.getElem?_map, List.getElem?_map, List.getElem?_range hx]
      simp only [Option.map_some, Option.some.injEq]
      by_cases h : n - 1 - x < j
      · rw [if_pos h, if_pos (by omega)]
      · rw [if_neg h, if_neg (by omega)]
  · rw [if_neg (by omega), List.getElem?_eq_none (by rw [part_len]; omega), List.getElem?_eq_none (by rw [part_len]; omega)]

theorem div_pow_succ (k m j : Nat) : k / m ^ j / m = k / m ^ (j + 1) := by rw [Nat.div_div_eq_div_mul, Nat.pow_succ]

set_option maxHeartbeats 1600000 in
set_option maxRecDepth 100000 in
/-- No order. -/
theorem order_none (m n i : Int) (hm : m ≤ 1099511627776) (h : i < 0 ∨ i ≥ cntE m n) (w : World) :
    Calls Tryz.prog 23 #[.int .i64 m, .int .i64 n, .int .i64 i] w fun e w' => e = .returned (.slice none 0 0) ∧ w' = w := by
  have hc := fun w => ecount_any m n hm w
  generalize cntE m n = c at *
  have HC := Lib.hid hc
  clear hc hm
  by_cases h0 : i < 0
  · clear h
    go_enter Tryz.func23, Tryz.ntmps23
    go_wp2
    go_returns
    exact ⟨rfl, rfl⟩
  · have h1 : c ≤ i := by omega
    have h2 : 0 ≤ i := by omega
    clear h h0
    go_enter Tryz.func23, Tryz.ntmps23
    go_wp2_with fail
    refine (HC.out w).mono ?_
    rintro e w1 ⟨rfl, hw⟩
    have hw := hw.symm
    subst hw
    go_wp2
    go_returns
    exact ⟨rfl, rfl⟩

set_option maxHeartbeats 3200000 in
set_option maxRecDepth 100000 in
theorem order_any (M N k : Nat) (hM : M ≤ 1099511627776) (hN : N ≤ 1048576) (hp : 0 < N → 0 < M) (hc : cntE M N = ((M ^ N : Nat) : Int)) (hk : k < M ^ N) (w : World) (base : Nat) (hb : base ≤ w.heap.size) (hkb : k < 1048576) :
    Calls Tryz.prog 23 #[.int .i64 M, .int .i64 N, .int .i64 k] w fun e w' => ∃ v, e = .returned v ∧ w'.ownsRow base 3 1 v N (ints (digs M N k)) ∧ Below w.heap.size w w' := by
  have hcn := fun w => ecount_any M N (by omega) w
  rw [hc] at hcn
  generalize M ^ N = c at *
  have HC := Lib.hid hcn
  have h2 : (k : Int) < c := by omega
  have HP := Lib.hid hp
  clear hcn hc hp
  have hB := Lib.hid (below_alloc w (.cells (Array.replicate N (.int .i64 0)) 3))
  have hmk := makeR N hN w
  have hR := Lib.hid (row_new w base N hb (by unfold maxLen; omega))
  go_enter Tryz.func23, Tryz.ntmps23
  go_wp2_with fail
  refine (HC.out w).mono ?_
  rintro e w1 ⟨rfl, hw⟩
  have hw := hw.symm
  subst hw
  go_wp2
  go_loopw [2, 26] (fun i j wr => ∃ (t : Nat), t ≤ N ∧ j = .int .i64 t ∧ i = .int .i64 ((k / M ^ t : Nat) : Int) ∧ wr.ownsRow base 3 1 (.slice (some ⟨w.heap.size, 0, none⟩) N N) N (part M N k t) ∧ Below w.heap.size w wr) (fun _ j _ => N - (intOf j).toNat)
  case atStart => exact ⟨0, Nat.zero_le _, rfl, by rw [Nat.pow_zero, Nat.div_one], by rw [part_zero]; exact hR.out, hB.out⟩
  case round =>
    obtain ⟨t, ht, rfl, rfl, hrow, hbl⟩ := hrel
    by_cases hlt : t < N
    · have hM0 : 0 < M := HP.out (by omega)
      have hfr := ownsRow_fr hrow
      obtain ⟨hb1, hb2, _, hb4⟩ := ownsRow_lt hrow
      have hx := (hrow.cellAt (N - 1 - t) (by omega))
      rw [List.getElem?_eq_getElem (by rw [part_len]; omega)] at hx
      have hq : k / M ^ t ≤ k := Nat.div_le_self _ _
      obtain ⟨q, hqq⟩ : ∃ q, q = k / M ^ t := ⟨_, rfl⟩
      have hd1 : (q : Int).tmod M = ((dig M t k : Nat) : Int) := by unfold dig; rw [← hqq]; rfl
      have hd2 : (q : Int).tdiv M = ((k / M ^ (t + 1) : Nat) : Int) := by rw [← div_pow_succ, ← hqq]; rfl
      have hlt2 := dig_lt M t k hM0
      have hq3 : k / M ^ (t + 1) ≤ k := Nat.div_le_self _ _
      have hrow2 := ownsRow_set1 hrow (i := N - 1 - t) (by omega) (.int .i64 ((dig M t k : Nat) : Int))
      rw [part_succ M N k t hlt] at hrow2
      have hbl2 : Below w.heap.size w (wr.setCell ⟨w.heap.size, N - 1 - t, none⟩ (.int .i64 ((dig M t k : Nat) : Int))) := hbl.setCell (by simp) _
      rw [← hqq] at hq ⊢
      have hidx : (N : Int) - 1 - (t : Int) = ((N - 1 - t : Nat) : Int) := by omega
      generalize dig M t k = d at *
      generalize hq2 : k / M ^ (t + 1) = q2 at *
      have HQ2 := Lib.hid hq2
      clear hq2
      have HR2 := Lib.hid hrow2
      have HB2 := Lib.hid hbl2
      have HQ := Lib.hid hqq
      clear hrow2 hbl2 hqq hrow hbl
      go_wp2
      go_roundw
      case rel => exact ⟨t + 1, by omega, by go_num, by rw [HQ2.out], HR2.out, HB2.out⟩
      case measure => simp [intOf]; omega
    · obtain rfl : t = N := by omega
      rw [part_all] at hrow
      have HR2 := Lib.hid hrow
      have HB2 := Lib.hid hbl
      clear hrow hbl
      go_wp2
      go_returns
      exact ⟨_, rfl, HR2.out, HB2.out⟩
end Go.Proofs.YtfjepdcnikgjeaaGreatDoor
