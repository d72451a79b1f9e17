/-
  The document's number of orders.
-/
import Derived.Test.YtfjepdcnikgjeaaGreatDoorExp2
set_option linter.unusedVariables false
set_option linter.unusedSimpArgs false
set_option linter.unusedSectionVars false
namespace Go.Proofs.YtfjepdcnikgjeaaGreatDoor
open Go Go.RowKit Hst Go.Proofs

set_option maxHeartbeats 1600000 in
set_option maxRecDepth 100000 in
theorem rcount_any (m n : Int) (hm : m ≤ 1099511627776) (hn : n ≤ 1048576) (w : World) : Calls Tryz.prog 24 #[.int .i64 m, .int .i64 n] w fun e w' => e = .returned (.int .i64 (cntE m n)) ∧ w' = w := by
  by_cases h0 : n = 0 ∧ m ≥ 0
  · obtain ⟨rfl, hm0⟩ := h0
    have e : cntE m 0 = 1 := by
      unfold cntE
      rw [if_neg (by omega)]
      split
      · rfl
      · rfl
    have hm0 : 0 ≤ m := hm0
    rw [e]
    clear e
    go_enter Tryz.func24, Tryz.ntmps24
    go_wp2
    go_returns
    exact ⟨rfl, rfl⟩
  · by_cases h : m < 1 ∨ n < 0
    · have e : cntE m n = 0 := by unfold cntE; rw [if_pos (by omega)]
      rw [e]
      clear e
      go_enter Tryz.func24, Tryz.ntmps24
      go_wp2
      all_goals first
        | (go_returns; exact ⟨rfl, rfl⟩)
        | (exfalso; simp at *; omega)
    · have t1 : (n == 0) = false := by rw [beq_eq_false_iff_ne]; omega
      have t2 : 1 ≤ m := by omega
      have t3 : 0 ≤ n := by omega
      by_cases h1 : m = 1
      · have e : cntE m n = 1 := by unfold cntE; rw [if_neg (by omega), if_pos h1]
        rw [e]
        subst h1
        clear e h0 h
        go_enter Tryz.func24, Tryz.ntmps24
        go_wp2
        go_loopw [5, 6] (fun a i wr => wr = w ∧ a = .int .i64 1 ∧ i = .int .i64 0) (fun _ _ _ => 0)
        case atStart => exact ⟨rfl, rfl, rfl⟩
        case round =>
          obtain ⟨rfl, rfl, rfl⟩ := hrel
          have t5 : 0 < n := by rw [beq_eq_false_iff_ne] at t1; omega
          go_wp2
          go_returns
          exact ⟨rfl, rfl⟩
      · have e : cntE m n = cntLoop m (min n 1048576).toNat 1 := by unfold cntE; rw [if_neg (by omega), if_neg h1]
        obtain ⟨tot, htot⟩ : ∃ tot, tot = cntE m n := ⟨_, rfl⟩
        rw [← htot]
        rw [← htot] at e
        obtain ⟨N, rfl⟩ : ∃ N : Nat, n = (N : Int) := ⟨n.toNat, by omega⟩
        have hN : (min (N : Int) 1048576).toNat = N := by omega
        rw [hN] at e
        have hm0 : 0 ≤ m := by omega
        have hmp : 2 ≤ m := by omega
        have hmg : 1 < m := by omega
        have hNb : N ≤ 1048576 := by omega
        have HE := Lib.hid e
        clear e htot h h0 hN h1
        go_enter Tryz.func24, Tryz.ntmps24
        go_wp2
        go_loopw [5, 6] (fun a i wr => wr = w ∧ ∃ (j : Nat) (acc : Int), j ≤ N ∧ i = .int .i64 j ∧ a = .int .i64 acc ∧ 1 ≤ acc ∧ acc ≤ 1048576 ∧ tot = cntLoop m (N - j) acc) (fun _ i _ => N - (intOf i).toNat)
        case atStart => exact ⟨rfl, 0, 1, Nat.zero_le _, rfl, rfl, by decide, by decide, HE.out⟩
        case round =>
          obtain ⟨rfl, j, acc, hj, rfl, rfl, ha1, ha2, hrel⟩ := hrel
          have hw := mul_small ha1 ha2 hm0 hm
          by_cases hlt : j < N
          · have hstep : cntLoop m (N - j) acc = if acc * m > 1048576 then 0 else cntLoop m (N - (j + 1)) (acc * m) := by
              rw [show N - j = (N - (j + 1)) + 1 by omega]; rfl
            rw [hstep] at hrel
            have hpos : 1 ≤ acc * m := Int.le_trans (by omega : (1 : Int) ≤ 1 * 2) (Int.mul_le_mul ha1 hmp (by omega) (by omega))
            have hge : m ≤ acc * m := by
              have := Int.mul_le_mul ha1 (Int.le_refl m) (by omega) (by omega)
              omega
            obtain ⟨q, hq⟩ : ∃ q, q = acc * m := ⟨_, rfl⟩
            rw [← hq] at hw hrel hpos hge
            have hwq : IntKind.i64.wrap (acc * m) = q := by rw [← hq] at *; exact hw
            clear hw hstep
            have HR := Lib.hid hrel
            have HQ := Lib.hid hq
            clear hrel hq
            by_cases hbig : q > 1048576
            · have hr := HR.out
              rw [if_pos hbig] at hr
              have HR2 := Lib.hid hr
              have hbig : 1048576 < q := hbig
              clear hr
              go_wp2
              go_returns
              exact ⟨by rw [HR2.out]; rfl, rfl⟩
            · have hr := HR.out
              rw [if_neg hbig] at hr
              have HR2 := Lib.hid hr
              have hbig : q ≤ 1048576 := by omega
              have hmb : m ≤ 1048576 := by omega
              clear hr
              go_wp2
              go_roundw
              case rel => exact ⟨trivial, j + 1, q, by omega, by go_num, rfl, hpos, by omega, HR2.out⟩
              case measure => simp [intOf]; omega
          · obtain rfl : j = N := by omega
            rw [Nat.sub_self] at hrel
            have hr : tot = acc := hrel
            subst hr
            clear hrel
            go_wp2
            go_returns
            exact ⟨rfl, rfl⟩
end Go.Proofs.YtfjepdcnikgjeaaGreatDoor
