/-
  How many orders there are: walked, and the document's.
-/
import Derived.Test.YtfjepdcnikgjeaaGreatDoorExp1
set_option linter.unusedVariables false
set_option linter.unusedSimpArgs false
set_option linter.unusedSectionVars false
namespace Go.Proofs.YtfjepdcnikgjeaaGreatDoor
open Go Go.RowKit Hst Go.Proofs

theorem mul_small {a m : Int} (h1 : 1 ≤ a) (h2 : a ≤ 1048576) (h3 : 0 ≤ m) (h4 : m ≤ 1099511627776) : IntKind.i64.wrap (a * m) = a * m := by
  have := Int.mul_nonneg (a := a) (b := m) (by omega) h3
  have := Int.mul_le_mul h2 h4 h3 (by omega)
  exact IntWalk.i64_in _ (by omega)

set_option maxHeartbeats 1600000 in
set_option maxRecDepth 100000 in
theorem ecount_any (m n : Int) (hm : m ≤ 1099511627776) (w : World) : Calls Tryz.prog 22 #[.int .i64 m, .int .i64 n] w fun e w' => e = .returned (.int .i64 (cntE m n)) ∧ w' = w := by
  by_cases h : m < 0 ∨ n < 0 ∨ (m = 0 ∧ n > 0)
  · have e : cntE m n = 0 := by unfold cntE; rw [if_pos h]
    rw [e]
    clear e
    go_enter Tryz.func22, Tryz.ntmps22
    go_wp2
    all_goals first
      | (go_returns; exact ⟨rfl, rfl⟩)
      | (exfalso; simp at *; omega)
  · by_cases h1 : m = 1
    · have e : cntE m n = 1 := by unfold cntE; rw [if_neg h, if_pos h1]
      rw [e]
      subst h1
      have hn : ¬ n < 0 := by omega
      clear e h
      go_enter Tryz.func22, Tryz.ntmps22
      go_wp2
      all_goals (go_returns; exact ⟨rfl, rfl⟩)
    · by_cases hm00 : m = 0
      · subst hm00
        obtain rfl : n = 0 := by omega
        rw [show cntE 0 0 = 1 by decide]
        clear h h1 hm
        go_enter Tryz.func22, Tryz.ntmps22
        go_wp2
        go_loopw [5, 25] (fun a i wr => wr = w ∧ a = .int .i64 1 ∧ i = .int .i64 0) (fun _ _ _ => 0)
        case atStart => exact ⟨rfl, rfl, rfl⟩
        case round =>
          obtain ⟨rfl, rfl, rfl⟩ := hrel
          go_wp2
          go_returns
          exact ⟨rfl, rfl⟩
      have e : cntE m n = cntLoop m (min n 1048576).toNat 1 := by unfold cntE; rw [if_neg h, if_neg h1]
      obtain ⟨tot, htot⟩ : ∃ tot, tot = cntE m n := ⟨_, rfl⟩
      rw [← htot]
      rw [← htot] at e
      obtain ⟨N, hN⟩ : ∃ N : Nat, min n 1048576 = (N : Int) := ⟨(min n 1048576).toNat, by omega⟩
      rw [hN, Int.toNat_natCast] at e
      have hm0 : 0 ≤ m := by omega
      have hmp : 2 ≤ m := by omega
      have hNb : N ≤ 1048576 := by omega
      have t1 : ¬ m < 0 := by omega
      have t2 : ¬ n < 0 := by omega
      have t3 : (m == 0) = false := by rw [beq_eq_false_iff_ne]; exact hm00
      have HE := Lib.hid e
      clear e htot h hm00
      go_enter Tryz.func22, Tryz.ntmps22
      go_wp2
      all_goals first
        | (exfalso; simp at *; omega)
        | (go_loopw [5, 25] (fun a i wr => wr = w ∧ ∃ (j : Nat) (acc : Int), j ≤ N ∧ i = .int .i64 j ∧ a = .int .i64 acc ∧ 1 ≤ acc ∧ acc ≤ 1048576 ∧ tot = cntLoop m (N - j) acc) (fun _ i _ => N - (intOf i).toNat)
           case atStart => exact ⟨rfl, 0, 1, Nat.zero_le _, rfl, rfl, by decide, by decide, HE.out⟩
           case round =>
             obtain ⟨rfl, j, acc, hj, rfl, rfl, ha1, ha2, hrel⟩ := hrel
             have hw := mul_small ha1 ha2 hm0 hm
             by_cases hlt : j < N
             · have hstep : cntLoop m (N - j) acc = if acc * m > 1048576 then 0 else cntLoop m (N - (j + 1)) (acc * m) := by
                 rw [show N - j = (N - (j + 1)) + 1 by omega]; rfl
               rw [hstep] at hrel
               have hpos : 1 ≤ acc * m := Int.le_trans (by omega : (1 : Int) ≤ 1 * 2) (Int.mul_le_mul ha1 hmp (by omega) (by omega))
               obtain ⟨q, hq⟩ : ∃ q, q = acc * m := ⟨_, rfl⟩
               rw [← hq] at hw hrel hpos
               have hwq : IntKind.i64.wrap (acc * m) = q := by rw [← hq] at *; exact hw
               clear hw hstep
               have HR := Lib.hid hrel
               have HQ := Lib.hid hq
               clear hrel hq
               by_cases hbig : q > 1048576
               · have hr := HR.out
                 rw [if_pos hbig] at hr
                 have HR2 := Lib.hid hr
                 have hbig : 1048576 < q := hbig
                 clear hr
                 go_wp2
                 go_returns
                 exact ⟨by rw [HR2.out]; rfl, rfl⟩
               · have hr := HR.out
                 rw [if_neg hbig] at hr
                 have HR2 := Lib.hid hr
                 have hbig : q ≤ 1048576 := by omega
                 clear hr
                 go_wp2
                 go_roundw
                 case rel => exact ⟨trivial, j + 1, q, by omega, by go_num, rfl, hpos, by omega, HR2.out⟩
                 case measure => simp [intOf]; omega
             · obtain rfl : j = N := by omega
               rw [Nat.sub_self] at hrel
               have hr : tot = acc := hrel
               subst hr
               clear hrel
               go_wp2
               go_returns
               exact ⟨rfl, rfl⟩)
end Go.Proofs.YtfjepdcnikgjeaaGreatDoor
