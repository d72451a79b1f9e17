/-
  The numbers of the bound, and the document's.
-/
import Derived.Test.YtfjepdcnikgjeaaGreatDoorBound1
set_option linter.unusedVariables false
set_option linter.unusedSimpArgs false
set_option linter.unusedSectionVars false
namespace Go.Proofs.YtfjepdcnikgjeaaGreatDoor
open Go Go.RowKit Hst Go.Proofs

set_option maxHeartbeats 1600000 in
set_option maxRecDepth 100000 in
theorem may_any (p m g : Int) (w : World) : Calls Tryz.prog 20 #[.int .i64 p, .int .i64 m, .int .i64 g] w fun e w' => e = .returned (.bool (rightI p m g)) ∧ w' = w := by
  go_enter Tryz.func20, Tryz.ntmps20
  go_wp2
  all_goals go_returns
  all_goals refine ⟨congrArg (fun b => Ending.returned (.bool b)) ?_, rfl⟩
  all_goals simp only [rightI]
  all_goals rw [Bool.eq_iff_iff]
  all_goals simp
  all_goals (try simp at *)
  all_goals omega

set_option maxHeartbeats 1600000 in
set_option maxRecDepth 100000 in
theorem refB_any (p m g : Int) (w : World) : Calls Tryz.prog 18 #[.int .i64 p, .int .i64 m, .int .i64 g] w fun e w' => e = .returned (.int .i64 (if rightI p m g = true then bB p m g else 0)) ∧ w' = w := by
  have hm := may_any p m g w
  rcases h : rightI p m g with _ | _
  · rw [h] at hm
    rw [if_neg (by decide)]
    have HM := Lib.hid hm
    clear hm h
    go_enter Tryz.func18, Tryz.ntmps18
    go_wp2_with fail
    refine HM.out.mono ?_
    rintro e w1 ⟨rfl, hw⟩
    have hw := hw.symm
    subst hw
    go_wp2
    go_returns
    exact ⟨rfl, rfl⟩
  · obtain ⟨w1, w2, w3, w4⟩ := bB_w h
    obtain ⟨P, M, G, rfl, rfl, rfl, hd⟩ := right_dims h
    rw [h] at hm
    rw [if_pos rfl]
    unfold dims at hd
    unfold bB
    have HM := Lib.hid hm
    clear hm h
    go_enter Tryz.func18, Tryz.ntmps18
    go_wp2_with fail
    refine HM.out.mono ?_
    rintro e w1 ⟨rfl, hw⟩
    have hw := hw.symm
    subst hw
    go_wp2
    go_returns
    exact ⟨rfl, rfl⟩

set_option maxHeartbeats 1600000 in
set_option maxRecDepth 100000 in
theorem refF_any (p m g k : Int) (w : World) : Calls Tryz.prog 19 #[.int .i64 p, .int .i64 m, .int .i64 g, .int .i64 k] w fun e w' => e = .returned (.int .i64 (if rightI p m g = true then bF p m g (bK k) else 0)) ∧ w' = w := by
  have hm := may_any p m g w
  rcases h : rightI p m g with _ | _
  · rw [h] at hm
    rw [if_neg (by decide)]
    have HM := Lib.hid hm
    clear hm h
    go_enter Tryz.func19, Tryz.ntmps19
    go_wp2_with fail
    refine HM.out.mono ?_
    rintro e w1 ⟨rfl, hw⟩
    have hw := hw.symm
    subst hw
    go_wp2
    go_returns
    exact ⟨rfl, rfl⟩
  · obtain ⟨q1, q2⟩ := bK_le k
    obtain ⟨w2, w3, w4, w5⟩ := bF_w h q1 q2
    obtain ⟨P, M, G, rfl, rfl, rfl, hd⟩ := right_dims h
    rw [h] at hm
    rw [if_pos rfl]
    unfold dims at hd
    unfold bF
    have HM := Lib.hid hm
    clear hm h
    rcases Int.lt_or_le k 1 with hk | hk
    · have e : bK k = 1 := by unfold bK; omega
      rw [e, show (1 : Int) + 8 = 9 by decide] at w2 w3 w4 ⊢
      clear w5 q1 q2 e
      go_enter Tryz.func19, Tryz.ntmps19
      go_wp2_with fail
      refine HM.out.mono ?_
      rintro e w1 ⟨rfl, hw⟩
      have hw := hw.symm
      subst hw
      go_wp2
      go_returns
      exact ⟨rfl, rfl⟩
    · rcases Int.lt_or_le 1048576 k with hk2 | hk2
      · have e : bK k = 1048576 := by unfold bK; omega
        rw [e, show (1048576 : Int) + 8 = 1048584 by decide] at w2 w3 w4 ⊢
        clear w5 q1 q2 e
        go_enter Tryz.func19, Tryz.ntmps19
        go_wp2_with fail
        refine HM.out.mono ?_
        rintro e w1 ⟨rfl, hw⟩
        have hw := hw.symm
        subst hw
        go_wp2
        go_returns
        exact ⟨rfl, rfl⟩
      · have e : bK k = k := by unfold bK; omega
        rw [e] at w2 w3 w4 ⊢
        clear w5 q1 q2 e
        go_enter Tryz.func19, Tryz.ntmps19
        go_wp2_with fail
        refine HM.out.mono ?_
        rintro e w1 ⟨rfl, hw⟩
        have hw := hw.symm
        subst hw
        go_wp2
        go_returns
        exact ⟨rfl, rfl⟩

set_option maxHeartbeats 1600000 in
set_option maxRecDepth 100000 in
theorem lives24_any (N : Nat) (w : World) (T : Tabs N w) : Calls Tryz.prog 15 #[] w fun e w' => e = .returned (.bool true) ∧ Below w.heap.size w w' := by
  have hl := lives_any N w T
  have hb := fun w => B_any 1 1 1 N w
  have e : (if rightI 1 1 1 = true then bB 1 1 1 else 0) = 26240 := by decide
  rw [e] at hb
  have HL := Lib.hid hl
  have HB := Lib.hid hb
  have HT := Lib.hid T
  clear hl hb T e
  go_enter Tryz.func15, Tryz.ntmps15
  go_wp2_with fail
  refine HL.out.mono ?_
  rintro e w1 ⟨rfl, b1⟩
  have B1 := Lib.hid b1
  clear b1
  go_wp2_with fail
  refine (HB.out w1 (HT.out.of_below B1.out HT.out.le)).mono ?_
  rintro e w2 ⟨rfl, b2⟩
  have B2 := Lib.hid (B1.out.trans (b2.mono B1.out.size))
  clear b2 B1
  go_wp2
  go_returns
  exact ⟨rfl, B2.out⟩

def nB (p m g : Int) : Int := if rightI p m g = true then bB p m g else 0
def nF (p m g k : Int) : Int := if rightI p m g = true then bF p m g (bK k) else 0
theorem nums (p m g k : Int) : rightI p m g = false ∨ (rightI p m g = true ∧ 0 < nB p m g ∧ 0 < nF p m g k ∧ nF p m g k ≤ nF p m g (min k 1073741824 + 1)) := by
  rcases h : rightI p m g with _ | _
  · exact .inl rfl
  · obtain ⟨q1, q2⟩ := bK_le k
    refine .inr ⟨rfl, ?_, ?_, ?_⟩
    · unfold nB; rw [h, if_pos rfl]; exact (bB_w h).2.2.2
    · unfold nF; rw [h, if_pos rfl]; exact (bF_w h q1 q2).2.2.2
    · unfold nF; rw [h, if_pos rfl, if_pos rfl]; exact bF_mono h (by unfold bK; omega)
end Go.Proofs.YtfjepdcnikgjeaaGreatDoor
