/-
  BoundNumbers, walked.
-/
import Derived.Test.YtfjepdcnikgjeaaGreatDoorBound2
import Derived.BigQuiet
set_option linter.unusedVariables false
set_option linter.unusedSimpArgs false
set_option linter.unusedSectionVars false
namespace Go.Proofs.YtfjepdcnikgjeaaGreatDoor
open Go Go.RowKit Hst Go.Proofs

set_option maxHeartbeats 1600000 in
set_option maxRecDepth 100000 in
theorem numbers_any (p m g k : Int) (hk : -9223372036854775808 ≤ k ∧ k ≤ 9223372036854775807) (N : Nat) (w : World) (T : Tabs N w) :
    Calls Tryz.prog 3 #[.int .i64 p, .int .i64 m, .int .i64 g, .int .i64 k] w fun e w' => e = .returned (.bool true) ∧ Below w.heap.size w w' := by
  have hn := nums p m g k
  have hl := fun w T => lives24_any N w T
  have hB := fun w T => B_any p m g N w T
  have hF := fun k w T => F_any p m g k N w T
  have rB := fun w => refB_any p m g w
  have rF := fun k w => refF_any p m g k w
  have hM := fun w => may_any p m g w
  have eB : (if rightI p m g = true then bB p m g else 0) = nB p m g := rfl
  have eF : ∀ k, (if rightI p m g = true then bF p m g (bK k) else 0) = nF p m g k := fun _ => rfl
  simp only [eB, eF] at hB hF rB rF
  clear eB eF
  obtain ⟨xk, hxk⟩ : ∃ xk, xk = min k 1073741824 + 1 := ⟨_, rfl⟩
  have hwr : IntKind.i64.wrap (min k 1073741824 + 1) = xk := by rw [hxk]; exact IntWalk.i64_in _ (by omega)
  rw [← hxk] at hn
  have HF2 := Lib.hid (hF xk)
  have HF := Lib.hid (hF k)
  have RF := Lib.hid (rF k)
  have HL := Lib.hid hl
  have HB := Lib.hid hB
  have RB := Lib.hid rB
  have HM := Lib.hid hM
  have HN := Lib.hid hn
  have HT := Lib.hid T
  clear hF rF hl hB rB hM hn T hxk
  generalize nF p m g xk = f2 at *
  generalize nF p m g k = f at *
  generalize nB p m g = b at *
  go_enter Tryz.func3, Tryz.ntmps3
  go_wp2_with fail
  refine (HL.out w HT.out).mono ?_
  rintro e w1 ⟨rfl, b1⟩
  have B1 := Lib.hid b1
  clear b1
  go_wp2
  refine on_gen (fun w2 => Below w.heap.size w w2 ∧ w1.heap.size < w2.heap.size ∧ w2.cell? ⟨w1.heap.size, 0, none⟩ = some (.int .i64 p) ∧ w2.cell? ⟨w1.heap.size, 1, none⟩ = some (.int .i64 m) ∧ w2.cell? ⟨w1.heap.size, 2, none⟩ = some (.int .i64 g))
    ⟨B1.out.trans ((below_alloc w1 _).mono B1.out.size), by simp, by rw [cell_new]; rfl, by rw [cell_new]; rfl, by rw [cell_new]; rfl⟩ ?_
  rintro w2 ⟨hb2, hlt, k0, k1, k2⟩
  have B2 := Lib.hid hb2
  clear hb2 B1
  go_region_held3 (fun w' => w'.cell? ⟨w1.heap.size, 0, none⟩ = some (.int .i64 p) ∧ w'.cell? ⟨w1.heap.size, 1, none⟩ = some (.int .i64 m) ∧ w'.cell? ⟨w1.heap.size, 2, none⟩ = some (.int .i64 g))
    (first | exact ⟨k0, k1, k2⟩ | exact ⟨k0', k1', k2'⟩ | exact ⟨k0'', k1'', k2''⟩)
    (first
      | (go_at_call 16; refine (HB.out w2.drew (HT.out.of_below B2.out.drew HT.out.le)).mono ?_; rintro e w3 ⟨rfl, hb3⟩; have k0' := (hb3.cell (p := ⟨w1.heap.size, 0, none⟩) hlt).trans k0; have k1' := (hb3.cell (p := ⟨w1.heap.size, 1, none⟩) hlt).trans k1; have k2' := (hb3.cell (p := ⟨w1.heap.size, 2, none⟩) hlt).trans k2; have B3 := Lib.hid (B2.out.drew.trans (hb3.mono B2.out.size)); have hlt3 : w1.heap.size < w3.heap.size := Nat.lt_of_lt_of_le hlt hb3.size; clear hb3)
      | (go_at_call 17; refine (HF.out w3 (HT.out.of_below B3.out HT.out.le)).mono ?_; rintro e w4 ⟨rfl, hb4⟩; have k0'' := (hb4.cell (p := ⟨w1.heap.size, 0, none⟩) hlt3).trans k0'; have k1'' := (hb4.cell (p := ⟨w1.heap.size, 1, none⟩) hlt3).trans k1'; have k2'' := (hb4.cell (p := ⟨w1.heap.size, 2, none⟩) hlt3).trans k2'; have B4 := Lib.hid (B3.out.trans (hb4.mono B3.out.size)); have hlt4 : w1.heap.size < w4.heap.size := Nat.lt_of_lt_of_le hlt3 hb4.size; clear hb4))
  clear k0 k1 k2 k0' k1' k2' hlt hlt3 B2 B3
  go_wp2_with fail
  refine (RB.out w4).mono ?_
  rintro e w5 ⟨rfl, hw⟩
  have hw := hw.symm
  subst hw
  go_wp2_with fail
  refine (RF.out w4).mono ?_
  rintro e w5 ⟨rfl, hw⟩
  have hw := hw.symm
  subst hw
  rcases hc : rightI p m g with _ | _
  · have hm := HM.out w4
    rw [hc] at hm
    have HM := Lib.hid hm
    clear hm hc
    go_wp2_with fail
    refine HM.out.mono ?_
    rintro e w5 ⟨rfl, hw⟩
    have hw := hw.symm
    subst hw
    go_wp2
    go_returns
    exact ⟨rfl, B4.out⟩
  · have hm := HM.out w4
    rw [hc] at hm
    have HM := Lib.hid hm
    clear hm
    obtain ⟨n1, n2, n3⟩ : 0 < b ∧ 0 < f ∧ f ≤ f2 := by
      rcases HN.out with h | h
      · rw [h] at hc; cases hc
      · exact h.2
    clear hc
    go_wp2_with fail
    refine HM.out.mono ?_
    rintro e w5 ⟨rfl, hw⟩
    have hw := hw.symm
    subst hw
    go_wp2_with fail
    refine (HF2.out w4 (HT.out.of_below B4.out HT.out.le)).mono ?_
    rintro e w5 ⟨rfl, hb5⟩
    have B5 := Lib.hid (B4.out.trans (hb5.mono B4.out.size))
    clear hb5
    go_wp2
    go_returns
    exact ⟨rfl, B5.out⟩
end Go.Proofs.YtfjepdcnikgjeaaGreatDoor
