/-
  A world of a config that may not be; the numbers of the bound.
-/
import Derived.Test.YtfjepdcnikgjeaaGreatDoorLives
set_option linter.unusedVariables false
set_option linter.unusedSimpArgs false
set_option linter.unusedSectionVars false
namespace Go.Proofs.YtfjepdcnikgjeaaGreatDoor
open Go Go.RowKit Hst Go.Proofs

set_option maxHeartbeats 1600000 in
set_option maxRecDepth 100000 in
theorem new_bad (p m g : Int) (h : rightI p m g = false) (w : World) :
    Calls Tryz.prog 53 #[.agg #[.int .i64 p, .int .i64 m, .int .i64 g]] w fun e w' => e = .returned (.tuple #[.pointer none, .int .i64 1]) ∧ Below w.heap.size w w' := by
  have hc := fun w => right_c p m g w
  rw [h] at hc
  have HC := Lib.hid hc
  clear hc h
  go_enter Tryz.func53, Tryz.ntmps53
  go_wp2_with fail
  refine (HC.out _).mono ?_
  rintro e w1 ⟨rfl, hw1⟩
  have hB1 : Below w.heap.size w w1 := by rw [hw1]; exact ((Below.refl _ w).alloc (Nat.le_refl _) _).alloc (by simp) _
  have HB1 := Lib.hid hB1
  clear hw1 hB1
  go_wp2
  go_returns
  exact ⟨rfl, HB1.out⟩

theorem right_dims {p m g : Int} (h : rightI p m g = true) : ∃ P M G : Nat, p = P ∧ m = M ∧ g = G ∧ dims P M G := by
  unfold rightI at h
  simp at h
  exact ⟨p.toNat, m.toNat, g.toNat, by omega, by omega, by omega, by unfold dims; omega⟩

set_option maxHeartbeats 1600000 in
set_option maxRecDepth 100000 in
theorem bright_any (p m g : Int) (N : Nat) (w : World) (T : Tabs N w) :
    Calls Tryz.prog 76 #[.agg #[.int .i64 p, .int .i64 m, .int .i64 g]] w fun e w' => e = .returned (.bool (rightI p m g)) ∧ Below w.heap.size w w' := by
  rcases hr : rightI p m g with _ | _
  · have hn := fun w => new_bad p m g hr w
    clear hr
    have HN := Lib.hid hn
    clear hn
    go_enter Tryz.func76, Tryz.ntmps76
    go_wp2_with fail
    refine (HN.out _).mono ?_
    rintro e w1 ⟨rfl, hb⟩
    have HB := Lib.hid (((Below.refl _ w).alloc (Nat.le_refl _) _).trans (hb.mono (by simp)))
    clear hb
    go_wp2
    go_returns
    exact ⟨rfl, HB.out⟩
  · obtain ⟨P, M, G, rfl, rfl, rfl, hd⟩ := right_dims hr
    have hn := fun w T => new_ok P M G N hd w T
    clear hr hd
    have HN := Lib.hid hn
    have HT := Lib.hid T
    clear hn T
    go_enter Tryz.func76, Tryz.ntmps76
    go_wp2_with fail
    refine (HN.out _ (HT.out.alloc _)).mono ?_
    rintro e w1 ⟨F, V, ow, rfl, _, _, hb⟩
    have HB := Lib.hid (((Below.refl _ w).alloc (Nat.le_refl _) _).trans (hb.mono (by simp)))
    clear hb
    go_wp2
    go_returns
    exact ⟨rfl, HB.out⟩

def bB (p m g : Int) : Int := 64 * (m + 4) * ((p + 8) * (p + 8) + g)
def bF (p m g k : Int) : Int := 64 * (g + 8) * (k + 8) * (m + 4) * (p + 8)
def bK (k : Int) : Int := min (max 1 k) 1048576

theorem mul_le (a b x y : Int) (ha : 0 ≤ a) (hb : 0 ≤ b) (h1 : a ≤ x) (h2 : b ≤ y) : 0 ≤ a * b ∧ a * b ≤ x * y :=
  ⟨Int.mul_nonneg ha hb, Int.mul_le_mul h1 h2 hb (by omega)⟩

/-- What the walk of B wants to know. -/
theorem bB_w {p m g : Int} (h : rightI p m g = true) : IntKind.i64.wrap ((p + 8) * (p + 8)) = (p + 8) * (p + 8) ∧ IntKind.i64.wrap ((p + 8) * (p + 8) + g) = (p + 8) * (p + 8) + g ∧
    IntKind.i64.wrap (64 * (m + 4) * ((p + 8) * (p + 8) + g)) = 64 * (m + 4) * ((p + 8) * (p + 8) + g) ∧ 0 < 64 * (m + 4) * ((p + 8) * (p + 8) + g) := by
  obtain ⟨P, M, G, rfl, rfl, rfl, hd⟩ := right_dims h
  unfold dims at hd
  obtain ⟨a0, a1⟩ := mul_le (P + 8 : Int) (P + 8) 72 72 (by omega) (by omega) (by omega) (by omega)
  obtain ⟨b0, b1⟩ := mul_le (64 * ((M : Int) + 4)) ((P + 8 : Int) * (P + 8) + G) 8448 9280 (by omega) (by omega) (by omega) (by omega)
  refine ⟨IntWalk.i64_in _ (by omega), IntWalk.i64_in _ (by omega), IntWalk.i64_in _ (by omega), Int.mul_pos (by omega) (by omega)⟩

theorem bF_w {p m g k : Int} (h : rightI p m g = true) (h0 : 1 ≤ k) (h1 : k ≤ 1048576) : IntKind.i64.wrap (64 * (g + 8) * (k + 8)) = 64 * (g + 8) * (k + 8) ∧ IntKind.i64.wrap (64 * (g + 8) * (k + 8) * (m + 4)) = 64 * (g + 8) * (k + 8) * (m + 4) ∧
    IntKind.i64.wrap (64 * (g + 8) * (k + 8) * (m + 4) * (p + 8)) = 64 * (g + 8) * (k + 8) * (m + 4) * (p + 8) ∧ 0 < 64 * (g + 8) * (k + 8) * (m + 4) * (p + 8) := by
  obtain ⟨P, M, G, rfl, rfl, rfl, hd⟩ := right_dims h
  unfold dims at hd
  obtain ⟨a0, a1⟩ := mul_le (64 * (G + 8 : Int)) (k + 8) 262656 1048584 (by omega) (by omega) (by omega) (by omega)
  obtain ⟨b0, b1⟩ := mul_le (64 * (G + 8 : Int) * (k + 8)) (M + 4) (262656 * 1048584) 132 (by omega) (by omega) (by omega) (by omega)
  obtain ⟨c0, c1⟩ := mul_le (64 * (G + 8 : Int) * (k + 8) * (M + 4)) (P + 8) (262656 * 1048584 * 132) 72 (by omega) (by omega) (by omega) (by omega)
  refine ⟨IntWalk.i64_in _ (by omega), IntWalk.i64_in _ (by omega), IntWalk.i64_in _ (by omega), Int.mul_pos (Int.mul_pos (Int.mul_pos (by omega) (by omega)) (by omega)) (by omega)⟩

theorem bF_mono {p m g k l : Int} (h : rightI p m g = true) (hl : k ≤ l) : bF p m g k ≤ bF p m g l := by
  obtain ⟨P, M, G, rfl, rfl, rfl, hd⟩ := right_dims h
  unfold bF
  exact Int.mul_le_mul_of_nonneg_right (Int.mul_le_mul_of_nonneg_right (Int.mul_le_mul_of_nonneg_left (by omega) (by omega)) (by omega)) (by omega)

set_option maxHeartbeats 1600000 in
set_option maxRecDepth 100000 in
theorem B_any (p m g : Int) (N : Nat) (w : World) (T : Tabs N w) :
    Calls Tryz.prog 16 #[.agg #[.int .i64 p, .int .i64 m, .int .i64 g]] w fun e w' => e = .returned (.int .i64 (if rightI p m g = true then bB p m g else 0)) ∧ Below w.heap.size w w' := by
  have hr := bright_any p m g N
  rcases h : rightI p m g with _ | _
  · rw [h] at hr
    rw [if_neg (by decide)]
    have HR := Lib.hid (hr (w.alloc (.cells #[.int .i64 p, .int .i64 m, .int .i64 g] 24)) (T.alloc _))
    clear h hr T
    go_enter Tryz.func16, Tryz.ntmps16
    go_wp2_with fail
    refine HR.out.mono ?_
    rintro e w1 ⟨rfl, hb⟩
    have HB := Lib.hid (((Below.refl _ w).alloc (Nat.le_refl _) _).trans (hb.mono (by simp)))
    clear hb HR
    go_wp2
    go_returns
    exact ⟨rfl, HB.out⟩
  · obtain ⟨w1, w2, w3, w4⟩ := bB_w h
    obtain ⟨P, M, G, rfl, rfl, rfl, hd⟩ := right_dims h
    rw [h] at hr
    rw [if_pos rfl]
    unfold dims at hd
    unfold bB
    have HR := Lib.hid (hr (w.alloc (.cells #[.int .i64 P, .int .i64 M, .int .i64 G] 24)) (T.alloc _))
    clear h hr T
    go_enter Tryz.func16, Tryz.ntmps16
    go_wp2_with fail
    refine HR.out.mono ?_
    rintro e w5 ⟨rfl, hb⟩
    have k0 := hb.cell (p := ⟨w.heap.size, 0, none⟩) (by simp)
    have k1 := hb.cell (p := ⟨w.heap.size, 1, none⟩) (by simp)
    have k2 := hb.cell (p := ⟨w.heap.size, 2, none⟩) (by simp)
    rw [cell_new] at k0 k1 k2
    have HB := Lib.hid (((Below.refl _ w).alloc (Nat.le_refl _) _).trans (hb.mono (by simp)))
    clear hb HR
    go_wp2
    go_returns
    exact ⟨rfl, HB.out⟩

theorem bK_le (k : Int) : 1 ≤ bK k ∧ bK k ≤ 1048576 := by unfold bK; omega

set_option maxHeartbeats 1600000 in
set_option maxRecDepth 100000 in
theorem F_any (p m g k : Int) (N : Nat) (w : World) (T : Tabs N w) :
    Calls Tryz.prog 17 #[.agg #[.int .i64 p, .int .i64 m, .int .i64 g], .int .i64 k] w fun e w' => e = .returned (.int .i64 (if rightI p m g = true then bF p m g (bK k) else 0)) ∧ Below w.heap.size w w' := by
  have hr := bright_any p m g N
  rcases h : rightI p m g with _ | _
  · rw [h] at hr
    rw [if_neg (by decide)]
    have HR := Lib.hid (hr (w.alloc (.cells #[.int .i64 p, .int .i64 m, .int .i64 g] 24)) (T.alloc _))
    clear h hr T
    go_enter Tryz.func17, Tryz.ntmps17
    go_wp2_with fail
    refine HR.out.mono ?_
    rintro e w1 ⟨rfl, hb⟩
    have HB := Lib.hid (((Below.refl _ w).alloc (Nat.le_refl _) _).trans (hb.mono (by simp)))
    clear hb HR
    go_wp2
    go_returns
    exact ⟨rfl, HB.out⟩
  · obtain ⟨q1, q2⟩ := bK_le k
    obtain ⟨w2, w3, w4, w5⟩ := bF_w h q1 q2
    obtain ⟨P, M, G, rfl, rfl, rfl, hd⟩ := right_dims h
    rw [h] at hr
    rw [if_pos rfl]
    unfold dims at hd
    unfold bF
    have hK : min (max 1 k) 1048576 = bK k := rfl
    generalize bK k = kk at *
    have HR := Lib.hid (hr (w.alloc (.cells #[.int .i64 P, .int .i64 M, .int .i64 G] 24)) (T.alloc _))
    clear h hr T
    go_enter Tryz.func17, Tryz.ntmps17
    go_wp2_with fail
    refine HR.out.mono ?_
    rintro e w5 ⟨rfl, hb⟩
    have k0 := hb.cell (p := ⟨w.heap.size, 0, none⟩) (by simp)
    have k1 := hb.cell (p := ⟨w.heap.size, 1, none⟩) (by simp)
    have k2 := hb.cell (p := ⟨w.heap.size, 2, none⟩) (by simp)
    rw [cell_new] at k0 k1 k2
    have HB := Lib.hid (((Below.refl _ w).alloc (Nat.le_refl _) _).trans (hb.mono (by simp)))
    clear hb HR
    go_wp2
    go_returns
    exact ⟨rfl, HB.out⟩
end Go.Proofs.YtfjepdcnikgjeaaGreatDoor
