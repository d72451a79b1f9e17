/-
  ExploreOrders, walked.
-/
import Derived.Test.YtfjepdcnikgjeaaGreatDoorExp6
import Derived.Test.YtfjepdcnikgjeaaGreatDoorFound
set_option linter.unusedVariables false
set_option linter.unusedSimpArgs false
set_option linter.unusedSectionVars false
namespace Go.Proofs.YtfjepdcnikgjeaaGreatDoor
open Go Go.RowKit Hst Go.Proofs

theorem digs_zero (m n : Nat) : digs m n 0 = List.replicate n 0 := by
  unfold digs dig
  apply List.ext_getElem?
  intro x
  simp only [List.getElem?_map, Nat.zero_div, Nat.zero_mod]
  by_cases h : x < n
  · simp [h]
  · simp [h]

set_option maxHeartbeats 1600000 in
set_option maxRecDepth 100000 in
theorem lives28_any (N : Nat) (w : World) (T : Tabs N w) : Calls Tryz.prog 21 #[] w fun e w' => e = .returned (.bool true) ∧ Below w.heap.size w w' := by
  have hl := lives_any N w T
  have ho := fun w => order_any 2 3 5 (by decide) (by decide) (by decide) (by decide) (by decide) w w.heap.size (Nat.le_refl _) (by decide)
  rw [show digs 2 3 5 = [1, 0, 1] by decide] at ho
  have HL := Lib.hid hl
  have HO := Lib.hid ho
  clear hl ho T
  go_enter Tryz.func21, Tryz.ntmps21
  go_wp2_with fail
  refine HL.out.mono ?_
  rintro e w1 ⟨rfl, b1⟩
  have B1 := Lib.hid b1
  clear b1
  go_wp2_with fail
  refine (HO.out w1).mono ?_
  rintro e w2 ⟨v, rfl, hr, b2⟩
  have B2 := Lib.hid (B1.out.trans (b2.mono B1.out.size))
  have hv : (w2.alloc (.cells #[.int .i64 1, .int .i64 0, .int .i64 1] 3)).ownsRow 0 3 1 (.slice (some ⟨w2.heap.size, 0, none⟩) 3 3) [(1 : Int), 0, 1].length (ints [1, 0, 1]) :=
    ⟨by simp [ints], .inr ⟨w2.heap.size, 3, #[.int .i64 1, .int .i64 0, .int .i64 1], rfl, Nat.zero_le _, heap_alloc_new w2 _, by simp, by decide, by simp, by simp [ints]⟩⟩
  have hs := same_any [1, 0, 1] [1, 0, 1] v (.slice (some ⟨w2.heap.size, 0, none⟩) 3 3) w1.heap.size 0 (w2.alloc (.cells #[.int .i64 1, .int .i64 0, .int .i64 1] 3)) (ownsRow_below hr (below_alloc w2 _)) hv (by decide)
  have HS := Lib.hid hs
  clear hs hv hr b2 B1
  go_wp2_with fail
  refine HS.out.mono ?_
  rintro e w3 ⟨rfl, b3⟩
  have B3 := Lib.hid (B2.out.trans (((Below.refl _ w2).alloc (Nat.le_refl _) _).trans (b3.mono (by simp)) |>.mono B2.out.size))
  clear b3
  go_wp2
  go_returns
  exact ⟨rfl, B3.out⟩

set_option maxHeartbeats 3200000 in
set_option maxRecDepth 100000 in
theorem orders_any (m n i : Int) (N : Nat) (w : World) (T : Tabs N w) : Calls Tryz.prog 5 #[.int .i64 m, .int .i64 n, .int .i64 i] w fun e w' => e = .returned (.bool true) ∧ Below w.heap.size w w' := by
  have hl := fun w T => lives28_any N w T
  have HL := Lib.hid hl
  have HT := Lib.hid T
  clear hl T
  by_cases hbig : n > 1048576 ∨ m > 1099511627776
  · go_enter Tryz.func5, Tryz.ntmps5
    go_wp2_with fail
    refine (HL.out w HT.out).mono ?_
    rintro e w1 ⟨rfl, b1⟩
    have B1 := Lib.hid b1
    clear b1
    have hl2 := HL.out w1 (HT.out.of_below B1.out HT.out.le)
    have HL2 := Lib.hid hl2
    clear hl2
    have hb2 : (decide (1048576 < n) || decide (1099511627776 < m)) = true := by simp; omega
    by_cases h1 : 1048576 < n
    · go_wp2_with fail
      refine HL2.out.mono ?_
      rintro e w2 ⟨rfl, b2⟩
      have B2 := Lib.hid (B1.out.trans (b2.mono B1.out.size))
      clear b2
      go_wp2
      go_returns
      exact ⟨rfl, B2.out⟩
    · have h2 : 1099511627776 < m := by omega
      have h1' : n ≤ 1048576 := by omega
      go_wp2_with fail
      refine HL2.out.mono ?_
      rintro e w2 ⟨rfl, b2⟩
      have B2 := Lib.hid (B1.out.trans (b2.mono B1.out.size))
      clear b2
      go_wp2
      go_returns
      exact ⟨rfl, B2.out⟩
  · have hn : n ≤ 1048576 := by omega
    have hm : m ≤ 1099511627776 := by omega
    have hc := fun w => ecount_any m n hm w
    have hrc := fun w => rcount_any m n hm hn w
    have hno := fun h w => order_none m n i hm h w
    have hpow := cntE_pow m n hn
    obtain ⟨c, hcc⟩ : ∃ c, c = cntE m n := ⟨_, rfl⟩
    rw [← hcc] at hc hrc hno hpow
    have HC := Lib.hid hc
    have HRC := Lib.hid hrc
    have HNO := Lib.hid hno
    have HCC := Lib.hid hcc
    have HPOW := Lib.hid hpow
    clear hc hrc hno hbig hcc hpow
    go_enter Tryz.func5, Tryz.ntmps5
    go_wp2_with fail
    refine (HL.out w HT.out).mono ?_
    rintro e w1 ⟨rfl, b1⟩
    have B1 := Lib.hid b1
    clear b1
    go_wp2_with fail
    refine (HC.out w1).mono ?_
    rintro e w2 ⟨rfl, hw⟩
    have hw := hw.symm
    subst hw
    go_wp2_with fail
    refine (HRC.out w1).mono ?_
    rintro e w2 ⟨rfl, hw⟩
    have hw := hw.symm
    subst hw
    obtain ⟨L, hL⟩ : ∃ L : Nat, max 0 n = (L : Int) := ⟨(max 0 n).toNat, by omega⟩
    have hB2 := Lib.hid (B1.out.trans ((below_alloc w1 (.cells (Array.replicate L (.int .i64 0)) 3)).mono B1.out.size))
    have hR2 := Lib.hid (row_new w1 0 L (Nat.zero_le _) (by unfold maxLen; omega))
    have key : 300 < c ∨ (c ≤ 300 ∧ 300 < n) ∨ (c ≤ 300 ∧ n ≤ 300) := by omega
    have gkey : i < 0 ∨ (0 ≤ i ∧ c ≤ i) ∨ (0 ≤ i ∧ i < c) := by omega
    have hmk := makeR L (by omega) w1
    have HMK := Lib.hid hmk
    have HLL := Lib.hid hL
    clear hmk hL
    rcases key with k1 | ⟨k1, k2⟩ | ⟨k1, k2⟩ <;> rcases gkey with h | ⟨h, h2⟩ | ⟨h, h2⟩
    all_goals (
      have hmk := HMK.out
      have hL := HLL.out
      go_wp2_with (first | (go_at_call 23; refine (HNO.out (by omega) w1).mono ?_; rintro e w2 ⟨rfl, hw⟩; have hw := hw.symm; subst hw)))
    all_goals (try (go_returns; exact ⟨rfl, B1.out⟩))
    all_goals (
      clear hmk hL
      go_loopw [8, 56] (fun v j wr => ∃ t : Nat, (t : Int) ≤ max 0 c ∧ j = .int .i64 t ∧ (∀ M N' : Nat, m = M → n = N' → wr.ownsRow 0 3 1 v N' (ints (digs M N' t))) ∧ Below w.heap.size w wr) (fun _ j _ => (c - intOf j).toNat)
      case atStart => exact ⟨0, by omega, rfl, fun M N' hM hN' => by
        have hL := HLL.out
        obtain rfl : L = N' := by omega
        rw [digs_zero]
        have := hR2.out
        simpa [ints] using this, hB2.out⟩
      case round =>
        obtain ⟨t, ht, rfl, hrow, hbl⟩ := hrel
        by_cases hlt : (t : Int) < c
        · rcases HPOW.out with h0 | ⟨M, N', hM, hN', hcp, hp1, hp2, hp3⟩
          · exfalso; omega
          · have hrow1 := hrow M N' hM hN'
            subst hM hN'
            have ho := order_any M N' t (by omega) (by omega) hp3 (by rw [← HCC.out]; exact hcp) (by omega) wr 0 (Nat.zero_le _) (by omega)
            have hx := fun v b w h => next_any M N' t (by omega) (by omega) hp3 v b w h
            have HO := Lib.hid ho
            have HX := Lib.hid hx
            have HR := Lib.hid hrow1
            have HB := Lib.hid hbl
            clear ho hx hrow hrow1 hbl hcp hp1 hp2 hp3
            go_wp2_with fail
            refine HO.out.mono ?_
            rintro e w2 ⟨v2, rfl, hr2, b2⟩
            have hr3 := ownsRow_below HR.out b2
            have hB3 := HB.out.trans (b2.mono HB.out.size)
            have hs := same_any _ _ _ _ 0 0 w2 (by rw [digs_len]; exact hr2) (by rw [digs_len]; exact hr3) (by rw [digs_len]; omega)
            rw [show (digs M N' t == digs M N' t) = true by simp] at hs
            have HS := Lib.hid hs
            have HR3 := Lib.hid hr3
            have HB3 := Lib.hid hB3
            clear hs hr2 hr3 hB3 b2
            go_wp2_with fail
            refine HS.out.mono ?_
            rintro e w3 ⟨rfl, b3⟩
            have hr4 := ownsRow_below HR3.out b3
            have hB4 := HB3.out.trans (b3.mono HB3.out.size)
            have hn4 := HX.out _ 0 w3 hr4
            have HN4 := Lib.hid hn4
            have HB4 := Lib.hid hB4
            clear hr4 hB4 hn4 b3
            go_wp2_with fail
            refine HN4.out.mono ?_
            rintro e w4 ⟨v4, rfl, hr5, b4⟩
            have hB5 := HB4.out.trans (b4.mono HB4.out.size)
            have HR5 := Lib.hid hr5
            have HB5 := Lib.hid hB5
            clear hr5 hB5 b4
            go_wp2
            go_roundw
            case rel => exact ⟨t + 1, by omega, by go_num, fun M2 N2 h1 h2 => by
              obtain rfl : M = M2 := by omega
              obtain rfl : N' = N2 := by omega
              exact ownsRow_base HR5.out (Nat.zero_le _), HB5.out⟩
            case measure => simp [intOf]; omega
        · have hge : c ≤ (t : Int) := by omega
          have HB := Lib.hid hbl
          clear hrow hbl hlt
          go_wp2
          go_returns
          exact ⟨rfl, HB.out⟩)
end Go.Proofs.YtfjepdcnikgjeaaGreatDoor
