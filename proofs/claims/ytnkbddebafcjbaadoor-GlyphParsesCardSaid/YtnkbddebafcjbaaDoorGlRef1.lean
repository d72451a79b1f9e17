/-
  The document's words: digits, numbers, words, and which events may be.
-/
import Derived.Laws.BytesArg
import Derived.BigQuiet
import Derived.Deep.QuietTactic
import Derived.Test.YtnkbddebafcjbaaDoorGlNum2
namespace Go.Proofs.YtnkbddebafcjbaaDoor
open Go Go.RowKit Go.Proofs

theorem dec_small (u : Nat) (h : u < 10) : Lib.decDigits u = [UInt8.ofNat (48 + u)] := by rw [Lib.decDigits, dif_pos h]
theorem dec_big (u : Nat) (h : ¬ u < 10) : Lib.decDigits u = Lib.decDigits (u / 10) ++ Lib.decDigits (u % 10) := by
  rw [Lib.decDigits, dif_neg h, dec_small (u % 10) (by omega)]

set_option maxHeartbeats 4000000 in
set_option maxRecDepth 100000 in
theorem digits_any (u : Nat) : u < 18446744073709551616 → ∀ w, Calls Tryd.prog 45 #[.int .u64 (u : Int)] w fun e w' => e = .returned (.string ⟨(Lib.decDigits u).toArray⟩) ∧ Below w.heap.size w w' := by
  induction u using Nat.strongRecOn with
  | ind u ih =>
    intro hu w
    by_cases h : u < 10
    · rw [dec_small u h]
      clear ih
      have h' : (u : Int) < 10 := by omega
      have h0 : 0 ≤ (u : Int) := by omega
      have hcv := run_convert_bytes_arg (P := Tryd.prog) (w.alloc (.cells #[.int .u8 (48 + (u : Int))] 5)) 60 5 Tryd.underlying60 Tryd.underlying5 w.heap.size 0 1 1 [48 + (u : Int)] rfl
        (fun i hi => by obtain rfl : i = 0 := by omega
                        exact World.cell?_alloc_new w _ _ 0) 9 Tryd.underlying9
      have hst : strOfNums [48 + (u : Int)] = ⟨#[UInt8.ofNat (48 + u)]⟩ := by
        simp only [strOfNums, List.map_cons, List.map_nil]
        rw [show (48 + (u : Int)).toNat = 48 + u by omega]
      rw [hst] at hcv
      clear hst h hu
      go_enter Tryd.func45, Tryd.ntmps45
      go_wp2
      go_returns
      exact ⟨by simp, by go_grown⟩
    · rw [dec_big u h]
      have ih1 := ih (u / 10) (by omega) (by omega)
      have ih2 := ih (u % 10) (by omega) (by omega)
      clear ih
      obtain ⟨q, hq⟩ : ∃ q, q = u / 10 := ⟨_, rfl⟩
      obtain ⟨r, hr⟩ : ∃ r, r = u % 10 := ⟨_, rfl⟩
      have e1 : (u : Int) / 10 = (q : Int) := by omega
      have e2 : (u : Int) % 10 = (r : Int) := by omega
      rw [← hq, ← hr]
      rw [← hq] at ih1
      rw [← hr] at ih2
      have HQ := Lib.hid hq
      have HR := Lib.hid hr
      have lq : (Lib.decDigits q).length ≤ 20 := dec_len 19 q (by omega)
      have lr : (Lib.decDigits r).length ≤ 20 := dec_len 19 r (by omega)
      have hcat : ¬ 9223372036854775807 < (Lib.decDigits q).length + (Lib.decDigits r).length := by omega
      clear hq hr lq lr
      have h' : (10 : Int) ≤ u := by omega
      clear h
      go_enter Tryd.func45, Tryd.ntmps45
      go_wp2_with (go_at_call 45; refine (ih1 _).mono ?_)
      rintro e w1 ⟨rfl, hb⟩
      go_wp2_with (go_at_call 45; refine (ih2 _).mono ?_)
      rintro e w2 ⟨rfl, hb2⟩
      go_wp2
      go_returns
      exact ⟨by rw [cat_arr]; rfl, hb.trans (hb2.mono hb.size)⟩

theorem itoa_neg1 (k : Nat) : Lib.itoa (-(k : Int) - 1) = 45 :: Lib.decDigits (k + 1) := by
  unfold Lib.itoa
  rw [if_pos (by omega), show (-(k : Int) - 1).natAbs = k + 1 by omega]
set_option maxHeartbeats 4000000 in
set_option maxRecDepth 100000 in
theorem number_ref (n : Int) (h0 : -9223372036854775808 ≤ n) (h1 : n ≤ 9223372036854775807) (w : World) :
    Calls Tryd.prog 34 #[.int .i64 n] w fun e w' => e = .returned (.string ⟨(Lib.itoa n).toArray⟩) ∧ Below w.heap.size w w' := by
  by_cases hn : n < 0
  · obtain ⟨k, hk⟩ : ∃ k : Nat, n = -(k : Int) - 1 := ⟨(-n - 1).toNat, by omega⟩
    have hk2 : (k : Int) ≤ 9223372036854775807 := by omega
    have hd := digits_any (k + 1) (by omega)
    have hl : (Lib.decDigits (k + 1)).length ≤ 20 := dec_len 19 (k + 1) (by omega)
    have hcat : ¬ 9223372036854775807 < 1 + (Lib.decDigits (k + 1)).length := by omega
    rw [show ((k + 1 : Nat) : Int) = (k : Int) + 1 by omega] at hd
    have ei := itoa_neg1 k
    rw [← hk] at ei
    rw [ei]
    have e1 : -(n + 1) = (k : Int) := by omega
    clear hl ei hk h1
    generalize Lib.decDigits (k + 1) = D at *
    go_enter Tryd.func34, Tryd.ntmps34
    go_wp2_with (go_at_call 45; refine (hd _).mono ?_; rintro e w1 ⟨rfl, hb⟩)
    go_returns
    exact ⟨by show Ending.returned (.string (⟨[45].toArray⟩ ++ ⟨D.toArray⟩)) = _; rw [cat_arr]; rfl, hb⟩
  · obtain ⟨k, rfl⟩ : ∃ k : Nat, n = (k : Int) := ⟨n.toNat, by omega⟩
    have hd := digits_any k (by omega)
    rw [Lib.itoa_nonneg]
    go_enter Tryd.func34, Tryd.ntmps34
    go_wp2_with (go_at_call 45; refine (hd _).mono ?_; rintro e w1 ⟨rfl, hb⟩)
    go_returns
    exact ⟨rfl, hb⟩

set_option maxHeartbeats 8000000 in
set_option maxRecDepth 100000 in
theorem refRight_any (e : Ev) (w : World) :
    Calls Tryd.prog 16 #[evV e] w fun r w' => r = .returned (.bool (rightOf e)) ∧ Below w.heap.size w w' := by
  obtain ⟨k, g, m, p, v⟩ := e
  simp only [evV]
  by_cases hr : 0 ≤ k ∧ k ≤ 7 ∧ 0 ≤ g ∧ g ≤ 4095 ∧ -1 ≤ m ∧ m ≤ 127 ∧ -1 ≤ p ∧ p ≤ 63
  · obtain ⟨a1, a2, a3, a4, a5, a6, a7, a8⟩ := hr
    have er : rightOf ⟨k, g, m, p, v⟩ = valOk ⟨k, g, m, p, v⟩ := by
      unfold rightOf
      rw [Bool.eq_iff_iff, decide_eq_true_eq]
      constructor
      · rintro ⟨_, _, _, _, _, _, _, _, h⟩; exact h
      · intro h; exact ⟨a1, by show k < 8; omega, a3, by show g < 4096; omega, a5, by show m < 128; omega, a7, by show p < 64; omega, h⟩
    rw [er]
    by_cases h5 : k = 5
    · have ev : valOk ⟨k, g, m, p, v⟩ = true := by unfold valOk; rw [decide_eq_true_eq]; exact .inl h5
      rw [ev]
      subst h5
      clear er ev
      go_enter Tryd.func16, Tryd.ntmps16
      go_wp2
      go_returns
      exact ⟨rfl, by go_grown⟩
    · by_cases h6 : k = 6
      · have ev : valOk ⟨k, g, m, p, v⟩ = decide (0 ≤ v ∧ v ≤ 65535) := by unfold valOk; rw [Bool.eq_iff_iff, decide_eq_true_eq, decide_eq_true_eq]; dsimp only; omega
        rw [ev]
        subst h6
        clear er ev
        by_cases c1 : 0 ≤ v
        · by_cases c2 : v ≤ 65535
          · rw [decide_eq_true (And.intro c1 c2)]
            go_enter Tryd.func16, Tryd.ntmps16
            go_wp2
            go_returns
            exact ⟨by simp, by go_grown⟩
          · rw [decide_eq_false (fun h => c2 h.2)]
            go_enter Tryd.func16, Tryd.ntmps16
            go_wp2
            go_returns
            exact ⟨by simp, by go_grown⟩
        · rw [decide_eq_false (fun h => c1 h.1)]
          go_enter Tryd.func16, Tryd.ntmps16
          go_wp2
          go_returns
          exact ⟨by simp, by go_grown⟩
      · have ev : valOk ⟨k, g, m, p, v⟩ = decide (v = 0) := by unfold valOk; rw [Bool.eq_iff_iff, decide_eq_true_eq, decide_eq_true_eq]; dsimp only; omega
        rw [ev]
        clear er ev
        go_enter Tryd.func16, Tryd.ntmps16
        go_wp2
        go_returns
        exact ⟨by congr 2, by go_grown⟩
  · have er : rightOf ⟨k, g, m, p, v⟩ = false := by
      unfold rightOf
      rw [decide_eq_false_iff_not]
      dsimp only
      omega
    rw [er]
    clear er
    by_cases b1 : k < 0
    · go_enter Tryd.func16, Tryd.ntmps16
      go_wp2
      go_returns
      exact ⟨rfl, by go_grown⟩
    by_cases b2 : 7 < k
    · go_enter Tryd.func16, Tryd.ntmps16
      go_wp2
      go_returns
      exact ⟨rfl, by go_grown⟩
    by_cases b3 : g < 0
    · go_enter Tryd.func16, Tryd.ntmps16
      go_wp2
      go_returns
      exact ⟨rfl, by go_grown⟩
    by_cases b4 : 4095 < g
    · go_enter Tryd.func16, Tryd.ntmps16
      go_wp2
      go_returns
      exact ⟨rfl, by go_grown⟩
    by_cases b5 : m < -1
    · go_enter Tryd.func16, Tryd.ntmps16
      go_wp2
      go_returns
      exact ⟨rfl, by go_grown⟩
    by_cases b6 : 127 < m
    · go_enter Tryd.func16, Tryd.ntmps16
      go_wp2
      go_returns
      exact ⟨rfl, by go_grown⟩
    by_cases b7 : p < -1
    · go_enter Tryd.func16, Tryd.ntmps16
      go_wp2
      go_returns
      exact ⟨rfl, by go_grown⟩
    have b8 : 63 < p := by omega
    clear hr
    go_enter Tryd.func16, Tryd.ntmps16
    go_wp2
    go_returns
    exact ⟨rfl, by go_grown⟩
end Go.Proofs.YtnkbddebafcjbaaDoor
