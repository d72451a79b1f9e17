/-
  GlyphKinds, walked.
-/
import Derived.Test.YtnkbddebafcjbaaDoorGlLives
namespace Go.Proofs.YtnkbddebafcjbaaDoor
open Go Go.RowKit Go.Proofs

set_option maxHeartbeats 4000000 in
set_option maxRecDepth 100000 in
theorem refKindP (k : Int) (w : World) :
    Calls Tryd.prog 10 #[.int .i64 k] w fun r w' => r = .returned (.string ⟨(kName k).toArray⟩) ∧ w' = w := by
  go_enter Tryd.func10, Tryd.ntmps10
  go_wp2_with (go_at_call 25; refine (refKind k _).mono ?_)
  rintro e w1 ⟨rfl, rfl⟩
  go_wp2
  go_returns
  exact ⟨rfl, rfl⟩

theorem kFacts (n : Nat) (h : n < 8) : isKind n = true ∧ (kName n).isEmpty = false ∧ kName n ≠ [] ∧ (Utf8.encode (runeOf n)).toList = kName n ∧ kindOf (runeOf n) = n ∧ isRune (runeOf n) = true ∧ runeOf n = kRune n := by
  have : ∀ n < 8, isKind (n : Nat) = true ∧ (kName (n : Nat)).isEmpty = false ∧ kName (n : Nat) ≠ [] ∧ (Utf8.encode (runeOf (n : Nat))).toList = kName (n : Nat) ∧ kindOf (runeOf (n : Nat)) = (n : Nat) ∧ isRune (runeOf (n : Nat)) = true ∧ runeOf (n : Nat) = kRune n := by decide +kernel
  exact this n h

theorem kFactsI (k : Int) (h : 0 ≤ k ∧ k < 8) : isKind k = true ∧ (kName k).isEmpty = false ∧ ¬ kName k = [] ∧ (Utf8.encode (runeOf k)).toList = kName k := by
  obtain ⟨n, rfl⟩ : ∃ n : Nat, k = n := ⟨k.toNat, by omega⟩
  obtain ⟨e1, e2, e3, e4, _, _, _⟩ := kFacts n (by omega)
  exact ⟨e1, e2, e3, e4⟩

/-- What the three functions answer at a kind's number, and its rune: no more is looked into. -/
theorem kAt (n : Nat) (h : n < 8) : ∃ (r : Int) (l : List UInt8), r = kRune n ∧
    (∀ w, Calls Tryd.prog 9 #[.int .i64 (n : Int)] w fun e w' => e = .returned (.tuple #[.int .i32 r, .bool true]) ∧ Below w.heap.size w w') ∧
    (∀ w, Calls Tryd.prog 11 #[.int .i32 r] w fun e w' => e = .returned (.tuple #[.int .i64 (n : Int), .bool true]) ∧ Below w.heap.size w w') ∧
    (∀ w, Calls Tryd.prog 10 #[.int .i64 (n : Int)] w fun e w' => e = .returned (.string ⟨l.toArray⟩) ∧ w' = w) ∧
    (Utf8.encode r).toList = l := by
  obtain ⟨e1, _, _, e4, e5, e6, e7⟩ := kFacts n h
  refine ⟨runeOf n, kName n, e7, fun w => ?_, fun w => ?_, fun w => refKindP n w, e4⟩
  · have := rune_any n w
    rw [e1] at this
    exact this
  · have := kind_any (runeOf n) w
    rw [e5, e6] at this
    exact this

set_option maxHeartbeats 8000000 in
set_option maxRecDepth 100000 in
theorem kinds_any (k x : Int) (w : World) (h : KindsAt w) (ht : TabAt w) :
    Calls Tryd.prog 3 #[.int .i64 k, .int .i32 x] w fun r w' => r = .returned (.bool true) ∧ Below w.heap.size w w' := by
  go_enter Tryd.func3, Tryd.ntmps3
  go_wp2_with (go_at_call 8; refine (lives_any _ h ht).mono ?_)
  rintro e w1 ⟨rfl, hb⟩
  clear h ht
  go_wp2_with (go_at_call 9; refine (rune_any k _).mono ?_)
  rintro e w2 ⟨rfl, hb2⟩
  have K := hb.trans (hb2.mono hb.size)
  clear hb hb2
  go_wp2_with (go_at_call 10; refine (refKindP k _).mono ?_)
  rintro e w3 ⟨rfl, rfl⟩
  by_cases hk : 0 ≤ k ∧ k < 8
  · obtain ⟨e1, e2, e3, e4⟩ := kFactsI k hk
    rw [e1]
    go_wp2_with (go_at_call 11; refine (kind_any x _).mono ?_)
    rintro e w4 ⟨rfl, hb⟩
    have K := K.trans (hb.mono K.size)
    clear hb e1 e2 e3 e4
    go_wp2
    go_loopw [50] (fun n wr => ∃ j : Nat, n = .int .i64 (j : Int) ∧ j ≤ 8 ∧ Below w.heap.size w wr ∧ ∀ i : Nat, i < j → (kRune i : Int) ≠ x) (fun n _ => 8 - iOf n)
    case atStart => exact ⟨0, rfl, by omega, K, fun i hi => absurd hi (by omega)⟩
    case round =>
      obtain ⟨j, rfl, hj, K, hne⟩ := hrel
      by_cases hp : j < 8
      · obtain ⟨r, l, hr, a1, a2, a3, a4⟩ := kAt j hp
        have hR := Lib.hid hr
        have hN := Lib.hid hne
        clear hr hne
        go_wp2_with (go_at_call 9; refine (a1 _).mono ?_)
        rintro e w5 ⟨rfl, hb⟩
        have K := K.trans (hb.mono K.size)
        clear hb
        go_wp2_with (go_at_call 11; refine (a2 _).mono ?_)
        rintro e w6 ⟨rfl, hb⟩
        have K := K.trans (hb.mono K.size)
        clear hb
        go_wp2_with (go_at_call 10; refine (a3 _).mono ?_; rintro e w7 ⟨rfl, rfl⟩)
        · go_returns
          have hx : x = r := eq_of_beq (by assumption)
          have e := kindOf_rune j hp
          rw [← hR.out, ← hx] at e
          exact ⟨by rw [e.1]; simp, K⟩
        · exfalso
          have hx : x = r := eq_of_beq (by assumption)
          have e := kindOf_rune j hp
          rw [← hR.out, ← hx] at e
          have := e.2
          simp_all
        · have hx : ¬ x = r := ne_of_beq_false (by assumption)
          go_roundw
          case rel =>
            refine ⟨j + 1, by simp, by omega, K, fun i hi => ?_⟩
            rcases Nat.lt_or_ge i j with h | h
            · exact hN.out i h
            · obtain rfl : i = j := by omega
              rw [← hR.out]
              exact Ne.symm hx
          case measure => simp only [iOf_int]; omega
      · obtain rfl : j = 8 := by omega
        have b := Lib.hid (kindOf_none x hne)
        clear hne
        go_wp2
        · exfalso
          have := b.out.2
          simp_all
        · go_returns
          exact ⟨by rw [b.out.1]; rfl, K⟩
  · have e1 : isKind k = false := by simp only [isKind, hk, decide_false]
    have e2 : kName k = [] := by simp only [kName, hk, if_false]
    have e3 : runeOf k = 0 := by simp only [runeOf, hk, if_false]
    rw [e1, e2, e3]
    go_wp2_with (go_at_call 11; refine (kind_any x _).mono ?_)
    rintro e w4 ⟨rfl, hb⟩
    have K := K.trans (hb.mono K.size)
    clear hb e1 e2 e3
    go_wp2
    go_loopw [50] (fun n wr => ∃ j : Nat, n = .int .i64 (j : Int) ∧ j ≤ 8 ∧ Below w.heap.size w wr ∧ ∀ i : Nat, i < j → (kRune i : Int) ≠ x) (fun n _ => 8 - iOf n)
    case atStart => exact ⟨0, rfl, by omega, K, fun i hi => absurd hi (by omega)⟩
    case round =>
      obtain ⟨j, rfl, hj, K, hne⟩ := hrel
      by_cases hp : j < 8
      · obtain ⟨r, l, hr, a1, a2, a3, a4⟩ := kAt j hp
        have hR := Lib.hid hr
        have hN := Lib.hid hne
        clear hr hne
        go_wp2_with (go_at_call 9; refine (a1 _).mono ?_)
        rintro e w5 ⟨rfl, hb⟩
        have K := K.trans (hb.mono K.size)
        clear hb
        go_wp2_with (go_at_call 11; refine (a2 _).mono ?_)
        rintro e w6 ⟨rfl, hb⟩
        have K := K.trans (hb.mono K.size)
        clear hb
        go_wp2_with (go_at_call 10; refine (a3 _).mono ?_; rintro e w7 ⟨rfl, rfl⟩)
        · go_returns
          have hx : x = r := eq_of_beq (by assumption)
          have e := kindOf_rune j hp
          rw [← hR.out, ← hx] at e
          exact ⟨by rw [e.1]; simp, K⟩
        · exfalso
          have hx : x = r := eq_of_beq (by assumption)
          have e := kindOf_rune j hp
          rw [← hR.out, ← hx] at e
          have := e.2
          simp_all
        · have hx : ¬ x = r := ne_of_beq_false (by assumption)
          go_roundw
          case rel =>
            refine ⟨j + 1, by simp, by omega, K, fun i hi => ?_⟩
            rcases Nat.lt_or_ge i j with h | h
            · exact hN.out i h
            · obtain rfl : i = j := by omega
              rw [← hR.out]
              exact Ne.symm hx
          case measure => simp only [iOf_int]; omega
      · obtain rfl : j = 8 := by omega
        have b := Lib.hid (kindOf_none x hne)
        clear hne
        go_wp2
        · exfalso
          have := b.out.2
          simp_all
        · go_returns
          exact ⟨by rw [b.out.1]; rfl, K⟩
end Go.Proofs.YtnkbddebafcjbaaDoor
