/-
  Runes of a text: glyph.Cut, glyph.Count, and the document's count.
-/
import Derived.Laws.DeepStrings4
import Derived.Lib.RuneCount
import Derived.Lib.TrimUEq
import Derived.Lib.MapLaws
import Derived.Test.YtnkbddebafcjbaaDoorGlLives
namespace Go.Proofs.YtnkbddebafcjbaaDoor
open Go Go.RowKit Go.Proofs

/-- Where the j-th rune of a text begins; its end, if it has no more than j. -/
def pAt (s : ByteArray) : Nat → Nat
  | 0 => 0
  | j + 1 => if pAt s j < s.size then pAt s j + (Utf8.decode s (pAt s j)).2 else pAt s j

theorem step_le (s : ByteArray) (pos : Nat) (h : pos < s.size) : pos + (Utf8.decode s pos).2 ≤ s.size := by
  have hlen : s.data.toList.length = s.size := Array.length_toList
  have hne : s.data.toList.drop pos ≠ [] := by
    intro h0
    have := congrArg List.length h0
    rw [List.length_drop, hlen] at this
    simp at this
    omega
  have := Lib.decodeL_le _ hne
  rw [Lib.decodeL_drop, List.length_drop, hlen] at this
  omega
theorem pAt_le (s : ByteArray) : ∀ j, pAt s j ≤ s.size
  | 0 => Nat.zero_le _
  | j + 1 => by
    unfold pAt
    split
    · rename_i h
      exact step_le s _ h
    · exact pAt_le s j
theorem pAt_next (s : ByteArray) (j : Nat) (h : pAt s j < s.size) : pAt s (j + 1) = pAt s j + (Utf8.decode s (pAt s j)).2 := by
  rw [pAt, if_pos h]
theorem pAt_ge (s : ByteArray) (j : Nat) (h : pAt s j < s.size) : j ≤ pAt s j := by
  induction j with
  | zero => exact Nat.zero_le _
  | succ j ih =>
    by_cases hj : pAt s j < s.size
    · have := Lib.decode_width_pos s (pAt s j) hj
      rw [pAt_next s j hj]
      have := ih hj
      omega
    · rw [pAt, if_neg hj] at h
      exact absurd h hj
theorem pAt_full (s : ByteArray) (j : Nat) (h : pAt s j = s.size) : ∀ d, pAt s (j + d) = s.size
  | 0 => h
  | d + 1 => by
    have := pAt_full s j h d
    show pAt s (j + d + 1) = s.size
    rw [pAt, if_neg (by omega), this]
theorem count_from (s : ByteArray) : ∀ (f j : Nat), s.size ≤ pAt s j + f → pAt s (j + Lib.runeCountFrom s f (pAt s j)) = s.size ∧ ∀ i, j ≤ i → i < j + Lib.runeCountFrom s f (pAt s j) → pAt s i < s.size
  | 0, j, h => by
    have := pAt_le s j
    simp only [Lib.runeCountFrom]
    exact ⟨by show pAt s j = _; omega, fun i h1 h2 => by omega⟩
  | f + 1, j, h => by
    unfold Lib.runeCountFrom
    by_cases hp : pAt s j < s.size
    · rw [if_pos hp, ← pAt_next s j hp]
      have hw := Lib.decode_width_pos s (pAt s j) hp
      obtain ⟨h1, h2⟩ := count_from s f (j + 1) (by rw [pAt_next s j hp]; omega)
      rw [show j + (1 + Lib.runeCountFrom s f (pAt s (j + 1))) = j + 1 + Lib.runeCountFrom s f (pAt s (j + 1)) by omega]
      refine ⟨h1, fun i hi hi2 => ?_⟩
      rcases Nat.eq_or_lt_of_le hi with e | h
      · rw [← e]; exact hp
      · exact h2 i h hi2
    · rw [if_neg hp]
      have := pAt_le s j
      exact ⟨by show pAt s j = _; omega, fun i h1 h2 => by omega⟩
theorem count_end (s : ByteArray) : pAt s (Lib.runeCount s) = s.size ∧ ∀ i, i < Lib.runeCount s → pAt s i < s.size := by
  obtain ⟨h1, h2⟩ := count_from s s.size 0 (by omega)
  rw [Nat.zero_add] at h1 h2
  exact ⟨h1, fun i hi => h2 i (Nat.zero_le _) hi⟩
theorem count_is (s : ByteArray) (j : Nat) (h : ¬ pAt s j < s.size) (hi : ∀ i, i < j → pAt s i < s.size) : j = Lib.runeCount s := by
  obtain ⟨h1, h2⟩ := count_end s
  rcases Nat.lt_trichotomy j (Lib.runeCount s) with h' | h' | h'
  · exact absurd (h2 j h') h
  · exact h'
  · have := hi _ h'
    omega
def cutS (s : ByteArray) (n : Int) : ByteArray := s.extract 0 (pAt s n.toNat)
theorem cut_all (s : ByteArray) (j : Nat) (n : Int) (h : ¬ pAt s j < s.size) (hn : j ≤ n.toNat) : cutS s n = s := by
  have := pAt_le s j
  have e := pAt_full s j (by omega) (n.toNat - j)
  rw [show j + (n.toNat - j) = n.toNat by omega] at e
  rw [cutS, e, ByteArray.extract_zero_size]

set_option maxHeartbeats 4000000 in
set_option maxRecDepth 100000 in
theorem count_any (s : ByteArray) (hs : s.size ≤ 1000000) (w : World) :
    Calls Tryd.prog 13 #[.string s] w fun r w' => r = .returned (.int .i64 (Lib.runeCount s)) ∧ Below w.heap.size w w' := by
  go_enter Tryd.func13, Tryd.ntmps13
  go_wp2_with (go_at_call 26; refine (Tryd.utf8_RuneCountInString s _ (by omega)).mono ?_)
  rintro e w1 ⟨rfl, pos, rfl⟩
  go_wp2
  go_returns
  exact ⟨rfl, (Below.refl _ w).alloc (Nat.le_refl _) _⟩

set_option maxHeartbeats 4000000 in
set_option maxRecDepth 1000000 in
theorem refCount_any (s : ByteArray) (hs : s.size ≤ 1000) (w : World) :
    Calls Tryd.prog 14 #[.string s] w fun r w' => r = .returned (.int .i64 (Lib.runeCount s)) ∧ Below w.heap.size w w' := by
  go_enter Tryd.func14, Tryd.ntmps14
  go_wp2
  go_loopw [3] (fun n wr => ∃ j : Nat, n = .int .i64 (j : Int) ∧ wr.heap[w.heap.size]? = some (.stringIter s (pAt s j)) ∧ Below w.heap.size w wr ∧ ∀ i : Nat, i < j → pAt s i < s.size) (fun n _ => s.size + 1 - iOf n)
  case atStart =>
    refine ⟨0, rfl, ?_, (Below.refl _ w).alloc (Nat.le_refl _) _, fun i hi => absurd hi (by omega)⟩
    exact World.iter_heap w s 0
  case round =>
    obtain ⟨j, rfl, hit, hbw, hne⟩ := hrel
    by_cases hp : pAt s j < s.size
    · have hnx : ∀ ty, (Instr.next (.pointer (some ⟨w.heap.size, 0, none⟩)) true ty).run Tryd.prog wr = _ := fun ty => Lib.run_next_any_at wr w.heap.size s (pAt s j) ty hit hp
      rw [← pAt_next s j hp] at hnx
      have hit2 := Lib.iterAt_heap wr w.heap.size s (pAt s j) (pAt s (j + 1)) hit
      have hbw2 := Lib.below_iterAt hbw (k := w.heap.size) (by omega) s (pAt s (j + 1))
      have hge := pAt_ge s j hp
      have hN := Lib.hid hne
      clear hne
      go_wp2
      go_roundw
      case rel =>
        refine ⟨j + 1, by simp, hit2, hbw2, fun i hi => ?_⟩
        rcases Nat.lt_or_ge i j with h | h
        · exact hN.out i h
        · obtain rfl : i = j := by omega
          exact hp
      case measure => simp only [iOf_int]; omega
    · have hnx : ∀ ty, (Instr.next (.pointer (some ⟨w.heap.size, 0, none⟩)) true ty).run Tryd.prog wr = _ := fun ty => Lib.run_next_end_at wr w.heap.size s (pAt s j) ty hit hp
      have e := Lib.hid (count_is s j hp hne)
      clear hne
      go_wp2
      go_returns
      exact ⟨by rw [← e.out]; rfl, hbw⟩

set_option maxHeartbeats 4000000 in
set_option maxRecDepth 1000000 in
theorem cut_any (s : ByteArray) (n : Int) (hn : n ≤ 9223372036854775807) (w : World) :
    Calls Tryd.prog 12 #[.string s, .int .i64 n] w fun r w' => r = .returned (.string (cutS s n)) ∧ Below w.heap.size w w' := by
  go_enter Tryd.func12, Tryd.ntmps12
  go_wp2
  go_loopw [1] (fun n' wr => ∃ j : Nat, n' = .int .i64 (n - j) ∧ j ≤ n.toNat ∧ wr.heap[w.heap.size]? = some (.stringIter s (pAt s j)) ∧ Below w.heap.size w wr) (fun n' _ => iOf n')
  case atStart =>
    refine ⟨0, by simp, by omega, ?_, (Below.refl _ w).alloc (Nat.le_refl _) _⟩
    exact World.iter_heap w s 0
  case round =>
    obtain ⟨j, rfl, hjn, hit, hbw⟩ := hrel
    by_cases hp : pAt s j < s.size
    · have hnx : ∀ ty, (Instr.next (.pointer (some ⟨w.heap.size, 0, none⟩)) true ty).run Tryd.prog wr = _ := fun ty => Lib.run_next_any_at wr w.heap.size s (pAt s j) ty hit hp
      rw [← pAt_next s j hp] at hnx
      have hit2 := Lib.iterAt_heap wr w.heap.size s (pAt s j) (pAt s (j + 1)) hit
      have hbw2 := Lib.below_iterAt hbw (k := w.heap.size) (by omega) s (pAt s (j + 1))
      by_cases hz : n - j ≤ 0
      · have ej : n.toNat = j := by omega
        have E := Lib.hid ej
        clear ej
        go_wp2
        go_returns
        exact ⟨by rw [cutS, E.out]; rfl, hbw2⟩
      · go_wp2
        go_roundw
        case rel => exact ⟨j + 1, by congr 1; omega, by omega, hit2, hbw2⟩
        case measure => simp only [iOf_int]; omega
    · have hnx : ∀ ty, (Instr.next (.pointer (some ⟨w.heap.size, 0, none⟩)) true ty).run Tryd.prog wr = _ := fun ty => Lib.run_next_end_at wr w.heap.size s (pAt s j) ty hit hp
      have e := Lib.hid (cut_all s j n hp hjn)
      go_wp2
      go_returns
      exact ⟨by rw [e.out]; rfl, hbw⟩
end Go.Proofs.YtnkbddebafcjbaaDoor
