/-
  GlyphRunes, walked.
-/
import Derived.WalkLawsBesides
import Derived.Test.YtnkbddebafcjbaaDoorGlCut
namespace Go.Proofs.YtnkbddebafcjbaaDoor
open Go Go.RowKit Go.Proofs

theorem cutCount_any (s : ByteArray) (hs : (s.size : Int) ≤ 400) (w : World) :
    Calls Tryd.prog 12 #[.string s, .int .i64 (Lib.runeCount s)] w fun r w' => r = .returned (.string s) ∧ Below w.heap.size w w' := by
  have hc := Lib.runeCount_le s
  have := cut_any s (Lib.runeCount s) (by omega) w
  rw [cut_all s (Lib.runeCount s) (Lib.runeCount s) (by have := (count_end s).1; omega) (by omega)] at this
  exact this
theorem cut_at (s : ByteArray) (n : Int) (j : Nat) (h : (j : Int) = max 0 n) : s.extract 0 (pAt s j) = cutS s n := by
  rw [cutS, show n.toNat = j by omega]
theorem cut_off (s : ByteArray) (n : Int) (j : Nat) (hj : j ≤ n.toNat) (h : ¬ pAt s j < s.size) : s.extract 0 s.size = cutS s n := by
  rw [cut_all s j n h hj, ByteArray.extract_zero_size]

set_option maxHeartbeats 8000000 in
set_option maxRecDepth 100000 in
theorem runes_any (s : ByteArray) (n : Int) (hn : n ≤ 9223372036854775807) (w : World) (h : KindsAt w) (ht : TabAt w) :
    Calls Tryd.prog 4 #[.string s, .int .i64 n] w fun r w' => r = .returned (.bool true) ∧ Below w.heap.size w w' := by
  by_cases hs : (400 : Int) < s.size
  · go_enter Tryd.func4, Tryd.ntmps4
    go_wp2_with (go_at_call 8; refine (lives_any _ h ht).mono ?_)
    rintro e w1 ⟨rfl, hb⟩
    have h1 := h.below hb
    have t1 := tab_below ht hb
    go_wp2_with (go_at_call 8; refine (lives_any _ h1 t1).mono ?_)
    rintro e w2 ⟨rfl, hb2⟩
    have K := hb.trans (hb2.mono hb.size)
    clear hb hb2 h1 t1 h ht
    go_wp2
    go_returns
    exact ⟨rfl, K⟩
  · have hs' : (s.size : Int) ≤ 400 := by omega
    clear hs
    go_enter Tryd.func4, Tryd.ntmps4
    go_wp2_with (go_at_call 8; refine (lives_any _ h ht).mono ?_)
    rintro e w1 ⟨rfl, K⟩
    clear h ht
    go_wp2_with (go_at_call 12; refine (cut_any s n hn _).mono ?_)
    rintro e w2 ⟨rfl, hb⟩
    have K := K.trans (hb.mono K.size)
    have hw2 := K.size
    clear hb
    go_wp2
    go_loopw [6, 7] (fun want k wr => want = .int .i64 s.size ∧ ∃ j : Nat, k = .int .i64 (j : Int) ∧ j ≤ n.toNat ∧ wr.heap[w2.heap.size]? = some (.stringIter s (pAt s j)) ∧ Below w.heap.size w wr) (fun _ k _ => 1 + n.toNat - iOf k)
    case atStart =>
      refine ⟨rfl, 0, rfl, by omega, ?_, K.alloc K.size _⟩
      exact World.iter_heap w2 s 0
    case round =>
      obtain ⟨rfl, j, rfl, hjn, hit, K⟩ := hrel
      by_cases hp : pAt s j < s.size
      · have hnx : ∀ ty, (Instr.next (.pointer (some ⟨w2.heap.size, 0, none⟩)) true ty).run Tryd.prog wr = _ := fun ty => Lib.run_next_any_at wr w2.heap.size s (pAt s j) ty hit hp
        rw [← pAt_next s j hp] at hnx
        have hit2 := Lib.iterAt_heap wr w2.heap.size s (pAt s j) (pAt s (j + 1)) hit
        have K := Lib.below_iterAt K (k := w2.heap.size) (by omega) s (pAt s (j + 1))
        have hle : (pAt s j : Int) ≤ s.size := by omega
        by_cases hz : (j : Int) = max 0 n
        · have E := cut_at s n j hz
          go_wp2_with (first
          | (go_at_call 13; refine (count_any s (by omega) _).mono ?_; rintro e W ⟨rfl, hb⟩; have K := K.trans (hb.mono K.size); clear hb)
          | (go_at_call 14; refine (refCount_any s (by omega) _).mono ?_; rintro e W ⟨rfl, hb⟩; have K := K.trans (hb.mono K.size); clear hb)
          | (go_at_call 12; refine (cutCount_any s hs' _).mono ?_; rintro e W ⟨rfl, hb⟩; have K := K.trans (hb.mono K.size); clear hb))
          go_returns
          exact ⟨rfl, K⟩
        · have hj2 : j + 1 ≤ n.toNat := by omega
          go_wp2
          go_roundw
          case rel => exact ⟨rfl, j + 1, by simp, hj2, hit2, K⟩
          case measure => simp only [iOf_int]; omega
      · have hnx : ∀ ty, (Instr.next (.pointer (some ⟨w2.heap.size, 0, none⟩)) true ty).run Tryd.prog wr = _ := fun ty => Lib.run_next_end_at wr w2.heap.size s (pAt s j) ty hit hp
        have E := cut_off s n j hjn hp
        go_wp2_with (first
          | (go_at_call 13; refine (count_any s (by omega) _).mono ?_; rintro e W ⟨rfl, hb⟩; have K := K.trans (hb.mono K.size); clear hb)
          | (go_at_call 14; refine (refCount_any s (by omega) _).mono ?_; rintro e W ⟨rfl, hb⟩; have K := K.trans (hb.mono K.size); clear hb)
          | (go_at_call 12; refine (cutCount_any s hs' _).mono ?_; rintro e W ⟨rfl, hb⟩; have K := K.trans (hb.mono K.size); clear hb))
        go_returns
        exact ⟨rfl, K⟩
end Go.Proofs.YtnkbddebafcjbaaDoor
