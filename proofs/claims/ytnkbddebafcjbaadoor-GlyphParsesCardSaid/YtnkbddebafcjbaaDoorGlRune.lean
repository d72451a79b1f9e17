/-
  glyph.Rune and glyph.Kind: the rune of a kind, and the kind of a rune.
-/
import Derived.WalkKit
import Derived.BigCall
import Derived.Lib.OthersKept
import Derived.Lib.RuneLoops
import Derived.Test.YtnkbddebafcjbaaDoorChecked
namespace Go.Proofs.YtnkbddebafcjbaaDoor
open Go Go.RowKit Go.Proofs

def iOf : Value → Nat
  | .int _ x => x.toNat
  | _ => 0
theorem iOf_int (k : IntKind) (x : Int) : iOf (.int k x) = x.toNat := rfl

def kStr : ByteArray := { data := #[43, 33, 226, 134, 146, 226, 134, 186, 226, 150, 160, 226, 152, 190, 226, 140, 155, 226, 156, 157] }
def kPos (j : Nat) : Nat := if j < 2 then j else 3 * j - 4
def kRune (j : Nat) : Nat := [43, 33, 8594, 8634, 9632, 9790, 8987, 10013].getD j 0
theorem kDec (j : Nat) (h : j < 8) : kPos j < kStr.size ∧ (Utf8.decode kStr (kPos j)).1 = kRune j ∧ kPos j + (Utf8.decode kStr (kPos j)).2 = kPos (j + 1) := by
  have : ∀ j < 8, kPos j < kStr.size ∧ (Utf8.decode kStr (kPos j)).1 = kRune j ∧ kPos j + (Utf8.decode kStr (kPos j)).2 = kPos (j + 1) := by decide +kernel
  exact this j h
theorem kEnd : ¬ kPos 8 < kStr.size := by decide +kernel

def runeOf (k : Int) : Int := if 0 ≤ k ∧ k < 8 then (kRune k.toNat : Int) else 0
def isKind (k : Int) : Bool := decide (0 ≤ k ∧ k < 8)

set_option maxHeartbeats 4000000 in
set_option maxRecDepth 1000000 in
theorem rune_any (k : Int) (w : World) :
    Calls Tryd.prog 9 #[.int .i64 k] w fun e w' => e = .returned (.tuple #[.int .i32 (runeOf k), .bool (isKind k)]) ∧ Below w.heap.size w w' := by
  go_enter Tryd.func9, Tryd.ntmps9
  go_wp2
  go_loopw [4] (fun n wr => ∃ j : Nat, n = .int .i64 (j : Int) ∧ j ≤ 8 ∧ wr.heap[w.heap.size]? = some (.stringIter kStr (kPos j)) ∧ Below w.heap.size w wr ∧ ∀ i : Nat, i < j → (i : Int) ≠ k) (fun n _ => 8 - iOf n)
  case atStart =>
    refine ⟨0, rfl, by omega, ?_, (Below.refl _ w).alloc (Nat.le_refl _) _, fun i hi => absurd hi (by omega)⟩
    exact World.iter_heap w kStr 0
  case round =>
    obtain ⟨j, rfl, hj, hit, hbw, hne⟩ := hrel
    by_cases hp : j < 8
    · obtain ⟨d1, d2, d3⟩ := kDec j hp
      have hnx : ∀ ty, (Instr.next (.pointer (some ⟨w.heap.size, 0, none⟩)) true ty).run Tryd.prog wr = _ := fun ty => Lib.run_next_any_at wr w.heap.size kStr (kPos j) ty hit d1
      rw [d2, d3] at hnx
      have hit2 := Lib.iterAt_heap wr w.heap.size kStr (kPos j) (kPos (j + 1)) hit
      have hbw2 := Lib.below_iterAt hbw (k := w.heap.size) (by omega) kStr (kPos (j + 1))
      by_cases hk : (j : Int) = k
      · go_wp2
        go_ret2
        subst hk
        refine ⟨?_, hbw2⟩
        have a : (0 : Int) ≤ (j : Int) ∧ (j : Int) < 8 := by omega
        simp only [runeOf, isKind, a, and_self, if_true, decide_true, Int.toNat_natCast]
        rfl
      · go_wp2
        go_roundw
        case rel =>
          exact ⟨j + 1, by simp, by omega, hit2, hbw2, fun i hi => by rcases Nat.lt_or_ge i j with h | h; exact hne i h; obtain rfl : i = j := by omega
                                                                      exact hk⟩
        case measure => simp only [iOf_int]; omega
    · obtain rfl : j = 8 := by omega
      have hnx : ∀ ty, (Instr.next (.pointer (some ⟨w.heap.size, 0, none⟩)) true ty).run Tryd.prog wr = _ := fun ty => Lib.run_next_end_at wr w.heap.size kStr (kPos 8) ty hit kEnd
      go_wp2
      go_ret2
      refine ⟨?_, hbw⟩
      have a : ¬ ((0 : Int) ≤ k ∧ k < 8) := by intro a; exact hne k.toNat (by omega) (by omega)
      simp only [runeOf, isKind, a, if_false, decide_false]
      rfl

def kindOf (x : Int) : Int := if x = 43 then 0 else if x = 33 then 1 else if x = 8594 then 2 else if x = 8634 then 3 else if x = 9632 then 4 else if x = 9790 then 5 else if x = 8987 then 6 else if x = 10013 then 7 else 0
def isRune (x : Int) : Bool := decide (x = 43 ∨ x = 33 ∨ x = 8594 ∨ x = 8634 ∨ x = 9632 ∨ x = 9790 ∨ x = 8987 ∨ x = 10013)
theorem kindOf_rune (j : Nat) (h : j < 8) : kindOf (kRune j) = j ∧ isRune (kRune j) = true := by
  have : ∀ j < 8, kindOf (kRune j) = j ∧ isRune (kRune j) = true := by decide +kernel
  exact this j h
theorem kindOf_none (x : Int) (h : ∀ i : Nat, i < 8 → (kRune i : Int) ≠ x) : kindOf x = 0 ∧ isRune x = false := by
  have h0 := h 0 (by omega); have h1 := h 1 (by omega); have h2 := h 2 (by omega); have h3 := h 3 (by omega)
  have h4 := h 4 (by omega); have h5 := h 5 (by omega); have h6 := h 6 (by omega); have h7 := h 7 (by omega)
  simp [kRune] at h0 h1 h2 h3 h4 h5 h6 h7
  unfold kindOf isRune
  constructor
  · repeat (first | rfl | rw [if_neg (by omega)])
  · rw [decide_eq_false_iff_not]; omega

set_option maxHeartbeats 4000000 in
set_option maxRecDepth 1000000 in
theorem kind_any (x : Int) (w : World) :
    Calls Tryd.prog 11 #[.int .i32 x] w fun e w' => e = .returned (.tuple #[.int .i64 (kindOf x), .bool (isRune x)]) ∧ Below w.heap.size w w' := by
  go_enter Tryd.func11, Tryd.ntmps11
  go_wp2
  go_loopw [4] (fun n wr => ∃ j : Nat, n = .int .i64 (j : Int) ∧ j ≤ 8 ∧ wr.heap[w.heap.size]? = some (.stringIter kStr (kPos j)) ∧ Below w.heap.size w wr ∧ ∀ i : Nat, i < j → (kRune i : Int) ≠ x) (fun n _ => 8 - iOf n)
  case atStart =>
    refine ⟨0, rfl, by omega, ?_, (Below.refl _ w).alloc (Nat.le_refl _) _, fun i hi => absurd hi (by omega)⟩
    exact World.iter_heap w kStr 0
  case round =>
    obtain ⟨j, rfl, hj, hit, hbw, hne⟩ := hrel
    by_cases hp : j < 8
    · obtain ⟨d1, d2, d3⟩ := kDec j hp
      have hnx : ∀ ty, (Instr.next (.pointer (some ⟨w.heap.size, 0, none⟩)) true ty).run Tryd.prog wr = _ := fun ty => Lib.run_next_any_at wr w.heap.size kStr (kPos j) ty hit d1
      rw [d2, d3] at hnx
      have hit2 := Lib.iterAt_heap wr w.heap.size kStr (kPos j) (kPos (j + 1)) hit
      have hbw2 := Lib.below_iterAt hbw (k := w.heap.size) (by omega) kStr (kPos (j + 1))
      obtain ⟨k1, k2⟩ := kindOf_rune j hp
      by_cases hk : x = (kRune j : Int)
      · go_wp2
        go_ret2
        subst hk
        exact ⟨by rw [k1, k2]; rfl, hbw2⟩
      · clear k1 k2
        go_wp2
        go_roundw
        case rel =>
          exact ⟨j + 1, by simp, by omega, hit2, hbw2, fun i hi => by rcases Nat.lt_or_ge i j with h | h; exact hne i h; obtain rfl : i = j := by omega
                                                                      exact Ne.symm hk⟩
        case measure => simp only [iOf_int]; omega
    · obtain rfl : j = 8 := by omega
      have hnx : ∀ ty, (Instr.next (.pointer (some ⟨w.heap.size, 0, none⟩)) true ty).run Tryd.prog wr = _ := fun ty => Lib.run_next_end_at wr w.heap.size kStr (kPos 8) ty hit kEnd
      obtain ⟨k1, k2⟩ := kindOf_none x hne
      go_wp2
      go_ret2
      exact ⟨by rw [k1, k2]; rfl, hbw⟩
end Go.Proofs.YtnkbddebafcjbaaDoor
