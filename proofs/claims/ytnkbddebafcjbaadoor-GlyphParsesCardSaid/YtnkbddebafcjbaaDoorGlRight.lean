/-
  event.Right.
-/
import Derived.WalkLawsBesides
import Derived.Handy
import Derived.Test.YtnkbddebafcjbaaDoorGlBuild
namespace Go.Proofs.YtnkbddebafcjbaaDoor
open Go Go.RowKit Go.Proofs

/-- An event. -/
structure Ev where
  k : Int
  g : Int
  m : Int
  p : Int
  v : Int

def valOk (e : Ev) : Bool := decide (e.k = 5 ∨ (e.k = 6 ∧ 0 ≤ e.v ∧ e.v < 65536) ∨ (e.k ≠ 5 ∧ e.k ≠ 6 ∧ e.v = 0))
def rightOf (e : Ev) : Bool := decide (0 ≤ e.k ∧ e.k < 8 ∧ 0 ≤ e.g ∧ e.g < 4096 ∧ -1 ≤ e.m ∧ e.m < 128 ∧ -1 ≤ e.p ∧ e.p < 64 ∧ valOk e = true)

def evV (e : Ev) : Value := .agg #[.int .i64 e.k, .int .i64 e.g, .int .i64 e.m, .int .i64 e.p, .int .i64 e.v]

set_option maxHeartbeats 4000000 in
set_option maxRecDepth 100000 in
theorem value_any (e : Ev) (w : World) :
    Calls Tryd.prog 40 #[evV e] w fun r w' => r = .returned (.bool (valOk e)) ∧ Below w.heap.size w w' := by
  obtain ⟨k, g, m, p, v⟩ := e
  simp only [evV]
  by_cases h5 : k = 5
  · subst h5
    go_enter Tryd.func40, Tryd.ntmps40
    go_wp2
    all_goals go_ret
    all_goals refine ⟨congrArg (fun b => Ending.returned (.bool b)) ?_, (Below.refl _ w).alloc (Nat.le_refl _) _⟩
    all_goals (show (_ : Bool) = _)
    all_goals simp only [valOk]
    all_goals rw [Bool.eq_iff_iff]
    all_goals simp
  · by_cases h6 : k = 6
    · subst h6
      go_enter Tryd.func40, Tryd.ntmps40
      go_wp2
      all_goals go_ret
      all_goals refine ⟨congrArg (fun b => Ending.returned (.bool b)) ?_, (Below.refl _ w).alloc (Nat.le_refl _) _⟩
      all_goals (show (_ : Bool) = _)
      all_goals simp only [valOk]
      all_goals rw [Bool.eq_iff_iff]
      all_goals simp
      all_goals simp at *
      all_goals omega
    · go_enter Tryd.func40, Tryd.ntmps40
      go_wp2
      all_goals go_ret
      all_goals refine ⟨congrArg (fun b => Ending.returned (.bool b)) ?_, (Below.refl _ w).alloc (Nat.le_refl _) _⟩
      all_goals (show (_ : Bool) = _)
      all_goals simp only [valOk]
      all_goals rw [Bool.eq_iff_iff]
      all_goals simp
      all_goals simp at *
      all_goals omega

theorem below_heap {B : Nat} {a w : World} (h : Below B a w) {i : Nat} (hi : i < B) : w.heap[i]? = a.heap[i]? := h.block i hi
theorem below_cell {B : Nat} {a w : World} (h : Below B a w) {i o : Nat} (hi : i < B) : w.cell? ⟨i, o, none⟩ = a.cell? ⟨i, o, none⟩ := by
  simp only [World.cell?, below_heap h hi]
theorem below_box {w w' : World} {cs : Array Value} {t : TypeId} (h : Below (w.alloc (.cells cs t)).heap.size (w.alloc (.cells cs t)) w') : w'.heap[w.heap.size]? = some (.cells cs t (0, 0)) := by
  rw [below_heap h (by simp)]
  show (w.heap.push _)[w.heap.size]? = _
  simp
theorem box_cell {w : World} {b : Nat} {cs : Array Value} {t : TypeId} (h : w.heap[b]? = some (.cells cs t (0, 0))) (o : Nat) : w.cell? ⟨b, o, none⟩ = cs[o]? := Lib.cell_of_heap h o
theorem box_lt {w : World} {b : Nat} {o : Obj} (h : w.heap[b]? = some o) : b < w.heap.size := (Array.getElem?_eq_some_iff.1 h).1

/-- The table of the kinds, event.all: a name and two numbers for each kind. -/
structure KindsAt (w : World) : Prop where
  nm : ∀ k : Nat, k < 8 → ∃ s, w.cell? ⟨0, k * 3, none⟩ = some (.string s)
  fr : ∀ k : Nat, k < 8 → ∃ x, w.cell? ⟨0, k * 3 + 1, none⟩ = some (.int .u64 x)
  tt : ∀ k : Nat, k < 8 → ∃ x, w.cell? ⟨0, k * 3 + 2, none⟩ = some (.int .u64 x)
  lt : 0 < w.heap.size

theorem KindsAt.below {w w' : World} (h : KindsAt w) (hb : Below w.heap.size w w') : KindsAt w' := by
  refine ⟨fun k hk => ?_, fun k hk => ?_, fun k hk => ?_, Nat.lt_of_lt_of_le h.lt hb.size⟩
  · rw [below_cell hb h.lt]; exact h.nm k hk
  · rw [below_cell hb h.lt]; exact h.fr k hk
  · rw [below_cell hb h.lt]; exact h.tt k hk
theorem KindsAt.alloc {w : World} (h : KindsAt w) (o : Obj) : KindsAt (w.alloc o) := h.below ((Below.refl _ w).alloc (Nat.le_refl _) o)

set_option maxHeartbeats 4000000 in
set_option maxRecDepth 100000 in
theorem of_any (k : Nat) (hk : k < 8) (w : World) (h : KindsAt w) :
    Calls Tryd.prog 39 #[.int .i64 k] w fun r w' => (∃ s x y, r = .returned (.tuple #[.agg #[.string s, .int .u64 x, .int .u64 y], .bool true])) ∧ Below w.heap.size w w' := by
  obtain ⟨s, c0⟩ := h.nm k hk
  obtain ⟨x, c1⟩ := h.fr k hk
  obtain ⟨y, c2⟩ := h.tt k hk
  have hlt := h.lt
  clear h
  go_enter Tryd.func39, Tryd.ntmps39
  go_wp2
  go_returns
  exact ⟨⟨s, x, y, rfl⟩, by go_grown⟩

set_option maxHeartbeats 4000000 in
set_option maxRecDepth 100000 in
theorem of_none (k : Int) (hk : ¬ (0 ≤ k ∧ k < 8)) (w : World) :
    Calls Tryd.prog 39 #[.int .i64 k] w fun r w' => r = .returned (.tuple #[.agg #[.string ⟨#[]⟩, .int .u64 0, .int .u64 0], .bool false]) ∧ Below w.heap.size w w' := by
  by_cases h0 : k < 0
  · go_enter Tryd.func39, Tryd.ntmps39
    go_wp2
    go_returns
    exact ⟨rfl, by go_grown⟩
  · have h8 : 8 ≤ k := by omega
    go_enter Tryd.func39, Tryd.ntmps39
    go_wp2
    go_returns
    exact ⟨rfl, by go_grown⟩

set_option maxHeartbeats 4000000 in
set_option maxRecDepth 100000 in
theorem right_any (e : Ev) (w : World) (h : KindsAt w) :
    Calls Tryd.prog 28 #[evV e] w fun r w' => r = .returned (.bool (rightOf e)) ∧ Below w.heap.size w w' := by
  obtain ⟨k, g, m, p, v⟩ := e
  simp only [evV]
  by_cases hk : 0 ≤ k ∧ k < 8
  · obtain ⟨n, rfl⟩ : ∃ n : Nat, k = n := ⟨k.toNat, by omega⟩
    have hn : n < 8 := by omega
    have hv := fun w => value_any ⟨(n : Int), g, m, p, v⟩ w
    simp only [evV] at hv
    go_enter Tryd.func28, Tryd.ntmps28
    go_wp2_with (go_at_call 39; refine (of_any n hn _ (h.alloc _)).mono ?_)
    rintro e w1 ⟨⟨s, x, y, rfl⟩, hb⟩
    have hx := below_box hb
    have hlt := box_lt hx
    have hb0 : Below w.heap.size w w1 := ((Below.refl _ w).alloc (Nat.le_refl _) _).trans (hb.mono (by simp))
    have c0 := box_cell hx 0
    have c1 := box_cell hx 1
    have c2 := box_cell hx 2
    have c3 := box_cell hx 3
    have c4 := box_cell hx 4
    simp only [List.getElem?_toArray, List.getElem?_cons_zero, List.getElem?_cons_succ] at c0 c1 c2 c3 c4
    clear hx hb
    go_wp2_with (go_at_call 40; refine (hv _).mono ?_; rintro e w' ⟨rfl, hb⟩)
    all_goals go_returns
    all_goals refine ⟨congrArg (fun b => Ending.returned (.bool b)) ?_, ?_⟩
    any_goals first | exact (hb0.alloc (by omega) _).trans (hb.mono (by simp; omega)) | exact hb0.alloc (by omega) _
    all_goals (show (_ : Bool) = _)
    all_goals simp only [rightOf]
    all_goals generalize valOk _ = b
    all_goals cases b
    all_goals simp
    all_goals simp at *
    all_goals omega
  · go_enter Tryd.func28, Tryd.ntmps28
    go_wp2_with (go_at_call 39; refine (of_none k hk _).mono ?_)
    rintro e w1 ⟨rfl, hb⟩
    have hlt := box_lt (below_box hb)
    have hb0 : Below w.heap.size w w1 := ((Below.refl _ w).alloc (Nat.le_refl _) _).trans (hb.mono (by simp))
    clear hb
    go_wp2
    go_returns
    refine ⟨congrArg (fun b => Ending.returned (.bool b)) ?_, hb0.alloc (by omega) _⟩
    show false = _
    simp only [rightOf]
    rw [eq_comm, decide_eq_false_iff_not]
    intro a
    exact hk ⟨a.1, a.2.1⟩
end Go.Proofs.YtnkbddebafcjbaaDoor
