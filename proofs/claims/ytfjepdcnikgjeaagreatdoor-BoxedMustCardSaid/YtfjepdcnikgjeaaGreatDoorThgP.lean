/-
  Things out of numbers: what the law's Raw is, and the document's Thing.
-/
import Derived.Test.YtfjepdcnikgjeaaGreatDoorBoxT
set_option linter.unusedVariables false
set_option linter.unusedSimpArgs false
set_option linter.unusedSectionVars false
namespace Go.Proofs.YtfjepdcnikgjeaaGreatDoor
open Go Go.RowKit Hst Go.Proofs

structure RawT where
  kind : Nat
  p : Int
  m : Int
  g : Int
  step : Hst.Stp
  ev : Hst.Ev
  num : Int
  rune : Int
  text : ByteArray
structure Thg where
  kind : Int
  p : Int
  m : Int
  g : Int
  step : Hst.Stp
  num : Int
  text : ByteArray
def rawC (r : RawT) : Array Value :=
  #[.int .u8 (r.kind : Nat), .int .i64 r.p, .int .i64 r.m, .int .i64 r.g, .int .u8 (r.step.kind : Nat), .int .u8 (r.step.act : Nat), .int .i64 r.step.a, .int .i64 r.step.x, .int .i64 r.step.d, .int .i64 r.ev.kind, .int .i64 r.ev.g, .int .i64 r.ev.m, .int .i64 r.ev.p, .int .i64 r.ev.value, .int .i64 r.num, .int .i32 r.rune, .string r.text]
def thC (t : Thg) : Array Value :=
  #[.int .i64 t.kind, .int .i64 t.p, .int .i64 t.m, .int .i64 t.g, .int .u8 (t.step.kind : Nat), .int .u8 (t.step.act : Nat), .int .i64 t.step.a, .int .i64 t.step.x, .int .i64 t.step.d, .int .i64 t.num, .string t.text]
def st0 : Hst.Stp := ⟨0, 0, 0, 0, 0⟩
def th0 (k : Int) : Thg := ⟨k, 0, 0, 0, st0, 0, ⟨#[]⟩⟩
/-- The document's thing. -/
def thOf (r : RawT) : Thg :=
  match r.kind % 10 with
  | 0 => th0 0
  | 1 => { th0 1 with p := r.p, m := r.m, g := r.g }
  | 2 => { th0 2 with step := r.step }
  | 3 => th0 3
  | 4 => { th0 4 with num := r.num }
  | 5 => { th0 5 with text := Utf8.encode r.rune }
  | 6 => { th0 6 with text := r.text }
  | 7 => th0 7
  | _ => th0 8
/-- The thing, as a value; v: what it holds if that is a pointer. -/
def bxOf (r : RawT) (v : Value) : Bx :=
  match r.kind % 10 with
  | 0 => .none
  | 1 => .config (.agg #[.int .i64 r.p, .int .i64 r.m, .int .i64 r.g])
  | 2 => .step r.step
  | 3 => .event (.agg #[.int .i64 r.ev.kind, .int .i64 r.ev.g, .int .i64 r.ev.m, .int .i64 r.ev.p, .int .i64 r.ev.value])
  | 4 => .num r.num
  | 5 => .rune r.rune
  | 6 => .text r.text
  | 7 => .err v
  | 8 => .truth (.bool (decide (0 < r.num)))
  | _ => .ptr v
/-- The document's steps of a thing, and its text. -/
def stepsT (t : Thg) : List Hst.Stp :=
  if t.kind = 2 then [t.step] else if t.kind = 4 then [dSt t.num] else if t.kind = 5 ∨ t.kind = 6 then (digB t.text.data.toList).map dSt else []
def runesT (t : Thg) : List UInt8 := if t.kind = 5 ∨ t.kind = 6 then t.text.data.toList else []
theorem kind_lt (r : RawT) : r.kind % 10 < 10 := Nat.mod_lt _ (by decide)
theorem steps_same (r : RawT) (v : Value) : stepsB (bxOf r v) = stepsT (thOf r) := by
  have h := kind_lt r
  unfold bxOf thOf
  generalize r.kind % 10 = k at *
  match k, h with
  | 0, _ | 1, _ | 3, _ | 7, _ | 8, _ | 9, _ => rfl
  | 2, _ => rfl
  | 4, _ => rfl
  | 5, _ => simp [stepsB, stepsT, th0, encode_list, digB_encode]
  | 6, _ => simp [stepsB, stepsT, th0]
theorem runes_same (r : RawT) (v : Value) : runesB (bxOf r v) = runesT (thOf r) := by
  have h := kind_lt r
  unfold bxOf thOf
  generalize r.kind % 10 = k at *
  match k, h with
  | 0, _ | 1, _ | 2, _ | 3, _ | 4, _ | 7, _ | 8, _ | 9, _ => rfl
  | 5, _ => simp [runesB, runesT, th0, encode_list]
  | 6, _ => simp [runesB, runesT, th0]
def RawT.ok (r : RawT) : Prop := r.text.size ≤ 100 ∧ (-2147483648 ≤ r.rune ∧ r.rune ≤ 2147483647)
theorem bx_ok {r : RawT} (h : r.ok) (v : Value) : (bxOf r v).ok := by
  have hk := kind_lt r
  unfold bxOf
  generalize r.kind % 10 = k at *
  match k, hk with
  | 0, _ | 1, _ | 2, _ | 3, _ | 4, _ | 7, _ | 8, _ | 9, _ => trivial
  | 5, _ => exact h.2
  | 6, _ => exact Nat.le_trans h.1 (by decide)
end Go.Proofs.YtfjepdcnikgjeaaGreatDoor
