/-
  Things of any kind, as values; what a type assertion says of each.
-/
import Derived.Test.YtfjepdcnikgjeaaGreatDoorBoxW
set_option linter.unusedVariables false
set_option linter.unusedSimpArgs false
set_option linter.unusedSectionVars false
namespace Go.Proofs.YtfjepdcnikgjeaaGreatDoor
open Go Go.RowKit Hst Go.Proofs

inductive Bx
  | step (s : Hst.Stp)
  | num (n : Int)
  | text (s : ByteArray)
  | rune (r : Int)
  | none
  | config (v : Value)
  | event (v : Value)
  | err (v : Value)
  | truth (v : Value)
  | ptr (v : Value)

def stV (s : Hst.Stp) : Value := .agg #[.int .u8 (s.kind : Nat), .int .u8 (s.act : Nat), .int .i64 s.a, .int .i64 s.x, .int .i64 s.d]
def Bx.val : Bx → Value
  | .step s => .iface 40 (stV s)
  | .num n => .iface 3 (.int .i64 n)
  | .text s => .iface 9 (.string s)
  | .rune r => .iface 21 (.int .i32 r)
  | .none => .nilIface
  | .config v => .iface 24 v
  | .event v => .iface 43 v
  | .err v => .iface 214 v
  | .truth v => .iface 4 v
  | .ptr v => .iface 137 v
def stZ : Value := .agg #[.int .u8 0, .int .u8 0, .int .i64 0, .int .i64 0, .int .i64 0]
theorem ta_step (e : Bx) (w : World) : (Instr.typeAssert e.val 20 40 true).run Tryz.prog w = .ok (match e with | .step s => .tuple #[stV s, .bool true] | _ => .tuple #[stZ, .bool false]) w := by
  cases e <;> kernel_rfl
theorem ta_int (e : Bx) (w : World) : (Instr.typeAssert e.val 20 3 true).run Tryz.prog w = .ok (match e with | .num n => .tuple #[.int .i64 n, .bool true] | _ => .tuple #[.int .i64 0, .bool false]) w := by
  cases e <;> kernel_rfl
theorem ta_text (e : Bx) (w : World) : (Instr.typeAssert e.val 20 9 true).run Tryz.prog w = .ok (match e with | .text s => .tuple #[.string s, .bool true] | _ => .tuple #[.string ⟨#[]⟩, .bool false]) w := by
  cases e <;> kernel_rfl
theorem ta_rune (e : Bx) (w : World) : (Instr.typeAssert e.val 20 21 true).run Tryz.prog w = .ok (match e with | .rune r => .tuple #[.int .i32 r, .bool true] | _ => .tuple #[.int .i32 0, .bool false]) w := by
  cases e <;> kernel_rfl

theorem one_st2 (e : Hst.Stp) (w : World) (g c : Nat) (hg : g = w.heap.size) (cs : Array Value) (hc : cs = (encSt e).toArray) : StArg (w.alloc (.cells cs 40)) (.slice (some ⟨g, 0, Option.none⟩) 1 c) [e] := by
  subst hg hc
  refine .inr (.inr ⟨w.heap.size, 0, c, rfl, by simp, ?_, ?_, ?_, ?_, ?_⟩)
  all_goals
    intro j x hx
    rw [Nat.zero_add, cell_new]
    match j, hx with
    | 0, hx => cases hx; rfl
/-- A row of things, as an argument. -/
def AnyArg (w : World) (v : Value) (l : List Bx) : Prop :=
  ∃ a c, v = .slice a l.length c ∧ (l = [] ∨ ∃ b o, a = some ⟨b, o, Option.none⟩ ∧ b < w.heap.size ∧ ∀ j e, l[j]? = some e → w.cell? ⟨b, o + j, Option.none⟩ = some e.val)
theorem AnyArg.below {w w' : World} {v : Value} {l : List Bx} (h : AnyArg w v l) (hb : Below w.heap.size w w') : AnyArg w' v l := by
  obtain ⟨a, c, hv, h⟩ := h
  refine ⟨a, c, hv, ?_⟩
  rcases h with h | ⟨b, o, ha, hl, hc⟩
  · exact .inl h
  · exact .inr ⟨b, o, ha, Nat.lt_of_lt_of_le hl hb.size, fun j e he => (below_cell hb hl).trans (hc j e he)⟩
/-- The steps of a thing. -/
def stepsB : Bx → List Hst.Stp
  | .step s => [s]
  | .num n => [dSt n]
  | .text s => (digB s.data.toList).map dSt
  | .rune r => (digOf r).map dSt
  | _ => []
def stepsBs (l : List Bx) : List Hst.Stp := l.flatMap stepsB
/-- The text of a thing. -/
def runesB : Bx → List UInt8
  | .text s => s.data.toList
  | .rune r => Lib.encodeRune r
  | _ => []
def runesBs (l : List Bx) : List UInt8 := l.flatMap runesB
/-- A thing that is little. -/
def Bx.ok : Bx → Prop
  | .text s => s.size ≤ 1000
  | .rune r => -2147483648 ≤ r ∧ r ≤ 2147483647
  | _ => True
theorem digOf_len (r : Int) : (digOf r).length ≤ 1 := by unfold digOf; split <;> simp
theorem stepsB_len {e : Bx} (h : e.ok) : (stepsB e).length ≤ 1000 := by
  cases e <;> simp only [stepsB, List.length_cons, List.length_nil, List.length_map] <;> try omega
  · rename_i s
    have h1 := digB_length s.data.toList
    have h2 : s.data.toList.length = s.size := Array.length_toList
    have h3 : s.size ≤ 1000 := h
    omega
  · have := digOf_len ‹Int›
    omega
theorem stepsBs_len {l : List Bx} (h : ∀ e ∈ l, e.ok) : (stepsBs l).length ≤ l.length * 1000 := by
  induction l with
  | nil => simp [stepsBs]
  | cons a t ih =>
    have := ih (fun e he => h e (List.mem_cons_of_mem _ he))
    have h1 := stepsB_len (h a (List.mem_cons_self ..))
    unfold stepsBs at this ⊢
    simp only [List.flatMap_cons, List.length_append, List.length_cons]
    omega
theorem stepsBs_take {l : List Bx} {j : Nat} {e : Bx} (h : l[j]? = some e) : stepsBs (l.take (j + 1)) = stepsBs (l.take j) ++ stepsB e := by
  rw [List.take_add_one, h]
  simp [stepsBs]
theorem runesBs_take {l : List Bx} {j : Nat} {e : Bx} (h : l[j]? = some e) : runesBs (l.take (j + 1)) = runesBs (l.take j) ++ runesB e := by
  rw [List.take_add_one, h]
  simp [runesBs]
end Go.Proofs.YtfjepdcnikgjeaaGreatDoor
