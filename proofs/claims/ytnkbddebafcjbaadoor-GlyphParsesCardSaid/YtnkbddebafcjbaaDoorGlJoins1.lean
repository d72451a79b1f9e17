/-
  GlyphJoins, walked.
-/
import Derived.WalkLawsBesides
import Derived.Laws.StructEq
import Derived.Laws.AppendOwnNone
import Derived.Test.YtnkbddebafcjbaaDoorGlJoins
import Derived.Test.YtnkbddebafcjbaaDoorGlCut
namespace Go.Proofs.YtnkbddebafcjbaaDoor
open Go Go.RowKit Go.Proofs

/-- An argument that is a row of events. -/
def EvArg (w : World) (v : Value) (l : List Ev) : Prop :=
  (v = .slice none 0 0 ∧ l = []) ∨ (∃ a c, v = .slice (some a) 0 c ∧ l = []) ∨ ∃ b o c, v = .slice (some ⟨b, o, none⟩) l.length c ∧ EvCells w b o l
theorem EvArg.below {w w' : World} {v : Value} {l : List Ev} (h : EvArg w v l) (hb : Below w.heap.size w w') : EvArg w' v l := by
  rcases h with h | h | ⟨b, o, c, rfl, h⟩
  · exact .inl h
  · exact .inr (.inl h)
  · exact .inr (.inr ⟨b, o, c, rfl, h.below h.lt hb⟩)
def inI64 (l : List Ev) : Prop := ∀ e ∈ l, -9223372036854775808 ≤ e.v ∧ e.v ≤ 9223372036854775807

theorem print_good {w : World} {v : Value} {l : List Ev} (hA : EvArg w v l) (hc : l.length ≤ 1000) (hr : ∀ e ∈ l, rightOf e = true) (hv : inI64 l) (h : KindsAt w) (ht : TabAt w) :
    Calls Tryd.prog 15 #[v] w fun r w' => r = .returned (.tuple #[.string ⟨(textOf l).toArray⟩, .int .i64 0]) ∧ Below w.heap.size w w' := by
  rcases hA with ⟨rfl, rfl⟩ | ⟨a, c, rfl, rfl⟩ | ⟨b, o, c, rfl, hE⟩
  · exact print_nil none 0 w
  · exact print_nil (some a) c w
  · exact print_ok b o c l hc hr hv w hE h ht
theorem print_none {w : World} {v : Value} {l : List Ev} (hA : EvArg w v l) (hc : l.length ≤ 1000) (hr : ∃ e ∈ l, rightOf e = false) (hv : inI64 l) (h : KindsAt w) (ht : TabAt w) :
    Calls Tryd.prog 15 #[v] w fun r w' => r = .returned (.tuple #[.string ⟨#[]⟩, .int .i64 1]) ∧ Below w.heap.size w w' := by
  rcases hA with ⟨rfl, rfl⟩ | ⟨a, c, rfl, rfl⟩ | ⟨b, o, c, rfl, hE⟩
  · obtain ⟨e, he, _⟩ := hr
    cases he
  · obtain ⟨e, he, _⟩ := hr
    cases he
  · obtain ⟨j, e, h1, h2, h3⟩ := bad_first l hr
    exact print_bad b o c l hc j e h1 h2 h3 hv w hE h ht

def flat (l : List Ev) : List Value := l.flatMap fun e => [.int .i64 e.k, .int .i64 e.g, .int .i64 e.m, .int .i64 e.p, .int .i64 e.v]
theorem flat_length (l : List Ev) : (flat l).length = l.length * 5 := by
  unfold flat
  induction l with
  | nil => rfl
  | cons e r ih => simp only [List.flatMap_cons, List.length_append, List.length_cons, List.length_nil, ih]; omega
theorem flat_append (l m : List Ev) : flat (l ++ m) = flat l ++ flat m := by simp [flat]
theorem flat_at (l : List Ev) (j : Nat) (e : Ev) (h : l[j]? = some e) : (flat l)[j * 5]? = some (.int .i64 e.k) ∧ (flat l)[j * 5 + 1]? = some (.int .i64 e.g) ∧ (flat l)[j * 5 + 2]? = some (.int .i64 e.m) ∧ (flat l)[j * 5 + 3]? = some (.int .i64 e.p) ∧ (flat l)[j * 5 + 4]? = some (.int .i64 e.v) := by
  induction l generalizing j with
  | nil => cases h
  | cons a r ih =>
    cases j with
    | zero => simp at h; subst h; simp [flat]
    | succ j =>
      have := ih j (by simpa using h)
      have e5 : ∀ k, (flat (a :: r))[(j + 1) * 5 + k]? = (flat r)[j * 5 + k]? := by
        intro k
        rw [show (j + 1) * 5 + k = j * 5 + k + 5 by omega]
        rfl
      exact ⟨(e5 0).trans this.1, (e5 1).trans this.2.1, (e5 2).trans this.2.2.1, (e5 3).trans this.2.2.2.1, (e5 4).trans this.2.2.2.2⟩
theorem EvCells.news {w : World} {b o : Nat} {l : List Ev} (h : EvCells w b o l) (j : Nat) (u : Value) (hu : (flat l)[j]? = some u) : w.cell? ((⟨b, o, none⟩ : Addr).add j) = some u := by
  have hj : j < l.length * 5 := by rw [← flat_length]; exact (List.getElem?_eq_some_iff.1 hu).1
  have hq : j / 5 < l.length := by omega
  obtain ⟨e, he⟩ : ∃ e, l[j / 5]? = some e := ⟨_, List.getElem?_eq_getElem hq⟩
  obtain ⟨f0, f1, f2, f3, f4⟩ := flat_at l (j / 5) e he
  have hm : j % 5 < 5 := Nat.mod_lt _ (by omega)
  have ej : j = j / 5 * 5 + j % 5 := by omega
  rw [show (⟨b, o, none⟩ : Addr).add j = ⟨b, o + j, none⟩ by simp [Addr.add]]
  generalize hx : j / 5 = x at *
  generalize hy : j % 5 = y at *
  rw [ej, ← Nat.add_assoc]
  rw [ej] at hu
  match y, hm with
  | 0, _ => rw [← hu]; exact (h.ck x e he).trans f0.symm
  | 1, _ => rw [← hu]; exact (h.cg x e he).trans f1.symm
  | 2, _ => rw [← hu]; exact (h.cm x e he).trans f2.symm
  | 3, _ => rw [← hu]; exact (h.cp x e he).trans f3.symm
  | 4, _ => rw [← hu]; exact (h.cv x e he).trans f4.symm
theorem flat_one (l : List Ev) : ∀ u ∈ flat l, u.oneCell' = true := by
  intro u hu
  simp only [flat, List.mem_flatMap] at hu
  obtain ⟨e, _, hu⟩ := hu
  simp only [List.mem_cons, List.not_mem_nil, or_false] at hu
  rcases hu with rfl | rfl | rfl | rfl | rfl <;> rfl
/-- A row of the call's own that holds events is an argument to Print. -/
theorem own_arg {w : World} {B : Nat} {v : Value} {l : List Ev} (h : w.ownsRow B 38 5 v l.length (flat l)) : EvArg w v l := by
  rcases h.2 with ⟨rfl, h0⟩ | ⟨g, cap, cur, rfl, hbg, hg, hnc, hcm, hcs, htk⟩
  · exact .inl ⟨rfl, List.length_eq_zero_iff.1 h0⟩
  · refine .inr (.inr ⟨g, 0, cap, rfl, box_lt hg, ?_, ?_, ?_, ?_, ?_⟩)
    · intro j e he; rw [Nat.zero_add]; exact own_cell hg htk _ _ (flat_at l j e he).1
    · intro j e he; rw [Nat.zero_add]; exact own_cell hg htk _ _ (flat_at l j e he).2.1
    · intro j e he; rw [Nat.zero_add]; exact own_cell hg htk _ _ (flat_at l j e he).2.2.1
    · intro j e he; rw [Nat.zero_add]; exact own_cell hg htk _ _ (flat_at l j e he).2.2.2.1
    · intro j e he; rw [Nat.zero_add]; exact own_cell hg htk _ _ (flat_at l j e he).2.2.2.2

theorem infoEv : (Tryd.prog.info? 38).map (fun i => (i.zero, i.size, i.bytes)) = some (some (.agg #[.int .i64 0, .int .i64 0, .int .i64 0, .int .i64 0, .int .i64 0]), 5, 40) := by kernel_rfl

theorem append_ev {w : World} {ops : Array Oper} {rest : List Oper} {o : Oper} {a : Act} {Q : Exit → Act → World → Prop} (hgd : o.guard = none) (s x : Operand)
    (ho : o.op = .call { callee := .builtin .append, args := #[s, x], argTypes := #[33, 33] })
    (base : Nat) (v : Value) (k : List Ev) (hs : a.eval s = v) (hown : w.ownsRow base 38 5 v k.length (flat k)) (vx : Value) (hx : a.eval x = vx) (l : List Ev) (hA : EvArg w vx l) (hlen : k.length + l.length ≤ 1000000) (hbase : base ≤ w.heap.size)
    (h : ∀ v' w', w'.ownsRow base 38 5 v' (k ++ l).length (flat (k ++ l)) → Below base w w' → wpList Tryd.prog ops Q rest (a.put o.dst v') w') : wpList Tryd.prog ops Q (o :: rest) a w := by
  obtain ⟨i0, hi, hz0, hz1, hz2⟩ := info_parts infoEv
  rcases hA with ⟨rfl, rfl⟩ | ⟨ad, c, rfl, rfl⟩ | ⟨b, off, c, rfl, hE⟩
  · refine wpList_append_own_none hgd s x 33 ho base 38 i0 5 Tryd.underlying33 hi v k.length (flat k) hs hown hx (h v w (by simpa using hown) (Below.refl _ _))
  · refine wpList_append_own w hgd s x 33 ho base 38 i0 _ 5 40 Tryd.underlying33 hi hz0 hz1 hz2 rfl (by decide) v k.length (flat k) hs hown ad 0 c [] hx rfl (fun j u hu => by simp at hu) (fun u hu => by cases hu) (by unfold maxLen; omega) (by omega) hbase ?_
    intro v' w' h2 h3 _
    exact h v' w' (by rw [List.append_nil] at h2; simpa using h2) ((Below.refl base w).grown h3 hbase (fun k hk => (hown.lt k hk).1))
  · refine wpList_append_own w hgd s x 33 ho base 38 i0 _ 5 40 Tryd.underlying33 hi hz0 hz1 hz2 rfl (by decide) v k.length (flat k) hs hown ⟨b, off, none⟩ l.length c (flat l) hx (flat_length l) hE.news (flat_one l) (by unfold maxLen; omega) (by omega) hbase ?_
    intro v' w' h2 h3 _
    exact h v' w' (by rw [List.length_append, flat_append]; exact h2) ((Below.refl base w).grown h3 hbase (fun k hk => (hown.lt k hk).1))

theorem own_empty {w wr : World} (K : Below w.heap.size w wr) : (wr.alloc (.cells #[] 38)).ownsRow w.heap.size 38 5 (.slice (some ⟨wr.heap.size, 0, none⟩) 0 0) ([] : List Ev).length (flat []) := by
  refine ⟨rfl, .inr ⟨wr.heap.size, 0, #[], rfl, K.size, ?_, by simp, by simp, rfl, rfl⟩⟩
  show (wr.heap.push _)[wr.heap.size]? = _
  simp

def beqEv (e f : Ev) : Bool := e.k == f.k && (e.g == f.g && (e.m == f.m && (e.p == f.p && e.v == f.v)))
theorem beqEv_iff (e f : Ev) : beqEv e f = true ↔ e = f := by
  obtain ⟨k, g, m, p, v⟩ := e
  obtain ⟨k', g', m', p', v'⟩ := f
  simp [beqEv]
theorem fields_ev : (Tryd.prog.fieldsOf 38).toList.map (fun f => (f.name == "_", f.type, f.offset)) = [(false, 25, 0), (false, 3, 1), (false, 3, 2), (false, 3, 3), (false, 2, 4)] := by kernel_rfl
theorem eql_ev (e f : Ev) (w : World) : (binOp .eql 38 (.agg #[.int .i64 e.k, .int .i64 e.g, .int .i64 e.m, .int .i64 e.p, .int .i64 e.v]) (.agg #[.int .i64 f.k, .int .i64 f.g, .int .i64 f.m, .int .i64 f.p, .int .i64 f.v])).run Tryd.prog w = .ok (.bool (beqEv e f)) w := by
  rw [run_eql_struct, run_equalIn_struct w 9999 38 _ _ (by kernel_rfl) (by kernel_rfl)]
  simp only [Program.fieldsOf, Tryd.underlying38, Op.eqFields]
  simp [go_sem, Tryd.underlying25, Tryd.underlying3, Tryd.underlying2, Result.andThen]
  by_cases h1 : e.k = f.k <;> by_cases h2 : e.g = f.g <;> by_cases h3 : e.m = f.m <;> by_cases h4 : e.p = f.p <;> by_cases h5 : e.v = f.v <;> simp [beqEv, h1, h2, h3, h4, h5]

theorem below_drewN {B : Nat} {a w : World} (h : Below B a w) (n : Nat) : Below B a (w.drewN n) := ⟨h.os, h.tape, h.output, h.size, h.block⟩

def sameTo (l m : List Ev) (j : Nat) : Prop := l.length = m.length ∧ ∀ i, i < j → l[i]? = m[i]?


theorem text_le (l : List Ev) (hr : ∀ e ∈ l, rightOf e = true) (hv : inI64 l) : (textOf l).length ≤ l.length * 101 := by
  have := join_le (l.map wordOf) 100 (fun x hx => by obtain ⟨e, he, rfl⟩ := List.mem_map.1 hx; exact wordOf_le e (hr e he) (hv e he).1 (hv e he).2)
  rw [List.length_map] at this
  exact this
/-- How the text of two rows is made of theirs. -/
theorem text_both (l m : List Ev) : (textOf l = [] ∨ textOf m = []) ∧ textOf (l ++ m) = textOf l ++ textOf m ∨ (¬ textOf l = [] ∧ ¬ textOf m = []) ∧ textOf (l ++ m) = textOf l ++ 32 :: textOf m := by
  cases l with
  | nil => exact .inl ⟨.inl rfl, rfl⟩
  | cons e r =>
    cases m with
    | nil => exact .inl ⟨.inr rfl, by rw [List.append_nil, text_nil, List.append_nil]⟩
    | cons f s => exact .inr ⟨⟨text_ne e r, text_ne f s⟩, text_append _ _ (by simp) (by simp)⟩
theorem cat_arr (a b : List UInt8) : (⟨a.toArray⟩ : ByteArray) ++ ⟨b.toArray⟩ = ⟨(a ++ b).toArray⟩ := by
  apply ByteArray.ext
  rw [ByteArray.data_append]
  simp
end Go.Proofs.YtnkbddebafcjbaaDoor
