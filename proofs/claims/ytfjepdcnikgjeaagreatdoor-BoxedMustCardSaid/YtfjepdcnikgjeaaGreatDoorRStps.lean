/-
  Rows of the document's steps: as they lie in the heap; as a row of the call's own; appended.
-/
import Derived.Test.YtfjepdcnikgjeaaGreatDoorStps
set_option linter.unusedVariables false
set_option linter.unusedSimpArgs false
set_option linter.unusedSectionVars false
namespace Go.Proofs.YtfjepdcnikgjeaaGreatDoor
open Go Go.RowKit Hst Go.Proofs Go.WideShapes Go.Deep

def encRs (e : Hst.Stp) : List Value := [.int .u8 (e.kind : Nat), .int .u8 (e.act : Nat), .int .i64 e.a, .int .i64 e.x, .int .i64 e.d]
def encRss (l : List Hst.Stp) : List Value := l.flatMap encRs

/-- A row of events as it lies in the heap. -/
structure RsCells (w : World) (b o : Nat) (l : List Hst.Stp) : Prop where
  lt : b < w.heap.size
  ck : ∀ j e, l[j]? = some e → w.cell? ⟨b, o + j * 5, none⟩ = some (.int .u8 (e.kind : Nat))
  cg : ∀ j e, l[j]? = some e → w.cell? ⟨b, o + j * 5 + 1, none⟩ = some (.int .u8 (e.act : Nat))
  cm : ∀ j e, l[j]? = some e → w.cell? ⟨b, o + j * 5 + 2, none⟩ = some (.int .i64 e.a)
  cp : ∀ j e, l[j]? = some e → w.cell? ⟨b, o + j * 5 + 3, none⟩ = some (.int .i64 e.x)
  cv : ∀ j e, l[j]? = some e → w.cell? ⟨b, o + j * 5 + 4, none⟩ = some (.int .i64 e.d)

theorem RsCells.below {w w' : World} {b o : Nat} {l : List Hst.Stp} (h : RsCells w b o l) {B : Nat} (hB : b < B) (hb : Below B w w') : RsCells w' b o l where
  lt := Nat.lt_of_lt_of_le h.lt hb.size
  ck j e he := (below_cell hb hB).trans (h.ck j e he)
  cg j e he := (below_cell hb hB).trans (h.cg j e he)
  cm j e he := (below_cell hb hB).trans (h.cm j e he)
  cp j e he := (below_cell hb hB).trans (h.cp j e he)
  cv j e he := (below_cell hb hB).trans (h.cv j e he)

/-- An argument that is a row of events. -/
def RsArg (w : World) (v : Value) (l : List Hst.Stp) : Prop :=
  (v = .slice none 0 0 ∧ l = []) ∨ (∃ a c, v = .slice (some a) 0 c ∧ l = []) ∨ ∃ b o c, v = .slice (some ⟨b, o, none⟩) l.length c ∧ RsCells w b o l
theorem RsArg.below {w w' : World} {v : Value} {l : List Hst.Stp} (h : RsArg w v l) (hb : Below w.heap.size w w') : RsArg w' v l := by
  rcases h with h | h | ⟨b, o, c, rfl, h⟩
  · exact .inl h
  · exact .inr (.inl h)
  · exact .inr (.inr ⟨b, o, c, rfl, h.below h.lt hb⟩)
theorem encRss_len (l : List Hst.Stp) : (encRss l).length = l.length * 5 := by
  induction l with
  | nil => rfl
  | cons e t ih => simp [encRss, encRs] at ih ⊢; omega
theorem encRss_append (l m : List Hst.Stp) : encRss (l ++ m) = encRss l ++ encRss m := by simp [encRss]
theorem encRss_at (l : List Hst.Stp) (j : Nat) (e : Hst.Stp) (h : l[j]? = some e) : (encRss l)[j * 5]? = some (.int .u8 (e.kind : Nat)) ∧ (encRss l)[j * 5 + 1]? = some (.int .u8 (e.act : Nat)) ∧ (encRss l)[j * 5 + 2]? = some (.int .i64 e.a) ∧ (encRss l)[j * 5 + 3]? = some (.int .i64 e.x) ∧ (encRss l)[j * 5 + 4]? = some (.int .i64 e.d) := by
  induction l generalizing j with
  | nil => cases h
  | cons a r ih =>
    cases j with
    | zero => simp at h; subst h; simp [encRss, encRs]
    | succ j =>
      have := ih j (by simpa using h)
      have e5 : ∀ k, (encRss (a :: r))[(j + 1) * 5 + k]? = (encRss r)[j * 5 + k]? := by
        intro k
        rw [show (j + 1) * 5 + k = j * 5 + k + 5 by omega]
        rfl
      exact ⟨(e5 0).trans this.1, (e5 1).trans this.2.1, (e5 2).trans this.2.2.1, (e5 3).trans this.2.2.2.1, (e5 4).trans this.2.2.2.2⟩
theorem RsCells.news {w : World} {b o : Nat} {l : List Hst.Stp} (h : RsCells w b o l) (j : Nat) (u : Value) (hu : (encRss l)[j]? = some u) : w.cell? ((⟨b, o, none⟩ : Addr).add j) = some u := by
  have hj : j < l.length * 5 := by rw [← encRss_len]; exact (List.getElem?_eq_some_iff.1 hu).1
  have hq : j / 5 < l.length := by omega
  obtain ⟨e, he⟩ : ∃ e, l[j / 5]? = some e := ⟨_, List.getElem?_eq_getElem hq⟩
  obtain ⟨f0, f1, f2, f3, f4⟩ := encRss_at l (j / 5) e he
  have hm : j % 5 < 5 := Nat.mod_lt _ (by omega)
  have ej : j = j / 5 * 5 + j % 5 := by omega
  rw [show (⟨b, o, none⟩ : Addr).add j = ⟨b, o + j, none⟩ by simp [Addr.add]]
  generalize hx : j / 5 = x at *
  generalize hy : j % 5 = y at *
  rw [ej, ← Nat.add_assoc]
  rw [ej] at hu
  match y, hm with
  | 0, _ => rw [← hu]; exact (h.ck x e he).trans f0.symm
  | 1, _ => rw [← hu]; exact (h.cg x e he).trans f1.symm
  | 2, _ => rw [← hu]; exact (h.cm x e he).trans f2.symm
  | 3, _ => rw [← hu]; exact (h.cp x e he).trans f3.symm
  | 4, _ => rw [← hu]; exact (h.cv x e he).trans f4.symm
theorem encRss_one (l : List Hst.Stp) : ∀ u ∈ encRss l, u.oneCell' = true := by
  intro u hu
  simp only [encRss, List.mem_flatMap] at hu
  obtain ⟨e, _, hu⟩ := hu
  simp only [encRs, List.mem_cons, List.not_mem_nil, or_false] at hu
  rcases hu with rfl | rfl | rfl | rfl | rfl <;> rfl
/-- A row of the call's own that holds events is an argument to Print. -/
theorem own_rsarg {w : World} {B : Nat} {v : Value} {l : List Hst.Stp} (h : w.ownsRow B 48 5 v l.length (encRss l)) : RsArg w v l := by
  rcases h.2 with ⟨rfl, h0⟩ | ⟨g, cap, cur, rfl, hbg, hg, hnc, hcm, hcs, htk⟩
  · exact .inl ⟨rfl, List.length_eq_zero_iff.1 h0⟩
  · refine .inr (.inr ⟨g, 0, cap, rfl, box_lt hg, ?_, ?_, ?_, ?_, ?_⟩)
    · intro j e he; rw [Nat.zero_add]; exact own_cell hg htk _ _ (encRss_at l j e he).1
    · intro j e he; rw [Nat.zero_add]; exact own_cell hg htk _ _ (encRss_at l j e he).2.1
    · intro j e he; rw [Nat.zero_add]; exact own_cell hg htk _ _ (encRss_at l j e he).2.2.1
    · intro j e he; rw [Nat.zero_add]; exact own_cell hg htk _ _ (encRss_at l j e he).2.2.2.1
    · intro j e he; rw [Nat.zero_add]; exact own_cell hg htk _ _ (encRss_at l j e he).2.2.2.2

theorem infoRs2 : (Tryz.prog.info? 48).map (fun i => (i.zero, i.size, i.bytes)) = some (some (.agg #[.int .u8 0, .int .u8 0, .int .i64 0, .int .i64 0, .int .i64 0]), 5, 32) := by kernel_rfl

theorem append_rs {w : World} {ops : Array Oper} {rest : List Oper} {o : Oper} {a : Act} {Q : Exit → Act → World → Prop} (hgd : o.guard = none) (s x : Operand)
    (ho : o.op = .call { callee := .builtin .append, args := #[s, x], argTypes := #[90, 90] })
    (base : Nat) (v : Value) (k : List Hst.Stp) (hs : a.eval s = v) (hown : w.ownsRow base 48 5 v k.length (encRss k)) (vx : Value) (hx : a.eval x = vx) (l : List Hst.Stp) (hA : RsArg w vx l) (hlen : k.length + l.length ≤ 1000000) (hbase : base ≤ w.heap.size)
    (h : ∀ v' w', w'.ownsRow base 48 5 v' (k ++ l).length (encRss (k ++ l)) → Below base w w' → wpList Tryz.prog ops Q rest (a.put o.dst v') w') : wpList Tryz.prog ops Q (o :: rest) a w := by
  obtain ⟨i0, hi, hz0, hz1, hz2⟩ := info_parts infoRs2
  rcases hA with ⟨rfl, rfl⟩ | ⟨ad, c, rfl, rfl⟩ | ⟨b, off, c, rfl, hE⟩
  · refine wpList_append_own_none hgd s x 90 ho base 48 i0 5 Tryz.underlying90 hi v k.length (encRss k) hs hown hx (h v w (by simpa using hown) (Below.refl _ _))
  · refine wpList_append_own w hgd s x 90 ho base 48 i0 _ 5 32 Tryz.underlying90 hi hz0 hz1 hz2 rfl (by decide) v k.length (encRss k) hs hown ad 0 c [] hx rfl (fun j u hu => by simp at hu) (fun u hu => by cases hu) (by unfold maxLen; omega) (by omega) hbase ?_
    intro v' w' h2 h3 _
    exact h v' w' (by rw [List.append_nil] at h2; simpa using h2) ((Below.refl base w).grown h3 hbase (fun k hk => (hown.lt k hk).1))
  · refine wpList_append_own w hgd s x 90 ho base 48 i0 _ 5 32 Tryz.underlying90 hi hz0 hz1 hz2 rfl (by decide) v k.length (encRss k) hs hown ⟨b, off, none⟩ l.length c (encRss l) hx (encRss_len l) hE.news (encRss_one l) (by unfold maxLen; omega) (by omega) hbase ?_
    intro v' w' h2 h3 _
    exact h v' w' (by rw [List.length_append, encRss_append]; exact h2) ((Below.refl base w).grown h3 hbase (fun k hk => (hown.lt k hk).1))

theorem own_rsempty {w wr : World} (K : Below w.heap.size w wr) : (wr.alloc (.cells #[] 48)).ownsRow w.heap.size 48 5 (.slice (some ⟨wr.heap.size, 0, none⟩) 0 0) ([] : List Hst.Stp).length (encRss []) := by
  refine ⟨rfl, .inr ⟨wr.heap.size, 0, #[], rfl, K.size, ?_, by simp, by simp, rfl, rfl⟩⟩
  show (wr.heap.push _)[wr.heap.size]? = _
  simp

theorem rsArg_slice {w : World} {v : Value} {l : List Hst.Stp} (h : RsArg w v l) : ∃ a c, v = .slice a l.length c ∧ (l = [] ∨ ∃ b o, a = some ⟨b, o, none⟩ ∧ RsCells w b o l) := by
  rcases h with ⟨rfl, rfl⟩ | ⟨a, c, rfl, rfl⟩ | ⟨b, o, c, rfl, h⟩
  · exact ⟨none, 0, rfl, .inl rfl⟩
  · exact ⟨some a, c, rfl, .inl rfl⟩
  · exact ⟨_, c, rfl, .inr ⟨b, o, rfl, h⟩⟩
end Go.Proofs.YtfjepdcnikgjeaaGreatDoor
