/-
  Rows of events: as they lie in the heap; as an argument; as a row of the call's own; appended. What an argument's reading gives.
-/
import Derived.Deep.Slices
import Derived.Deep.Fields
import Derived.ReadAgain
import Derived.WalkLawsBesides
import Derived.Laws.AppendOwnNone
import Derived.Test.YtfjepdcnikgjeaaGreatDoorLaid
import Derived.Test.YtfjepdcnikgjeaaGreatDoorFounds
set_option linter.unusedVariables false
set_option linter.unusedSimpArgs false
set_option linter.unusedSectionVars false
namespace Go.Proofs.YtfjepdcnikgjeaaGreatDoor
open Go Go.RowKit Hst Go.Proofs Go.WideShapes Go.Deep

/-- A row of events as it lies in the heap. -/
structure EvCells (w : World) (b o : Nat) (l : List Hst.Ev) : Prop where
  lt : b < w.heap.size
  ck : ∀ j e, l[j]? = some e → w.cell? ⟨b, o + j * 5, none⟩ = some (.int .i64 e.kind)
  cg : ∀ j e, l[j]? = some e → w.cell? ⟨b, o + j * 5 + 1, none⟩ = some (.int .i64 e.g)
  cm : ∀ j e, l[j]? = some e → w.cell? ⟨b, o + j * 5 + 2, none⟩ = some (.int .i64 e.m)
  cp : ∀ j e, l[j]? = some e → w.cell? ⟨b, o + j * 5 + 3, none⟩ = some (.int .i64 e.p)
  cv : ∀ j e, l[j]? = some e → w.cell? ⟨b, o + j * 5 + 4, none⟩ = some (.int .i64 e.value)

theorem EvCells.below {w w' : World} {b o : Nat} {l : List Hst.Ev} (h : EvCells w b o l) {B : Nat} (hB : b < B) (hb : Below B w w') : EvCells w' b o l where
  lt := Nat.lt_of_lt_of_le h.lt hb.size
  ck j e he := (below_cell hb hB).trans (h.ck j e he)
  cg j e he := (below_cell hb hB).trans (h.cg j e he)
  cm j e he := (below_cell hb hB).trans (h.cm j e he)
  cp j e he := (below_cell hb hB).trans (h.cp j e he)
  cv j e he := (below_cell hb hB).trans (h.cv j e he)

theorem own_cell {W : World} {g : Nat} {e : TypeId} {cur : Array Value} {xs : List Value} {n : Nat} (hg : W.heap[g]? = some (.cells cur e (0, 0))) (htk : cur.toList.take n = xs) (j : Nat) (u : Value) (hu : xs[j]? = some u) : W.cell? ⟨g, j, none⟩ = some u := by
  rw [box_cell hg, ← Array.getElem?_toList]
  rw [← htk, List.getElem?_take] at hu
  split at hu
  · exact hu
  · cases hu

theorem own_below {B e size n : Nat} {v : Value} {xs : List Value} {W W' : World} (h : W.ownsRow B e size v n xs) (hb : Below W.heap.size W W') : W'.ownsRow B e size v n xs := by
  refine ⟨h.1, ?_⟩
  rcases h.2 with hn | ⟨g, cap, cur, hv, hbg, hg, rest⟩
  · exact .inl hn
  · exact .inr ⟨g, cap, cur, hv, hbg, (below_heap hb (box_lt hg)).trans hg, rest⟩
/-- An argument that is a row of events. -/
def EvArg (w : World) (v : Value) (l : List Hst.Ev) : Prop :=
  (v = .slice none 0 0 ∧ l = []) ∨ (∃ a c, v = .slice (some a) 0 c ∧ l = []) ∨ ∃ b o c, v = .slice (some ⟨b, o, none⟩) l.length c ∧ EvCells w b o l
theorem EvArg.below {w w' : World} {v : Value} {l : List Hst.Ev} (h : EvArg w v l) (hb : Below w.heap.size w w') : EvArg w' v l := by
  rcases h with h | h | ⟨b, o, c, rfl, h⟩
  · exact .inl h
  · exact .inr (.inl h)
  · exact .inr (.inr ⟨b, o, c, rfl, h.below h.lt hb⟩)
def i64I (x : Int) : Prop := -9223372036854775808 ≤ x ∧ x ≤ 9223372036854775807
def ev64 (e : Hst.Ev) : Prop := i64I e.kind ∧ i64I e.g ∧ i64I e.m ∧ i64I e.p ∧ i64I e.value
def inI64 (l : List Hst.Ev) : Prop := ∀ e ∈ l, ev64 e

theorem encEs_at (l : List Hst.Ev) (j : Nat) (e : Hst.Ev) (h : l[j]? = some e) : (encEs l)[j * 5]? = some (.int .i64 e.kind) ∧ (encEs l)[j * 5 + 1]? = some (.int .i64 e.g) ∧ (encEs l)[j * 5 + 2]? = some (.int .i64 e.m) ∧ (encEs l)[j * 5 + 3]? = some (.int .i64 e.p) ∧ (encEs l)[j * 5 + 4]? = some (.int .i64 e.value) := by
  induction l generalizing j with
  | nil => cases h
  | cons a r ih =>
    cases j with
    | zero => simp at h; subst h; simp [encEs, encE]
    | succ j =>
      have := ih j (by simpa using h)
      have e5 : ∀ k, (encEs (a :: r))[(j + 1) * 5 + k]? = (encEs r)[j * 5 + k]? := by
        intro k
        rw [show (j + 1) * 5 + k = j * 5 + k + 5 by omega]
        rfl
      exact ⟨(e5 0).trans this.1, (e5 1).trans this.2.1, (e5 2).trans this.2.2.1, (e5 3).trans this.2.2.2.1, (e5 4).trans this.2.2.2.2⟩
theorem EvCells.news {w : World} {b o : Nat} {l : List Hst.Ev} (h : EvCells w b o l) (j : Nat) (u : Value) (hu : (encEs l)[j]? = some u) : w.cell? ((⟨b, o, none⟩ : Addr).add j) = some u := by
  have hj : j < l.length * 5 := by rw [← encEs_len]; exact (List.getElem?_eq_some_iff.1 hu).1
  have hq : j / 5 < l.length := by omega
  obtain ⟨e, he⟩ : ∃ e, l[j / 5]? = some e := ⟨_, List.getElem?_eq_getElem hq⟩
  obtain ⟨f0, f1, f2, f3, f4⟩ := encEs_at l (j / 5) e he
  have hm : j % 5 < 5 := Nat.mod_lt _ (by omega)
  have ej : j = j / 5 * 5 + j % 5 := by omega
  rw [show (⟨b, o, none⟩ : Addr).add j = ⟨b, o + j, none⟩ by simp [Addr.add]]
  generalize hx : j / 5 = x at *
  generalize hy : j % 5 = y at *
  rw [ej, ← Nat.add_assoc]
  rw [ej] at hu
  match y, hm with
  | 0, _ => rw [← hu]; exact (h.ck x e he).trans f0.symm
  | 1, _ => rw [← hu]; exact (h.cg x e he).trans f1.symm
  | 2, _ => rw [← hu]; exact (h.cm x e he).trans f2.symm
  | 3, _ => rw [← hu]; exact (h.cp x e he).trans f3.symm
  | 4, _ => rw [← hu]; exact (h.cv x e he).trans f4.symm
theorem encEs_one (l : List Hst.Ev) : ∀ u ∈ encEs l, u.oneCell' = true := by
  intro u hu
  simp only [encEs, List.mem_flatMap] at hu
  obtain ⟨e, _, hu⟩ := hu
  simp only [encE, List.mem_cons, List.not_mem_nil, or_false] at hu
  rcases hu with rfl | rfl | rfl | rfl | rfl <;> rfl
/-- A row of the call's own that holds events is an argument to Print. -/
theorem own_arg {w : World} {B : Nat} {v : Value} {l : List Hst.Ev} (h : w.ownsRow B 43 5 v l.length (encEs l)) : EvArg w v l := by
  rcases h.2 with ⟨rfl, h0⟩ | ⟨g, cap, cur, rfl, hbg, hg, hnc, hcm, hcs, htk⟩
  · exact .inl ⟨rfl, List.length_eq_zero_iff.1 h0⟩
  · refine .inr (.inr ⟨g, 0, cap, rfl, box_lt hg, ?_, ?_, ?_, ?_, ?_⟩)
    · intro j e he; rw [Nat.zero_add]; exact own_cell hg htk _ _ (encEs_at l j e he).1
    · intro j e he; rw [Nat.zero_add]; exact own_cell hg htk _ _ (encEs_at l j e he).2.1
    · intro j e he; rw [Nat.zero_add]; exact own_cell hg htk _ _ (encEs_at l j e he).2.2.1
    · intro j e he; rw [Nat.zero_add]; exact own_cell hg htk _ _ (encEs_at l j e he).2.2.2.1
    · intro j e he; rw [Nat.zero_add]; exact own_cell hg htk _ _ (encEs_at l j e he).2.2.2.2

theorem infoEv2 : (Tryz.prog.info? 43).map (fun i => (i.zero, i.size, i.bytes)) = some (some (.agg #[.int .i64 0, .int .i64 0, .int .i64 0, .int .i64 0, .int .i64 0]), 5, 40) := by kernel_rfl

theorem append_ev {w : World} {ops : Array Oper} {rest : List Oper} {o : Oper} {a : Act} {Q : Exit → Act → World → Prop} (hgd : o.guard = none) (s x : Operand)
    (ho : o.op = .call { callee := .builtin .append, args := #[s, x], argTypes := #[60, 60] })
    (base : Nat) (v : Value) (k : List Hst.Ev) (hs : a.eval s = v) (hown : w.ownsRow base 43 5 v k.length (encEs k)) (vx : Value) (hx : a.eval x = vx) (l : List Hst.Ev) (hA : EvArg w vx l) (hlen : k.length + l.length ≤ 1000000) (hbase : base ≤ w.heap.size)
    (h : ∀ v' w', w'.ownsRow base 43 5 v' (k ++ l).length (encEs (k ++ l)) → Below base w w' → wpList Tryz.prog ops Q rest (a.put o.dst v') w') : wpList Tryz.prog ops Q (o :: rest) a w := by
  obtain ⟨i0, hi, hz0, hz1, hz2⟩ := info_parts infoEv2
  rcases hA with ⟨rfl, rfl⟩ | ⟨ad, c, rfl, rfl⟩ | ⟨b, off, c, rfl, hE⟩
  · refine wpList_append_own_none hgd s x 60 ho base 43 i0 5 Tryz.underlying60 hi v k.length (encEs k) hs hown hx (h v w (by simpa using hown) (Below.refl _ _))
  · refine wpList_append_own w hgd s x 60 ho base 43 i0 _ 5 40 Tryz.underlying60 hi hz0 hz1 hz2 rfl (by decide) v k.length (encEs k) hs hown ad 0 c [] hx rfl (fun j u hu => by simp at hu) (fun u hu => by cases hu) (by unfold maxLen; omega) (by omega) hbase ?_
    intro v' w' h2 h3 _
    exact h v' w' (by rw [List.append_nil] at h2; simpa using h2) ((Below.refl base w).grown h3 hbase (fun k hk => (hown.lt k hk).1))
  · refine wpList_append_own w hgd s x 60 ho base 43 i0 _ 5 40 Tryz.underlying60 hi hz0 hz1 hz2 rfl (by decide) v k.length (encEs k) hs hown ⟨b, off, none⟩ l.length c (encEs l) hx (encEs_len l) hE.news (encEs_one l) (by unfold maxLen; omega) (by omega) hbase ?_
    intro v' w' h2 h3 _
    exact h v' w' (by rw [List.length_append, encEs_append]; exact h2) ((Below.refl base w).grown h3 hbase (fun k hk => (hown.lt k hk).1))

theorem own_empty {w wr : World} (K : Below w.heap.size w wr) : (wr.alloc (.cells #[] 43)).ownsRow w.heap.size 43 5 (.slice (some ⟨wr.heap.size, 0, none⟩) 0 0) ([] : List Hst.Ev).length (encEs []) := by
  refine ⟨rfl, .inr ⟨wr.heap.size, 0, #[], rfl, K.size, ?_, by simp, by simp, rfl, rfl⟩⟩
  show (wr.heap.push _)[wr.heap.size]? = _
  simp

theorem cells_event : Tryz.prog.cellsOf 43 = 5 := by kernel_rfl
theorem five {cs : List Value} {a b c d e : Value} (hl : cs.length = 5) (h0 : (cs.drop 0).take 1 = [a]) (h1 : (cs.drop 1).take 1 = [b]) (h2 : (cs.drop 2).take 1 = [c]) (h3 : (cs.drop 3).take 1 = [d]) (h4 : (cs.drop 4).take 1 = [e]) : cs = [a, b, c, d, e] := by
  match cs, hl with
  | [x0, x1, x2, x3, x4], _ => simp at h0 h1 h2 h3 h4; simp [h0, h1, h2, h3, h4]
set_option maxRecDepth 100000 in
theorem open_event {H : Type} {enc : TypeId × Value → H} {W : World} {fuel : Nat} {cs : List Value} {x : DataW H × List MemPlace} (h : DataW.trod enc Tryz.prog W 0 (fun _ => true) true fuel 43 cs = some x) :
    ∃ e : Hst.Ev, cs = [.int .i64 e.kind, .int .i64 e.g, .int .i64 e.m, .int .i64 e.p, .int .i64 e.value] ∧ ev64 e := by
  obtain ⟨xs, n, _, _, hl, hxl, hf⟩ := DataW.trod_struct Tryz.underlying43 h
  rw [cells_event] at hl
  match xs, hxl with
  | [y0, y1, y2, y3, y4], _ =>
    have h0 := hf 0 _ rfl
    have h1 := hf 1 _ rfl
    have h2 := hf 2 _ rfl
    have h3 := hf 3 _ rfl
    have h4 := hf 4 _ rfl
    have c1 : Tryz.prog.cellsOf 41 = 1 := by kernel_rfl
    have c2 : Tryz.prog.cellsOf 3 = 1 := by kernel_rfl
    have c3 : Tryz.prog.cellsOf 2 = 1 := by kernel_rfl
    simp only [List.getElem_toArray, List.getElem_cons_zero, List.getElem_cons_succ] at h0 h1 h2 h3 h4
    rw [c1] at h0
    rw [c2] at h1 h2 h3
    rw [c3] at h4
    obtain ⟨k, e0, _, hk⟩ := DataW.trod_int Tryz.underlying41 h0
    obtain ⟨g, e1, _, hg⟩ := DataW.trod_int Tryz.underlying3 h1
    obtain ⟨m, e2, _, hm⟩ := DataW.trod_int Tryz.underlying3 h2
    obtain ⟨p, e3, _, hp⟩ := DataW.trod_int Tryz.underlying3 h3
    obtain ⟨v, e4, _, hv⟩ := DataW.trod_int Tryz.underlying2 h4
    refine ⟨⟨k, g, m, p, v⟩, ?_, i64_of hk, i64_of hg, i64_of hm, i64_of hp, i64_of hv⟩
    exact five hl e0 e1 e2 e3 e4

set_option maxRecDepth 100000 in
theorem open_evs {H : Type} {enc : TypeId × Value → H} {W : World} {base : Nat} {v : Value} {d : DataW H} {p : List MemPlace} (hval : Value.okWide Tryz.prog W .any base 60 v)
    (h : DataW.Trod enc Tryz.prog W 0 (fun _ => true) true 60 v d p) : ∃ (pa : Option Addr) (ca : Nat) (l : List Hst.Ev), v = .slice pa l.length ca ∧ EvArg W (.slice pa l.length ca) l ∧ inI64 l := by
  obtain ⟨a0, len, cap, rfl⟩ := okWide_slice Tryz.underlying60 hval
  obtain ⟨fuel, hf⟩ := h
  rcases open_slice Tryz.underlying60 hf with ⟨hcs, _⟩ | ⟨a, len', cap', m, n, D, Pl, hcs, _, hl, _, hmm, _, hi⟩
  · simp [Value.cells] at hcs
    obtain ⟨rfl, rfl, rfl⟩ := hcs
    exact ⟨none, 0, [], rfl, .inl ⟨rfl, rfl⟩, fun e he => by cases he⟩
  · simp [Value.cells] at hcs
    obtain ⟨rfl, rfl, rfl⟩ := hcs
    have hm : m = cap := by simpa using hmm
    subst hm
    rw [cells_event] at hi
    have hj : ∀ j : Nat, ∃ e : Hst.Ev, j < m → (∀ i, i < 5 → W.cell? (a.add (j * 5 + i)) = [Value.int .i64 e.kind, .int .i64 e.g, .int .i64 e.m, .int .i64 e.p, .int .i64 e.value][i]?) ∧ ev64 e := by
      intro j
      by_cases hjm : j < m
      · obtain ⟨cs', hc, ht⟩ := hi j hjm
        obtain ⟨e, he, hv⟩ := open_event ht
        obtain ⟨_, hcl, hat⟩ := World.cells?_some hc
        refine ⟨e, fun _ => ⟨fun i hi5 => ?_, hv⟩⟩
        rw [← Go.Deep.add_add, hat i hi5, he]
      · exact ⟨⟨0, 0, 0, 0, 0⟩, fun h => absurd h hjm⟩
    obtain ⟨f, hf2⟩ := Classical.axiomOfChoice hj
    cases len with
    | zero => exact ⟨some a, m, [], rfl, .inr (.inl ⟨a, m, rfl, rfl⟩), fun e he => by cases he⟩
    | succ len =>
      have hz : W.cell? a = some (.int .i64 (f 0).kind) := (hf2 0 (by omega)).1 0 (by omega)
      obtain ea := spot_none hz
      have hlt : a.block < W.heap.size := World.block_lt_of_cell? W _ hz
      have hadd : ∀ k, a.add k = ⟨a.block, a.off + k, none⟩ := by
        intro k
        rw [ea]
        simp only [Addr.add]
        split
        · rename_i h0; subst h0; rfl
        · rfl
      have hlen : ((List.range (len + 1)).map f).length = len + 1 := by simp
      refine ⟨some a, m, (List.range (len + 1)).map f, by rw [hlen], ?_, ?_⟩
      · rw [hlen]
        have hget : ∀ (j : Nat) (e : Hst.Ev), ((List.range (len + 1)).map f)[j]? = some e → j < m ∧ e = f j := by
          intro j e he
          rw [List.getElem?_map, Option.map_eq_some_iff] at he
          obtain ⟨x, hx, rfl⟩ := he
          have hx2 := List.getElem?_eq_some_iff.1 hx
          obtain ⟨h1, h2⟩ := hx2
          simp at h1 h2
          subst h2
          exact ⟨by omega, rfl⟩
        refine .inr (.inr ⟨a.block, a.off, m, by rw [hlen, ← ea], ⟨hlt, ?_, ?_, ?_, ?_, ?_⟩⟩)
        all_goals
          intro j e he
          obtain ⟨h1, rfl⟩ := hget j e he
          have q := (hf2 j h1).1
        · have := q 0 (by omega); rw [hadd] at this; exact this
        · have := q 1 (by omega); rw [hadd] at this; exact this
        · have := q 2 (by omega); rw [hadd] at this; exact this
        · have := q 3 (by omega); rw [hadd] at this; exact this
        · have := q 4 (by omega); rw [hadd] at this; exact this
      · intro e he
        rw [List.mem_map] at he
        obtain ⟨j, hjr, rfl⟩ := he
        exact (hf2 j (by have := List.mem_range.1 hjr; omega)).2

theorem kids : Kids Tryz.prog (· < Tryz.prog.types.size) := kids_rows (by kernel_rfl) (by kernel_rfl)
theorem full : ∀ t e, t < Tryz.prog.types.size → Tryz.prog.underlying t = some (.slice e) → 0 < Tryz.prog.cellsOf e := slices_full_of Tryz.prog (by kernel_rfl)

theorem trodAll_carry {H : Type} {enc : TypeId × Value → H} {W W' : World} {base : Nat} {sp : Nat → Bool} {held : Bool} : ∀ {ts : List TypeId} {vs : List Value} {ds : List (DataW H)} {ps : List MemPlace},
    DataW.TrodAll enc Tryz.prog W base sp held ts vs ds ps → (∀ p ∈ ps, W.sameAt W' p) → DataW.TrodAll enc Tryz.prog W' base sp held ts vs ds ps
  | [], [], [], _, h, _ => h
  | _ :: _, _ :: _, _ :: _, _, ⟨p, q, ⟨n, h1⟩, h2, e⟩, hs =>
    ⟨p, q, ⟨n, DataW.trod_carry n _ _ _ h1 (fun x hx => hs x (by rw [e]; exact List.mem_append_left _ hx))⟩, trodAll_carry h2 (fun x hx => hs x (by rw [e]; exact List.mem_append_right _ hx)), e⟩
end Go.Proofs.YtfjepdcnikgjeaaGreatDoor
