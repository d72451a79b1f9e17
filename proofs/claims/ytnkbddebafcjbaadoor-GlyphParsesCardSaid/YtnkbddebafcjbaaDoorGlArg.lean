/-
  A row of events that is an argument: what its reading gives; and that it reads as it did behind a call that keeps what lay below.
-/
import Derived.Deep.Slices
import Derived.Deep.Fields
import Derived.ReadAgain
import Derived.Test.YtnkbddebafcjbaaDoorGlTabs
import Derived.Test.YtnkbddebafcjbaaDoorGlJoins1
namespace Go.Proofs.YtnkbddebafcjbaaDoor
open Go Go.RowKit Go.Proofs Go.WideShapes Go.Deep

theorem spot_none {w : World} {a : Addr} {v : Value} (h : w.cell? a = some v) : a = ⟨a.block, a.off, none⟩ ∧ a.block < w.heap.size := by
  obtain ⟨b, o, s⟩ := a
  simp only [World.cell?] at h
  split at h
  · rename_i hb
    split at h
    · cases h
    · rename_i hs
      refine ⟨?_, box_lt hb⟩
      cases s with
      | none => rfl
      | some x => simp at hs
  · cases h

theorem cells_event : Tryd.prog.cellsOf 38 = 5 := by kernel_rfl
theorem i64_of {n : Int} (h : (Lit.int .i64 n).wf = true) : -9223372036854775808 ≤ n ∧ n ≤ 9223372036854775807 := by
  simp only [Lit.wf, Bool.and_eq_true, decide_eq_true_eq] at h
  exact ⟨Int.le_trans (by decide) h.1, Int.le_trans h.2 (by decide)⟩

theorem five {cs : List Value} {a b c d e : Value} (hl : cs.length = 5) (h0 : (cs.drop 0).take 1 = [a]) (h1 : (cs.drop 1).take 1 = [b]) (h2 : (cs.drop 2).take 1 = [c]) (h3 : (cs.drop 3).take 1 = [d]) (h4 : (cs.drop 4).take 1 = [e]) : cs = [a, b, c, d, e] := by
  match cs, hl with
  | [x0, x1, x2, x3, x4], _ => simp at h0 h1 h2 h3 h4; simp [h0, h1, h2, h3, h4]
set_option maxRecDepth 100000 in
theorem open_event {H : Type} {enc : TypeId × Value → H} {W : World} {fuel : Nat} {cs : List Value} {x : DataW H × List MemPlace} (h : DataW.trod enc Tryd.prog W 0 (fun _ => true) true fuel 38 cs = some x) :
    ∃ e : Ev, cs = [.int .i64 e.k, .int .i64 e.g, .int .i64 e.m, .int .i64 e.p, .int .i64 e.v] ∧ -9223372036854775808 ≤ e.v ∧ e.v ≤ 9223372036854775807 := by
  obtain ⟨xs, n, _, _, hl, hxl, hf⟩ := DataW.trod_struct Tryd.underlying38 h
  rw [cells_event] at hl
  match xs, hxl with
  | [y0, y1, y2, y3, y4], _ =>
    have h0 := hf 0 _ rfl
    have h1 := hf 1 _ rfl
    have h2 := hf 2 _ rfl
    have h3 := hf 3 _ rfl
    have h4 := hf 4 _ rfl
    have c1 : Tryd.prog.cellsOf 25 = 1 := by kernel_rfl
    have c2 : Tryd.prog.cellsOf 3 = 1 := by kernel_rfl
    have c3 : Tryd.prog.cellsOf 2 = 1 := by kernel_rfl
    simp only [List.getElem_toArray, List.getElem_cons_zero, List.getElem_cons_succ] at h0 h1 h2 h3 h4
    rw [c1] at h0
    rw [c2] at h1 h2 h3
    rw [c3] at h4
    obtain ⟨k, e0, _⟩ := DataW.trod_int Tryd.underlying25 h0
    obtain ⟨g, e1, _⟩ := DataW.trod_int Tryd.underlying3 h1
    obtain ⟨m, e2, _⟩ := DataW.trod_int Tryd.underlying3 h2
    obtain ⟨p, e3, _⟩ := DataW.trod_int Tryd.underlying3 h3
    obtain ⟨v, e4, _, hv⟩ := DataW.trod_int Tryd.underlying2 h4
    refine ⟨⟨k, g, m, p, v⟩, ?_, i64_of hv⟩
    exact five hl e0 e1 e2 e3 e4

set_option maxRecDepth 100000 in
theorem open_evs {H : Type} {enc : TypeId × Value → H} {W : World} {base : Nat} {v : Value} {d : DataW H} {p : List MemPlace} (hval : Value.okWide Tryd.prog W .any base 33 v)
    (h : DataW.Trod enc Tryd.prog W 0 (fun _ => true) true 33 v d p) : ∃ (pa : Option Addr) (ca : Nat) (l : List Ev), v = .slice pa l.length ca ∧ EvArg W (.slice pa l.length ca) l ∧ inI64 l := by
  obtain ⟨a0, len, cap, rfl⟩ := okWide_slice Tryd.underlying33 hval
  obtain ⟨fuel, hf⟩ := h
  rcases open_slice Tryd.underlying33 hf with ⟨hcs, _⟩ | ⟨a, len', cap', m, n, D, Pl, hcs, _, hl, _, hmm, _, hi⟩
  · simp [Value.cells] at hcs
    obtain ⟨rfl, rfl, rfl⟩ := hcs
    exact ⟨none, 0, [], rfl, .inl ⟨rfl, rfl⟩, fun e he => by cases he⟩
  · simp [Value.cells] at hcs
    obtain ⟨rfl, rfl, rfl⟩ := hcs
    have hm : m = cap := by simpa using hmm
    subst hm
    rw [cells_event] at hi
    have hj : ∀ j : Nat, ∃ e : Ev, j < m → (∀ i, i < 5 → W.cell? (a.add (j * 5 + i)) = [Value.int .i64 e.k, .int .i64 e.g, .int .i64 e.m, .int .i64 e.p, .int .i64 e.v][i]?) ∧ -9223372036854775808 ≤ e.v ∧ e.v ≤ 9223372036854775807 := by
      intro j
      by_cases hjm : j < m
      · obtain ⟨cs', hc, ht⟩ := hi j hjm
        obtain ⟨e, he, hv⟩ := open_event ht
        obtain ⟨_, hcl, hat⟩ := World.cells?_some hc
        refine ⟨e, fun _ => ⟨fun i hi5 => ?_, hv⟩⟩
        rw [← Go.Deep.add_add, hat i hi5, he]
      · exact ⟨⟨0, 0, 0, 0, 0⟩, fun h => absurd h hjm⟩
    obtain ⟨f, hf2⟩ := Classical.axiomOfChoice hj
    cases len with
    | zero => exact ⟨some a, m, [], rfl, .inr (.inl ⟨a, m, rfl, rfl⟩), fun e he => by cases he⟩
    | succ len =>
      have hz : W.cell? a = some (.int .i64 (f 0).k) := (hf2 0 (by omega)).1 0 (by omega)
      obtain ⟨ea, hlt⟩ := spot_none hz
      have hadd : ∀ k, a.add k = ⟨a.block, a.off + k, none⟩ := by
        intro k
        rw [ea]
        simp only [Addr.add]
        split
        · rename_i h0; subst h0; rfl
        · rfl
      have hlen : ((List.range (len + 1)).map f).length = len + 1 := by simp
      refine ⟨some a, m, (List.range (len + 1)).map f, by rw [hlen], ?_, ?_⟩
      · rw [hlen]
        have hget : ∀ (j : Nat) (e : Ev), ((List.range (len + 1)).map f)[j]? = some e → j < m ∧ e = f j := by
          intro j e he
          rw [List.getElem?_map, Option.map_eq_some_iff] at he
          obtain ⟨x, hx, rfl⟩ := he
          have hx2 := List.getElem?_eq_some_iff.1 hx
          obtain ⟨h1, h2⟩ := hx2
          simp at h1 h2
          subst h2
          exact ⟨by omega, rfl⟩
        refine .inr (.inr ⟨a.block, a.off, m, by rw [hlen, ← ea], ⟨hlt, ?_, ?_, ?_, ?_, ?_⟩⟩)
        all_goals
          intro j e he
          obtain ⟨h1, rfl⟩ := hget j e he
          have q := (hf2 j h1).1
        · have := q 0 (by omega); rw [hadd] at this; exact this
        · have := q 1 (by omega); rw [hadd] at this; exact this
        · have := q 2 (by omega); rw [hadd] at this; exact this
        · have := q 3 (by omega); rw [hadd] at this; exact this
        · have := q 4 (by omega); rw [hadd] at this; exact this
      · intro e he
        rw [List.mem_map] at he
        obtain ⟨j, hjr, rfl⟩ := he
        exact (hf2 j (by have := List.mem_range.1 hjr; omega)).2

theorem kids : Kids Tryd.prog (· < Tryd.prog.types.size) := kids_rows (by kernel_rfl) (by kernel_rfl)
theorem full : ∀ t e, t < Tryd.prog.types.size → Tryd.prog.underlying t = some (.slice e) → 0 < Tryd.prog.cellsOf e := slices_full_of Tryd.prog (by kernel_rfl)

theorem trodAll_carry {H : Type} {enc : TypeId × Value → H} {W W' : World} {base : Nat} {sp : Nat → Bool} {held : Bool} : ∀ {ts : List TypeId} {vs : List Value} {ds : List (DataW H)} {ps : List MemPlace},
    DataW.TrodAll enc Tryd.prog W base sp held ts vs ds ps → (∀ p ∈ ps, W.sameAt W' p) → DataW.TrodAll enc Tryd.prog W' base sp held ts vs ds ps
  | [], [], [], _, h, _ => h
  | _ :: _, _ :: _, _ :: _, _, ⟨p, q, ⟨n, h1⟩, h2, e⟩, hs =>
    ⟨p, q, ⟨n, DataW.trod_carry n _ _ _ h1 (fun x hx => hs x (by rw [e]; exact List.mem_append_left _ hx))⟩, trodAll_carry h2 (fun x hx => hs x (by rw [e]; exact List.mem_append_right _ hx)), e⟩
end Go.Proofs.YtnkbddebafcjbaaDoor
