/-
  What the reading of a Raw, and of a row of them, gives.
-/
import Derived.Test.YtfjepdcnikgjeaaGreatDoorBoxF
set_option linter.unusedVariables false
set_option linter.unusedSimpArgs false
set_option linter.unusedSectionVars false
namespace Go.Proofs.YtfjepdcnikgjeaaGreatDoor
open Go Go.RowKit Hst Go.Proofs Go.WideShapes Go.Deep

theorem i32_of {n : Int} (h : (Lit.int .i32 n).wf = true) : -2147483648 ≤ n ∧ n ≤ 2147483647 := by
  simp only [Lit.wf, Bool.and_eq_true, decide_eq_true_eq] at h
  exact ⟨Int.le_trans (by decide) h.1, Int.le_trans h.2 (by decide)⟩
theorem seventeen {cs : List Value} {a : Value} {b c d : List Value} {n r t : Value} (hl : cs.length = 17) (h0 : (cs.drop 0).take 1 = [a]) (h1 : (cs.drop 1).take 3 = b) (h2 : (cs.drop 4).take 5 = c) (h3 : (cs.drop 9).take 5 = d) (h4 : (cs.drop 14).take 1 = [n]) (h5 : (cs.drop 15).take 1 = [r]) (h6 : (cs.drop 16).take 1 = [t]) :
    cs = [a] ++ b ++ c ++ d ++ [n] ++ [r] ++ [t] := by
  match cs, hl with
  | [x0, x1, x2, x3, x4, x5, x6, x7, x8, x9, x10, x11, x12, x13, x14, x15, x16], _ =>
    simp at h0 h4 h5 h6
    rw [← h1, ← h2, ← h3, ← h0, ← h4, ← h5, ← h6]
    rfl
/-- A Raw whose numbers are those of the program. -/
def RawT.nums (r : RawT) : Prop := r.kind ≤ 255 ∧ -2147483648 ≤ r.rune ∧ r.rune ≤ 2147483647
set_option maxRecDepth 100000 in
theorem open_raw1 {H : Type} {enc : TypeId × Value → H} {W : World} {fuel : Nat} {cs : List Value} {x : DataW H × List MemPlace} (h : DataW.trod enc Tryz.prog W 0 (fun _ => true) true fuel 45 cs = some x) :
    ∃ r : RawT, cs = (rawC r).toList ∧ r.nums := by
  obtain ⟨xs, n, _, _, hl, hxl, hf⟩ := DataW.trod_struct Tryz.underlying45 h
  have c0 : Tryz.prog.cellsOf 45 = 17 := by kernel_rfl
  rw [c0] at hl
  match xs, hxl with
  | [y0, y1, y2, y3, y4, y5, y6], _ =>
    have h0 := hf 0 _ rfl
    have h1 := hf 1 _ rfl
    have h2 := hf 2 _ rfl
    have h3 := hf 3 _ rfl
    have h4 := hf 4 _ rfl
    have h5 := hf 5 _ rfl
    have h6 := hf 6 _ rfl
    have k0 : Tryz.prog.cellsOf 5 = 1 := by kernel_rfl
    have k1 : Tryz.prog.cellsOf 24 = 3 := by kernel_rfl
    have k2 : Tryz.prog.cellsOf 40 = 5 := by kernel_rfl
    have k3 : Tryz.prog.cellsOf 43 = 5 := by kernel_rfl
    have k4 : Tryz.prog.cellsOf 3 = 1 := by kernel_rfl
    have k5 : Tryz.prog.cellsOf 21 = 1 := by kernel_rfl
    have k6 : Tryz.prog.cellsOf 9 = 1 := by kernel_rfl
    simp only [List.getElem_toArray, List.getElem_cons_zero, List.getElem_cons_succ] at h0 h1 h2 h3 h4 h5 h6
    rw [k0] at h0
    rw [k1] at h1
    rw [k2] at h2
    rw [k3] at h3
    rw [k4] at h4
    rw [k5] at h5
    rw [k6] at h6
    obtain ⟨k, e0, _, hk⟩ := DataW.trod_int Tryz.underlying5 h0
    obtain ⟨z0, z1, z2, m, _, hl3, g0, g1, g2⟩ := Deep.trod_struct3 Tryz.underlying24 h1
    rw [k1] at hl3
    obtain ⟨p, f0, _⟩ := DataW.trod_int (k := .i64) (by kernel_rfl) g0
    obtain ⟨q, f1, _⟩ := DataW.trod_int (k := .i64) (by kernel_rfl) g1
    obtain ⟨g, f2, _⟩ := DataW.trod_int (k := .i64) (by kernel_rfl) g2
    dsimp only at f0 f1 f2
    rw [k4] at f0 f1 f2
    have ec := three hl3 f0 f1 f2
    obtain ⟨s, es, _⟩ := open_st h2
    obtain ⟨e, ee, _⟩ := open_event h3
    obtain ⟨nm, e4, _⟩ := DataW.trod_int Tryz.underlying3 h4
    obtain ⟨ru, e5, _, hru⟩ := DataW.trod_int Tryz.underlying21 h5
    obtain ⟨tx, e6, _⟩ := DataW.trod_string Tryz.underlying9 h6
    have hk2 := u8_of hk
    obtain ⟨k', rfl⟩ : ∃ k' : Nat, k = k' := ⟨k.toNat, by omega⟩
    refine ⟨⟨k', p, q, g, s, e, nm, ru, tx⟩, ?_, ⟨by show k' ≤ 255; omega, i32_of hru⟩⟩
    have := seventeen hl e0 ec es ee e4 e5 e6
    rw [this]
    rfl
set_option maxRecDepth 100000 in
theorem open_raws {H : Type} {enc : TypeId × Value → H} {W : World} {base : Nat} {v : Value} {d : DataW H} {p : List MemPlace} (hval : Value.okWide Tryz.prog W .any base 47 v)
    (h : DataW.Trod enc Tryz.prog W 0 (fun _ => true) true 47 v d p) : ∃ (pa : Option Addr) (ca : Nat) (l : List RawT), v = .slice pa l.length ca ∧ RawArg W (.slice pa l.length ca) l ∧ ((∀ r ∈ l, r.nums) ∧ l.length ≤ 9223372036854775807) := by
  obtain ⟨a0, len, cap, rfl⟩ := okWide_slice Tryz.underlying47 hval
  have c0 : Tryz.prog.cellsOf 45 = 17 := by kernel_rfl
  obtain ⟨fuel, hf⟩ := h
  rcases open_slice Tryz.underlying47 hf with ⟨hcs, _⟩ | ⟨a, len', cap', m, n, D, Pl, hcs, _, hl, hcap, hmm, _, hi⟩
  · simp [Value.cells] at hcs
    obtain ⟨rfl, rfl, rfl⟩ := hcs
    exact ⟨none, 0, [], rfl, ⟨_, _, rfl, .inl rfl⟩, fun e he => (by cases he), by simp⟩
  · simp [Value.cells] at hcs
    obtain ⟨rfl, rfl, rfl⟩ := hcs
    have hm : m = cap := by simpa using hmm
    subst hm
    rw [c0] at hi
    have hj : ∀ j : Nat, ∃ e : RawT, j < m → (∀ i, i < 17 → W.cell? (a.add (j * 17 + i)) = (rawC e)[i]?) ∧ e.nums := by
      intro j
      by_cases hjm : j < m
      · obtain ⟨cs', hc, ht⟩ := hi j hjm
        obtain ⟨e, he, hv⟩ := open_raw1 ht
        obtain ⟨_, hcl, hat⟩ := World.cells?_some hc
        refine ⟨e, fun _ => ⟨fun i hi5 => ?_, hv⟩⟩
        rw [← Go.Deep.add_add, hat i hi5, he, Array.getElem?_toList]
      · exact ⟨⟨0, 0, 0, 0, st0, ⟨0, 0, 0, 0, 0⟩, 0, 0, ⟨#[]⟩⟩, fun h => absurd h hjm⟩
    obtain ⟨f, hf2⟩ := Classical.axiomOfChoice hj
    have hlen : ((List.range len).map f).length = len := by simp
    refine ⟨some a, m, (List.range len).map f, by rw [hlen], ?_, ?_, ?_⟩
    · rw [hlen]
      refine ⟨_, _, by rw [hlen], ?_⟩
      cases len with
      | zero => exact .inl rfl
      | succ len =>
        right
        have hz : W.cell? a = some (.int .u8 ((f 0).kind : Nat)) := (hf2 0 (by omega)).1 0 (by omega)
        have ea := spot_none hz
        have hlt : a.block < W.heap.size := World.block_lt_of_cell? W _ hz
        have hadd : ∀ k, a.add k = ⟨a.block, a.off + k, none⟩ := by
          intro k
          rw [ea]
          simp only [Addr.add]
          split
          · rename_i h0; subst h0; rfl
          · rfl
        refine ⟨a.block, a.off, by rw [← ea], hlt, fun j r he i hi17 => ?_⟩
        rw [List.getElem?_map, Option.map_eq_some_iff] at he
        obtain ⟨x, hx, rfl⟩ := he
        have hx2 := List.getElem?_eq_some_iff.1 hx
        obtain ⟨h1, h2⟩ := hx2
        simp at h1 h2
        subst h2
        have := (hf2 j (by omega)).1 i hi17
        rw [hadd] at this
        rw [Nat.add_assoc]
        exact this
    · intro e he
      rw [List.mem_map] at he
      obtain ⟨j, hjr, rfl⟩ := he
      exact (hf2 j (by have := List.mem_range.1 hjr; omega)).2
    · rw [hlen]
      have : maxLen = 9223372036854775807 := rfl
      omega
end Go.Proofs.YtfjepdcnikgjeaaGreatDoor
