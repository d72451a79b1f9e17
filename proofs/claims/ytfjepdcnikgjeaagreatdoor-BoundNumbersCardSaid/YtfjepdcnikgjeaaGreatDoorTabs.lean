/-
  What the row's list gives: the tables that the world's functions read; and a world for the witness.
-/
import Derived.Test.YtfjepdcnikgjeaaGreatDoorCards
import Derived.Test.YtfjepdcnikgjeaaGreatDoorTie
import Derived.WalkKit
import Derived.ProofKit
import Derived.OpenShut
import Derived.Deep.Strs
import Derived.Deep.DeepHandedRow
import Derived.Lib.LaidTab
import Derived.Test.YtfjepdcnikgjeaaGreatDoorTab
set_option linter.unusedVariables false
set_option linter.unusedSimpArgs false
set_option linter.unusedSectionVars false
namespace Go.Proofs.YtfjepdcnikgjeaaGreatDoor
open Go Go.ChangeShapes Go.WideShapes Go.ChangeAt Go.RowKit Go.Proofs

theorem own : ownKnob Tryz.prog.godebug = none := by kernel_rfl

theorem laid_at {P : Program} {w : World} {n : String} {d : DataW Unit} : ∀ {l : List (String × DataW Unit)} {ps : List MemPlace}, DataW.LaidVars P w l ps → (n, d) ∈ l →
    ∃ g t cs fuel p, P.globalNamed n = some g ∧ (P.globals[g]?).map (·.type) = some t ∧ w.var? P n = some cs ∧ DataW.trod (fun _ => ()) P w 0 (fun _ => true) false fuel t cs.toList = some (d, p)
  | [], _, _, hm => by cases hm
  | (n', d') :: r, ps, h, hm => by
    obtain ⟨g, t, cs, fuel, p, q, h1, h2, h3, h4, h5, _⟩ := h
    rcases List.mem_cons.1 hm with e | hm
    · injection e with e1 e2
      subst e1 e2
      exact ⟨g, t, cs, fuel, p, h1, h2, h3, h4⟩
    · exact laid_at h5 hm

theorem three {r : List Value} {a b c : Value} (h : r.length = 3) (h0 : (r.drop 0).take 1 = [a]) (h1 : (r.drop 1).take 1 = [b]) (h2 : (r.drop 2).take 1 = [c]) : r = [a, b, c] := by
  match r, h with
  | [x, y, z], _ => simp at h0 h1 h2; simp [h0, h1, h2]

theorem two {r : List Value} {a b : Value} (h : r.length = 2) (h0 : (r.drop 0).take 1 = [a]) (h1 : (r.drop 1).take 1 = [b]) : r = [a, b] := by
  match r, h with
  | [x, y], _ => simp at h0 h1; simp [h0, h1]
theorem one_of {r : List Value} {v : Value} (h : r = [v]) : r[0]? = some v := by rw [h]; rfl

theorem gAll : Tryz.prog.globalNamed "hostler/event.all" = some 1 := by kernel_rfl
theorem gAllType : (Tryz.prog.globals[1]?).map (·.type) = some 305 := by kernel_rfl
theorem gNext : Tryz.prog.globalNamed "hostler/status.next" = some 0 := by kernel_rfl
theorem gNextType : (Tryz.prog.globals[0]?).map (·.type) = some 303 := by kernel_rfl
theorem gPlaces : Tryz.prog.globalNamed "hostler/mach.places" = some 2 := by kernel_rfl
theorem gPlacesType : (Tryz.prog.globals[2]?).map (·.type) = some 314 := by kernel_rfl

theorem var_lt {W : World} {n : String} {g : Nat} {cs : Array Value} (hg : Tryz.prog.globalNamed n = some g) (hv : W.var? Tryz.prog n = some cs) : g < W.heap.size := by
  unfold World.var? at hv
  rw [hg] at hv
  simp only [Option.bind_some] at hv
  rcases Nat.lt_or_ge g W.heap.size with h' | h'
  · exact h'
  · simp [Array.getElem?_eq_none h'] at hv
theorem var_at {W : World} {n : String} {g : Nat} {cs : Array Value} (hg : Tryz.prog.globalNamed n = some g) (hv : W.var? Tryz.prog n = some cs) (s k j : Nat) (v : Value) (h : ∃ r, (cs.toList.drop (k * s)).take s = r ∧ r[j]? = some v) : W.cell? ⟨g, k * s + j, none⟩ = some v := by
  obtain ⟨r, e, hr⟩ := h
  rw [World.var?_cell hg hv]
  rw [← e, List.getElem?_take] at hr
  split at hr
  · rw [List.getElem?_drop] at hr
    simpa using hr
  · cases hr

theorem all_of {W : World} {l : List (String × DataW Unit)} (h : laidMet Tryz.prog l W) (hm : ("hostler/event.all", Rows.laid_hostler_event_all) ∈ l) :
    ∀ k, k < 8 → ∃ s x y, W.cell? ⟨1, k * 3, none⟩ = some (.string s) ∧ W.cell? ⟨1, k * 3 + 1, none⟩ = some (.int .u64 x) ∧ W.cell? ⟨1, k * 3 + 2, none⟩ = some (.int .u64 y) := by
  obtain ⟨ps, hl, _⟩ := h
  obtain ⟨g, t, cs, fuel, p, hg, ht, hv, hd⟩ := laid_at hl hm
  obtain rfl := Option.some.inj (gAll.symm.trans hg)
  obtain rfl := Option.some.inj (gAllType.symm.trans ht)
  obtain ⟨xs, m, rfl, _, hlen, hxl, hx⟩ := DataW.trod_array Tryz.underlying305 hd
  have c80 : Tryz.prog.cellsOf 259 = 3 := by kernel_rfl
  have c9 : Tryz.prog.cellsOf 9 = 1 := by kernel_rfl
  have c78 : Tryz.prog.cellsOf 98 = 1 := by kernel_rfl
  intro k hk
  have hk2 := hx k hk
  rw [c80, List.getElem?_eq_getElem (by omega)] at hk2
  obtain ⟨y0, y1, y2, n, _, hl3, h0, h1, h2⟩ := Deep.trod_struct3 Tryz.underlying259 hk2
  rw [c80] at hl3
  obtain ⟨s, e0, _⟩ := DataW.trod_string Tryz.underlying9 h0
  obtain ⟨x, e1, _⟩ := DataW.trod_int (k := .u64) (by kernel_rfl) h1
  obtain ⟨y, e2, _⟩ := DataW.trod_int (k := .u64) (by kernel_rfl) h2
  dsimp only at e0 e1 e2
  rw [c9] at e0
  rw [c78] at e1 e2
  have e := three hl3 e0 e1 e2
  exact ⟨s, x, y, var_at gAll hv 3 k 0 _ ⟨_, e, rfl⟩, var_at gAll hv 3 k 1 _ ⟨_, e, rfl⟩, var_at gAll hv 3 k 2 _ ⟨_, e, rfl⟩⟩

set_option maxRecDepth 100000 in
theorem places_of {W : World} {l : List (String × DataW Unit)} (h : laidMet Tryz.prog l W) (hm : ("hostler/mach.places", Rows.laid_hostler_mach_places) ∈ l) :
    ∀ k, k < 31 → ∃ s, W.cell? ⟨2, k * 2, none⟩ = some (.string s) ∧ W.cell? ⟨2, k * 2 + 1, none⟩ = some (.int .i64 (lockK k : Nat)) := by
  obtain ⟨ps, hl, _⟩ := h
  obtain ⟨g, t, cs, fuel, p, hg, ht, hv, hd⟩ := laid_at hl hm
  obtain rfl := Option.some.inj (gPlaces.symm.trans hg)
  obtain rfl := Option.some.inj (gPlacesType.symm.trans ht)
  obtain ⟨xs, m, rfl, hxs, hlen, hxl, hx⟩ := DataW.trod_array Tryz.underlying314 hd
  have c80 : Tryz.prog.cellsOf 274 = 2 := by kernel_rfl
  have c9 : Tryz.prog.cellsOf 9 = 1 := by kernel_rfl
  have c78 : Tryz.prog.cellsOf 272 = 1 := by kernel_rfl
  have hpl : ∀ k, k < 31 → ∃ b, (xs.map (·.1))[k]? = some (.agg [.lit (.string b), .lit (.int .i64 (lockK k : Nat))]) := by
    injection hxs with e1 _
    unfold Rows.laid_hostler_mach_places at e1
    injection e1 with e1
    rw [← e1]
    intro k hk
    match k, hk with
    | 0, _ | 1, _ | 2, _ | 3, _ | 4, _ | 5, _ | 6, _ | 7, _ | 8, _ | 9, _ | 10, _ | 11, _ | 12, _ | 13, _ | 14, _ | 15, _ | 16, _ | 17, _ | 18, _ | 19, _ | 20, _ | 21, _ | 22, _ | 23, _ | 24, _ | 25, _ | 26, _ | 27, _ | 28, _ | 29, _ | 30, _ => exact ⟨_, rfl⟩
    | k + 31, h => exact absurd h (by omega)
  intro k hk
  have hk2 := hx k hk
  obtain ⟨b, hb⟩ := hpl k hk
  rw [List.getElem?_map] at hb
  rw [c80, List.getElem?_eq_getElem (by omega)] at hk2
  rw [List.getElem?_eq_getElem (by omega)] at hb
  obtain ⟨y0, y1, n, exy, hl2, h0, h1⟩ := trod_struct2 Tryz.underlying274 hk2
  rw [c80] at hl2
  rw [exy] at hb
  simp only [Option.map_some, Option.some.injEq, DataW.agg.injEq, List.cons.injEq, and_true] at hb
  obtain ⟨s, e0, _⟩ := DataW.trod_string Tryz.underlying9 h0
  obtain ⟨x, e1, e2, _⟩ := DataW.trod_int (k := .i64) (by kernel_rfl) h1
  dsimp only at e0 e1
  rw [c9] at e0
  rw [c78] at e1
  have e := two hl2 e0 e1
  have hx2 : x = (lockK k : Nat) := by
    have := hb.2
    rw [e2] at this
    simpa using this
  subst hx2
  exact ⟨s, var_at gPlaces hv 2 k 0 _ ⟨_, e, rfl⟩, var_at gPlaces hv 2 k 1 _ ⟨_, e, rfl⟩⟩

theorem spot_none {w : World} {a : Addr} {v : Value} (h : w.cell? a = some v) : a = ⟨a.block, a.off, none⟩ := by
  unfold World.cell? at h
  split at h
  · split at h
    · cases h
    · rename_i hs
      obtain ⟨b, o, s⟩ := a
      cases s with
      | none => rfl
      | some s => simp at hs
  · cases h

set_option maxRecDepth 100000 in
theorem next_of {W : World} {l : List (String × DataW Unit)} (h : laidMet Tryz.prog l W) (hm : ("hostler/status.next", Rows.laid_hostler_status_next) ∈ l) :
    ∀ k, k < 6 → ∃ b o c, b < W.heap.size ∧ W.cell? ⟨0, k, none⟩ = some (.slice (some ⟨b, o, none⟩) (nextL k).length c) ∧ (nextL k).length ≤ c ∧ ∀ j, j < (nextL k).length → W.cell? ⟨b, o + j, none⟩ = some (.int .u64 ((nextL k).getD j 0 : Nat)) := by
  obtain ⟨ps, hl, _⟩ := h
  obtain ⟨g, t, cs, fuel, p, hg, ht, hv, hd⟩ := laid_at hl hm
  obtain rfl := Option.some.inj (gNext.symm.trans hg)
  obtain rfl := Option.some.inj (gNextType.symm.trans ht)
  obtain ⟨xs, m, rfl, hxs, hlen, hxl, hx⟩ := DataW.trod_array Tryz.underlying303 hd
  have c80 : Tryz.prog.cellsOf 199 = 1 := by kernel_rfl
  have c78 : Tryz.prog.cellsOf 98 = 1 := by kernel_rfl
  have hpl : ∀ k, k < 6 → (xs.map (·.1))[k]? = some (.slice ((nextL k).map fun x => .lit (.int .u64 (x : Nat))) []) ∧ 0 < (nextL k).length := by
    injection hxs with e1 _
    unfold Rows.laid_hostler_status_next at e1
    injection e1 with e1
    rw [← e1]
    intro k hk
    match k, hk with
    | 0, _ | 1, _ | 2, _ | 3, _ | 4, _ | 5, _ => exact ⟨rfl, by decide⟩
    | k + 6, h => exact absurd h (by omega)
  intro k hk
  have hk2 := hx k (by omega)
  obtain ⟨hb, hpos⟩ := hpl k hk
  rw [List.getElem?_map] at hb
  rw [c80, List.getElem?_eq_getElem (by omega)] at hk2
  rw [List.getElem?_eq_getElem (by omega)] at hb
  rcases DataW.trod_slice Tryz.underlying199 hk2 with ⟨_, e⟩ | ⟨a, len, cap, elems, rest, n, _, e, exy, _, hcap, _, hel, hread, _, _⟩
  · rw [e] at hb; simp at hb
  · rw [exy] at hb
    simp only [Option.map_some, Option.some.injEq, DataW.slice.injEq] at hb
    obtain ⟨hb1, hb2⟩ := hb
    have hln : len = (nextL k).length := by rw [← hel]; have := congrArg List.length hb1; simpa using this
    subst hln
    have hcell : ∀ j, j < (nextL k).length → W.cell? (a.add j) = some (.int .u64 ((nextL k).getD j 0 : Nat)) := by
      intro j hj
      have hr := hread j hj
      have hge : elems[j]? = some elems[j] := List.getElem?_eq_getElem (by omega)
      rw [hge, Option.bind_eq_some_iff] at hr
      obtain ⟨zs, hz1, hz2⟩ := hr
      rw [c78] at hz1
      obtain ⟨_, hzl, hz⟩ := World.cells?_some hz1
      obtain ⟨x, e1, e2, _⟩ := DataW.trod_int (k := .u64) (by kernel_rfl) hz2
      have h0 := hz 0 (by omega)
      rw [e1] at h0
      have hx2 : (elems.map (·.1))[j]? = ((nextL k).map fun x => (DataW.lit (.int .u64 (x : Nat)) : DataW Unit))[j]? := by rw [hb1]
      rw [List.getElem?_map, hge, List.getElem?_map, List.getElem?_eq_getElem hj, e2] at hx2
      simp only [Option.map_some, Option.some.injEq, DataW.lit.injEq, Lit.int.injEq, true_and] at hx2
      rw [hx2] at h0
      rw [List.getD_eq_getElem?_getD, List.getElem?_eq_getElem hj]
      simpa [Addr.add] using h0
    have hc0 := hcell 0 hpos
    have hsp := spot_none hc0
    have hblk := World.block_lt_of_cell? W _ hc0
    obtain ⟨ab, ao, asp⟩ := a
    obtain rfl : asp = none := by simpa [Addr.add] using hsp
    refine ⟨ab, ao, cap, by simpa [Addr.add] using hblk, ?_, hcap, fun j hj => by
      have := hcell j hj
      by_cases h0 : j = 0
      · subst h0; simpa [Addr.add] using this
      · simpa [Addr.add, h0] using this⟩
    have := var_at gNext hv 1 k 0 _ ⟨_, e, rfl⟩
    simpa using this

theorem tabs_of {W : World} {l : List (String × DataW Unit)} (h : laidMet Tryz.prog l W) (h1 : ("hostler/event.all", Rows.laid_hostler_event_all) ∈ l) (h2 : ("hostler/status.next", Rows.laid_hostler_status_next) ∈ l) (h3 : ("hostler/mach.places", Rows.laid_hostler_mach_places) ∈ l) : Tabs W.heap.size W := by
  have hp := places_of h h3
  have ha := all_of h h1
  have hn := next_of h h2
  refine ⟨?_, Nat.le_refl _, hn, ha, hp⟩
  obtain ⟨s, x, y, e1, _⟩ := ha 0 (by decide)
  obtain ⟨s', e2, _⟩ := hp 0 (by decide)
  obtain ⟨b, o, c, _, e3, _⟩ := hn 0 (by decide)
  have l1 := World.block_lt_of_cell? W _ e1
  have l2 := World.block_lt_of_cell? W _ e2
  have l3 := World.block_lt_of_cell? W _ e3
  simp only at l1 l2 l3
  omega
end Go.Proofs.YtfjepdcnikgjeaaGreatDoor
