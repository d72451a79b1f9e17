/-
  What the row's list gives: the tables that the world's functions read; and a world for the witness.
  A world for the witness; a row's post of a call that writes nothing old.
-/
import Derived.Test.YtpclgelilnhjpaaGreatDoorCards
import Derived.Test.YtpclgelilnhjpaaGreatDoorTie
import Derived.WalkKit
import Derived.ProofKit
import Derived.OpenShut
import Derived.Deep.Strs
import Derived.Deep.DeepHandedRow
import Derived.Lib.LaidTab
import Derived.Test.YtpclgelilnhjpaaGreatDoorCells
import Derived.Deep.DeepWitnessRowRef
set_option linter.unusedVariables false
set_option linter.unusedSimpArgs false
set_option linter.unusedSectionVars false
namespace Go.Proofs.YtpclgelilnhjpaaGreatDoor
open Go Go.ChangeShapes Go.WideShapes Go.ChangeAt Go.RowKit Go.Proofs

theorem own : ownKnob Tryz.prog.godebug = none := by kernel_rfl

theorem laid_at {P : Program} {w : World} {n : String} {d : DataW Unit} : ∀ {l : List (String × DataW Unit)} {ps : List MemPlace}, DataW.LaidVars P w l ps → (n, d) ∈ l →
    ∃ g t cs fuel p, P.globalNamed n = some g ∧ (P.globals[g]?).map (·.type) = some t ∧ w.var? P n = some cs ∧ DataW.trod (fun _ => ()) P w 0 (fun _ => true) false fuel t cs.toList = some (d, p)
  | [], _, _, hm => by cases hm
  | (n', d') :: r, ps, h, hm => by
    obtain ⟨g, t, cs, fuel, p, q, h1, h2, h3, h4, h5, _⟩ := h
    rcases List.mem_cons.1 hm with e | hm
    · injection e with e1 e2
      subst e1 e2
      exact ⟨g, t, cs, fuel, p, h1, h2, h3, h4⟩
    · exact laid_at h5 hm

theorem three {r : List Value} {a b c : Value} (h : r.length = 3) (h0 : (r.drop 0).take 1 = [a]) (h1 : (r.drop 1).take 1 = [b]) (h2 : (r.drop 2).take 1 = [c]) : r = [a, b, c] := by
  match r, h with
  | [x, y, z], _ => simp at h0 h1 h2; simp [h0, h1, h2]

theorem two {r : List Value} {a b : Value} (h : r.length = 2) (h0 : (r.drop 0).take 1 = [a]) (h1 : (r.drop 1).take 1 = [b]) : r = [a, b] := by
  match r, h with
  | [x, y], _ => simp at h0 h1; simp [h0, h1]
theorem one_of {r : List Value} {v : Value} (h : r = [v]) : r[0]? = some v := by rw [h]; rfl

theorem gAll : Tryz.prog.globalNamed "hostler/event.all" = some 2 := by kernel_rfl
theorem gAllType : (Tryz.prog.globals[2]?).map (·.type) = some 250 := by kernel_rfl
theorem gNext : Tryz.prog.globalNamed "hostler/status.next" = some 1 := by kernel_rfl
theorem gNextType : (Tryz.prog.globals[1]?).map (·.type) = some 203 := by kernel_rfl
theorem gPlaces : Tryz.prog.globalNamed "hostler/mach.places" = some 3 := by kernel_rfl
theorem gPlacesType : (Tryz.prog.globals[3]?).map (·.type) = some 275 := by kernel_rfl

theorem var_lt {W : World} {n : String} {g : Nat} {cs : Array Value} (hg : Tryz.prog.globalNamed n = some g) (hv : W.var? Tryz.prog n = some cs) : g < W.heap.size := by
  unfold World.var? at hv
  rw [hg] at hv
  simp only [Option.bind_some] at hv
  rcases Nat.lt_or_ge g W.heap.size with h' | h'
  · exact h'
  · simp [Array.getElem?_eq_none h'] at hv
theorem var_at {W : World} {n : String} {g : Nat} {cs : Array Value} (hg : Tryz.prog.globalNamed n = some g) (hv : W.var? Tryz.prog n = some cs) (s k j : Nat) (v : Value) (h : ∃ r, (cs.toList.drop (k * s)).take s = r ∧ r[j]? = some v) : W.cell? ⟨g, k * s + j, none⟩ = some v := by
  obtain ⟨r, e, hr⟩ := h
  rw [World.var?_cell hg hv]
  rw [← e, List.getElem?_take] at hr
  split at hr
  · rw [List.getElem?_drop] at hr
    simpa using hr
  · cases hr

theorem all_of {W : World} {l : List (String × DataW Unit)} (h : laidMet Tryz.prog l W) (hm : ("hostler/event.all", Rows.laid_hostler_event_all) ∈ l) :
    ∀ k, k < 8 → ∃ s x y, W.cell? ⟨2, k * 3, none⟩ = some (.string s) ∧ W.cell? ⟨2, k * 3 + 1, none⟩ = some (.int .u64 x) ∧ W.cell? ⟨2, k * 3 + 2, none⟩ = some (.int .u64 y) := by
  obtain ⟨ps, hl, _⟩ := h
  obtain ⟨g, t, cs, fuel, p, hg, ht, hv, hd⟩ := laid_at hl hm
  obtain rfl := Option.some.inj (gAll.symm.trans hg)
  obtain rfl := Option.some.inj (gAllType.symm.trans ht)
  obtain ⟨xs, m, rfl, _, hlen, hxl, hx⟩ := DataW.trod_array Tryz.underlying250 hd
  have c80 : Tryz.prog.cellsOf 207 = 3 := by kernel_rfl
  have c9 : Tryz.prog.cellsOf 9 = 1 := by kernel_rfl
  have c78 : Tryz.prog.cellsOf 96 = 1 := by kernel_rfl
  intro k hk
  have hk2 := hx k hk
  rw [c80, List.getElem?_eq_getElem (by omega)] at hk2
  obtain ⟨y0, y1, y2, n, _, hl3, h0, h1, h2⟩ := Deep.trod_struct3 Tryz.underlying207 hk2
  rw [c80] at hl3
  obtain ⟨s, e0, _⟩ := DataW.trod_string Tryz.underlying9 h0
  obtain ⟨x, e1, _⟩ := DataW.trod_int (k := .u64) (by kernel_rfl) h1
  obtain ⟨y, e2, _⟩ := DataW.trod_int (k := .u64) (by kernel_rfl) h2
  dsimp only at e0 e1 e2
  rw [c9] at e0
  rw [c78] at e1 e2
  have e := three hl3 e0 e1 e2
  exact ⟨s, x, y, var_at gAll hv 3 k 0 _ ⟨_, e, rfl⟩, var_at gAll hv 3 k 1 _ ⟨_, e, rfl⟩, var_at gAll hv 3 k 2 _ ⟨_, e, rfl⟩⟩

set_option maxRecDepth 100000 in
theorem places_of {W : World} {l : List (String × DataW Unit)} (h : laidMet Tryz.prog l W) (hm : ("hostler/mach.places", Rows.laid_hostler_mach_places) ∈ l) :
    ∀ k, k < 31 → ∃ s, W.cell? ⟨3, k * 2, none⟩ = some (.string s) ∧ W.cell? ⟨3, k * 2 + 1, none⟩ = some (.int .i64 (lockK k : Nat)) := by
  obtain ⟨ps, hl, _⟩ := h
  obtain ⟨g, t, cs, fuel, p, hg, ht, hv, hd⟩ := laid_at hl hm
  obtain rfl := Option.some.inj (gPlaces.symm.trans hg)
  obtain rfl := Option.some.inj (gPlacesType.symm.trans ht)
  obtain ⟨xs, m, rfl, hxs, hlen, hxl, hx⟩ := DataW.trod_array Tryz.underlying275 hd
  have c80 : Tryz.prog.cellsOf 237 = 2 := by kernel_rfl
  have c9 : Tryz.prog.cellsOf 9 = 1 := by kernel_rfl
  have c78 : Tryz.prog.cellsOf 235 = 1 := by kernel_rfl
  have hpl : ∀ k, k < 31 → ∃ b, (xs.map (·.1))[k]? = some (.agg [.lit (.string b), .lit (.int .i64 (lockK k : Nat))]) := by
    injection hxs with e1 _
    unfold Rows.laid_hostler_mach_places at e1
    injection e1 with e1
    rw [← e1]
    intro k hk
    match k, hk with
    | 0, _ | 1, _ | 2, _ | 3, _ | 4, _ | 5, _ | 6, _ | 7, _ | 8, _ | 9, _ | 10, _ | 11, _ | 12, _ | 13, _ | 14, _ | 15, _ | 16, _ | 17, _ | 18, _ | 19, _ | 20, _ | 21, _ | 22, _ | 23, _ | 24, _ | 25, _ | 26, _ | 27, _ | 28, _ | 29, _ | 30, _ => exact ⟨_, rfl⟩
    | k + 31, h => exact absurd h (by omega)
  intro k hk
  have hk2 := hx k hk
  obtain ⟨b, hb⟩ := hpl k hk
  rw [List.getElem?_map] at hb
  rw [c80, List.getElem?_eq_getElem (by omega)] at hk2
  rw [List.getElem?_eq_getElem (by omega)] at hb
  obtain ⟨y0, y1, n, exy, hl2, h0, h1⟩ := trod_struct2 Tryz.underlying237 hk2
  rw [c80] at hl2
  rw [exy] at hb
  simp only [Option.map_some, Option.some.injEq, DataW.agg.injEq, List.cons.injEq, and_true] at hb
  obtain ⟨s, e0, _⟩ := DataW.trod_string Tryz.underlying9 h0
  obtain ⟨x, e1, e2, _⟩ := DataW.trod_int (k := .i64) (by kernel_rfl) h1
  dsimp only at e0 e1
  rw [c9] at e0
  rw [c78] at e1
  have e := two hl2 e0 e1
  have hx2 : x = (lockK k : Nat) := by
    have := hb.2
    rw [e2] at this
    simpa using this
  subst hx2
  exact ⟨s, var_at gPlaces hv 2 k 0 _ ⟨_, e, rfl⟩, var_at gPlaces hv 2 k 1 _ ⟨_, e, rfl⟩⟩

theorem spot_none {w : World} {a : Addr} {v : Value} (h : w.cell? a = some v) : a = ⟨a.block, a.off, none⟩ := by
  unfold World.cell? at h
  split at h
  · split at h
    · cases h
    · rename_i hs
      obtain ⟨b, o, s⟩ := a
      cases s with
      | none => rfl
      | some s => simp at hs
  · cases h

set_option maxRecDepth 100000 in
theorem next_of {W : World} {l : List (String × DataW Unit)} (h : laidMet Tryz.prog l W) (hm : ("hostler/status.next", Rows.laid_hostler_status_next) ∈ l) :
    ∀ k, k < 6 → ∃ b o c, b < W.heap.size ∧ W.cell? ⟨1, k, none⟩ = some (.slice (some ⟨b, o, none⟩) (nextL k).length c) ∧ (nextL k).length ≤ c ∧ ∀ j, j < (nextL k).length → W.cell? ⟨b, o + j, none⟩ = some (.int .u64 ((nextL k).getD j 0 : Nat)) := by
  obtain ⟨ps, hl, _⟩ := h
  obtain ⟨g, t, cs, fuel, p, hg, ht, hv, hd⟩ := laid_at hl hm
  obtain rfl := Option.some.inj (gNext.symm.trans hg)
  obtain rfl := Option.some.inj (gNextType.symm.trans ht)
  obtain ⟨xs, m, rfl, hxs, hlen, hxl, hx⟩ := DataW.trod_array Tryz.underlying203 hd
  have c80 : Tryz.prog.cellsOf 202 = 1 := by kernel_rfl
  have c78 : Tryz.prog.cellsOf 96 = 1 := by kernel_rfl
  have hpl : ∀ k, k < 6 → (xs.map (·.1))[k]? = some (.slice ((nextL k).map fun x => .lit (.int .u64 (x : Nat))) []) ∧ 0 < (nextL k).length := by
    injection hxs with e1 _
    unfold Rows.laid_hostler_status_next at e1
    injection e1 with e1
    rw [← e1]
    intro k hk
    match k, hk with
    | 0, _ | 1, _ | 2, _ | 3, _ | 4, _ | 5, _ => exact ⟨rfl, by decide⟩
    | k + 6, h => exact absurd h (by omega)
  intro k hk
  have hk2 := hx k (by omega)
  obtain ⟨hb, hpos⟩ := hpl k hk
  rw [List.getElem?_map] at hb
  rw [c80, List.getElem?_eq_getElem (by omega)] at hk2
  rw [List.getElem?_eq_getElem (by omega)] at hb
  rcases DataW.trod_slice Tryz.underlying202 hk2 with ⟨_, e⟩ | ⟨a, len, cap, elems, rest, n, _, e, exy, _, hcap, _, hel, hread, _, _⟩
  · rw [e] at hb; simp at hb
  · rw [exy] at hb
    simp only [Option.map_some, Option.some.injEq, DataW.slice.injEq] at hb
    obtain ⟨hb1, hb2⟩ := hb
    have hln : len = (nextL k).length := by rw [← hel]; have := congrArg List.length hb1; simpa using this
    subst hln
    have hcell : ∀ j, j < (nextL k).length → W.cell? (a.add j) = some (.int .u64 ((nextL k).getD j 0 : Nat)) := by
      intro j hj
      have hr := hread j hj
      have hge : elems[j]? = some elems[j] := List.getElem?_eq_getElem (by omega)
      rw [hge, Option.bind_eq_some_iff] at hr
      obtain ⟨zs, hz1, hz2⟩ := hr
      rw [c78] at hz1
      obtain ⟨_, hzl, hz⟩ := World.cells?_some hz1
      obtain ⟨x, e1, e2, _⟩ := DataW.trod_int (k := .u64) (by kernel_rfl) hz2
      have h0 := hz 0 (by omega)
      rw [e1] at h0
      have hx2 : (elems.map (·.1))[j]? = ((nextL k).map fun x => (DataW.lit (.int .u64 (x : Nat)) : DataW Unit))[j]? := by rw [hb1]
      rw [List.getElem?_map, hge, List.getElem?_map, List.getElem?_eq_getElem hj, e2] at hx2
      simp only [Option.map_some, Option.some.injEq, DataW.lit.injEq, Lit.int.injEq, true_and] at hx2
      rw [hx2] at h0
      rw [List.getD_eq_getElem?_getD, List.getElem?_eq_getElem hj]
      simpa [Addr.add] using h0
    have hc0 := hcell 0 hpos
    have hsp := spot_none hc0
    have hblk := World.block_lt_of_cell? W _ hc0
    obtain ⟨ab, ao, asp⟩ := a
    obtain rfl : asp = none := by simpa [Addr.add] using hsp
    refine ⟨ab, ao, cap, by simpa [Addr.add] using hblk, ?_, hcap, fun j hj => by
      have := hcell j hj
      by_cases h0 : j = 0
      · subst h0; simpa [Addr.add] using this
      · simpa [Addr.add, h0] using this⟩
    have := var_at gNext hv 1 k 0 _ ⟨_, e, rfl⟩
    simpa using this

theorem gTz : Tryz.prog.globalNamed "math/bits.deBruijn64tab" = some 7 := by kernel_rfl
theorem gTzType : (Tryz.prog.globals[7]?).map (·.type) = some 312 := by kernel_rfl
theorem tz_of {W : World} {l : List (String × DataW Unit)} (h : laidMet Tryz.prog l W) (hm : ("math/bits.deBruijn64tab", Rows.laid_math_bits_deBruijn64tab) ∈ l) :
    ∀ j, j < 64 → W.cell? ⟨7, j, none⟩ = some (.int .u8 (Lib.deBruijn64tab.getD j 0 : Nat)) := by
  obtain ⟨ps, hl, _⟩ := h
  obtain ⟨g, t, cs, fuel, p, hg, ht, hv, hd⟩ := laid_at hl hm
  obtain rfl := Option.some.inj (gTz.symm.trans hg)
  obtain rfl := Option.some.inj (gTzType.symm.trans ht)
  have hd' : DataW.trod (fun _ => ()) Tryz.prog W 0 (fun _ => true) false fuel 312 cs.toList = some (Lib.tabData .u8 (Lib.deBruijn64tab.map fun (n : Nat) => (n : Int)), p) := hd
  have hcs := Lib.cells_of_tab (k := .u8) (zs := Lib.deBruijn64tab.map fun (n : Nat) => (n : Int)) Tryz.underlying312 Tryz.underlying5 (by kernel_rfl) (by kernel_rfl) hd'
  have hcs2 : W.var? Tryz.prog "math/bits.deBruijn64tab" = some ((Lib.deBruijn64tab.map fun (n : Nat) => (n : Int)).map fun z => Value.int .u8 z).toArray := by
    rw [hv, ← hcs]
  intro j hj
  have := World.var?_cell gTz hcs2 j
  rw [this]
  have hl : Lib.deBruijn64tab.length = 64 := by decide
  simp [List.getD_eq_getElem?_getD, List.getElem?_eq_getElem (show j < Lib.deBruijn64tab.length by omega)]
theorem tabs_of {W : World} {l : List (String × DataW Unit)} (h : laidMet Tryz.prog l W) (h1 : ("hostler/event.all", Rows.laid_hostler_event_all) ∈ l) (h2 : ("hostler/status.next", Rows.laid_hostler_status_next) ∈ l) (h3 : ("hostler/mach.places", Rows.laid_hostler_mach_places) ∈ l) (h4 : ("math/bits.deBruijn64tab", Rows.laid_math_bits_deBruijn64tab) ∈ l) : Tabs W.heap.size W := by
  have hp := places_of h h3
  have ha := all_of h h1
  have hn := next_of h h2
  have hz := tz_of h h4
  have l4 := World.block_lt_of_cell? W _ (hz 0 (by decide))
  refine ⟨?_, Nat.le_refl _, hn, ha, hz, l4, hp⟩
  obtain ⟨s, x, y, e1, _⟩ := ha 0 (by decide)
  obtain ⟨s', e2, _⟩ := hp 0 (by decide)
  obtain ⟨b, o, c, _, e3, _⟩ := hn 0 (by decide)
  have l1 := World.block_lt_of_cell? W _ e1
  have l2 := World.block_lt_of_cell? W _ e2
  have l3 := World.block_lt_of_cell? W _ e3
  simp only at l1 l2 l3
  omega
end Go.Proofs.YtpclgelilnhjpaaGreatDoor

namespace Go.Proofs.YtpclgelilnhjpaaGreatDoor
open Go Go.ChangeShapes Go.WideShapes Go.ChangeAt Go.RowKit Go.Proofs

/-- 'post_of_same' for a row that asks nothing of a second reading: what is frozen above the call's beginning does not matter. -/
theorem post_kept {H : Type} {enc : TypeId × Value → H} {P : Program} {f : Func} {s : ChangeSpec} {apart fresh handsOn : Bool} {W W' : World} {args : Array Value} {v : Value} {ds gs : List (DataW H)} {before pa pv : List MemPlace}
    (hW : DataW.Whole enc P f.params.toList s.vars apart W args.toList ds gs before)
    (hres : ∀ (b : Nat) (sp : Nat → Bool) (hd : Bool), DataW.TrodAll enc P W' b sp hd f.resultTypes.toList (v.resultList f.resultTypes.size) (s.fn H (ds ++ gs)).results [])
    (hargs : ∀ sp : Nat → Bool, (∀ p ∈ before, sp p.block = true) → DataW.TrodAll enc P W' 0 sp true f.params.toList args.toList (s.fn H (ds ++ gs)).args pa)
    (hvars : ∀ sp : Nat → Bool, (∀ p ∈ before, sp p.block = true) → DataW.TrodVars enc P W' sp s.vars (s.fn H (ds ++ gs)).vars pv)
    (hps : before = pa ++ pv) (hk : W.keptBut W' (· ∈ before)) :
    s.post enc P f apart fresh handsOn false W args v W' := by
  have hold : ∀ p ∈ before, (fun b => decide (b < W.heap.size)) p.block = true := fun p hp => by simpa using hW.lt p hp
  refine ⟨ds, gs, before, [], pa, pv, hW, hres _ _ _, hargs _ hold, hvars _ hold, World.keptBut_mono (fun p hp => ⟨hp, ?_⟩) hk, fun h => by cases h⟩
  rw [hps, List.mem_append] at hp
  exact Or.inr hp

theorem i64_of {n : Int} (h : (Lit.int .i64 n).wf = true) : -9223372036854775808 ≤ n ∧ n ≤ 9223372036854775807 := by
  simp only [Lit.wf, Bool.and_eq_true, decide_eq_true_eq] at h
  exact ⟨Int.le_trans (by decide) h.1, Int.le_trans h.2 (by decide)⟩

/-- A table laid at its block. -/
noncomputable def World.lay (w : World) (g : Nat) (cs : Array Value) : World :=
  { w with heap := w.heap.modify g fun
      | .cells _ t frozen => .cells cs t frozen
      | o => o }
noncomputable def cells_math_bits_deBruijn64tab : Array Value := #[.int .u8 0, .int .u8 1, .int .u8 56, .int .u8 2, .int .u8 57, .int .u8 49, .int .u8 28, .int .u8 3, .int .u8 61, .int .u8 58, .int .u8 42, .int .u8 50, .int .u8 38, .int .u8 29, .int .u8 17, .int .u8 4, .int .u8 62, .int .u8 47, .int .u8 59, .int .u8 36, .int .u8 45, .int .u8 43, .int .u8 51, .int .u8 22, .int .u8 53, .int .u8 39, .int .u8 33, .int .u8 30, .int .u8 24, .int .u8 18, .int .u8 12, .int .u8 5, .int .u8 63, .int .u8 55, .int .u8 48, .int .u8 27, .int .u8 60, .int .u8 41, .int .u8 37, .int .u8 16, .int .u8 46, .int .u8 35, .int .u8 44, .int .u8 21, .int .u8 52, .int .u8 32, .int .u8 23, .int .u8 11, .int .u8 54, .int .u8 26, .int .u8 40, .int .u8 15, .int .u8 34, .int .u8 20, .int .u8 31, .int .u8 10, .int .u8 25, .int .u8 14, .int .u8 19, .int .u8 9, .int .u8 13, .int .u8 8, .int .u8 7, .int .u8 6]
noncomputable def cells_hostler_event_all : Array Value := #[.string ⟨#[115, 112, 97, 119, 110]⟩, .int .u64 0, .int .u64 1, .string ⟨#[114, 101, 97, 100, 121]⟩, .int .u64 0, .int .u64 1, .string ⟨#[100, 105, 115, 112, 97, 116, 99, 104]⟩, .int .u64 1, .int .u64 2, .string ⟨#[121, 105, 101, 108, 100]⟩, .int .u64 2, .int .u64 1, .string ⟨#[98, 108, 111, 99, 107]⟩, .int .u64 2, .int .u64 3, .string ⟨#[115, 108, 101, 101, 112]⟩, .int .u64 2, .int .u64 4, .string ⟨#[119, 97, 105, 116]⟩, .int .u64 2, .int .u64 5, .string ⟨#[101, 120, 105, 116]⟩, .int .u64 2, .int .u64 6]
noncomputable def cells_hostler_mach_places : Array Value := #[.string ⟨#[101, 120, 101, 99]⟩, .int .i64 0, .string ⟨#[115, 99, 104, 101, 100]⟩, .int .i64 0, .string ⟨#[111, 110, 101]⟩, .int .i64 1, .string ⟨#[108, 111, 99, 97, 108]⟩, .int .i64 2, .string ⟨#[103, 108, 111, 98, 97, 108]⟩, .int .i64 1, .string ⟨#[115, 112, 105, 110, 117, 112]⟩, .int .i64 0, .string ⟨#[115, 116, 101, 97, 108]⟩, .int .i64 3, .string ⟨#[114, 101, 108, 101, 97, 115, 101]⟩, .int .i64 1, .string ⟨#[100, 114, 111, 112]⟩, .int .i64 0, .string ⟨#[108, 111, 111, 107]⟩, .int .i64 4, .string ⟨#[108, 111, 111, 107, 103, 108, 111, 98, 97, 108]⟩, .int .i64 1, .string ⟨#[114, 101, 116, 97, 107, 101]⟩, .int .i64 1, .string ⟨#[115, 112, 105, 110, 98, 97, 99, 107]⟩, .int .i64 0, .string ⟨#[115, 116, 111, 112]⟩, .int .i64 1, .string ⟨#[99, 104, 101, 99, 107]⟩, .int .i64 5, .string ⟨#[117, 110, 112, 111, 108, 108]⟩, .int .i64 1, .string ⟨#[115, 108, 101, 101, 112]⟩, .int .i64 0, .string ⟨#[112, 117, 116, 114, 101, 115, 116]⟩, .int .i64 2, .string ⟨#[112, 117, 116, 111, 118, 101, 114]⟩, .int .i64 1, .string ⟨#[117, 110, 115, 112, 105, 110]⟩, .int .i64 0, .string ⟨#[100, 105, 115, 112, 97, 116, 99, 104]⟩, .int .i64 0, .string ⟨#[108, 111, 97, 100]⟩, .int .i64 0, .string ⟨#[99, 108, 97, 105, 109]⟩, .int .i64 0, .string ⟨#[102, 105, 110, 100]⟩, .int .i64 1, .string ⟨#[119, 97, 107, 101]⟩, .int .i64 0, .string ⟨#[100, 101, 108, 105, 118, 101, 114]⟩, .int .i64 5, .string ⟨#[109, 97, 114, 107]⟩, .int .i64 0, .string ⟨#[112, 117, 116, 111, 110, 101]⟩, .int .i64 1, .string ⟨#[112, 117, 116, 110, 101, 120, 116]⟩, .int .i64 2, .string ⟨#[112, 97, 114, 107]⟩, .int .i64 5, .string ⟨#[97, 119, 97, 105, 116]⟩, .int .i64 5]
/-- The holding world, with the rows of status.next behind it. -/
noncomputable def nextRows (w : World) : World := (((((((w.alloc (.cells #[.int .u64 1] 96)).alloc (.cells #[.int .u64 2] 96)).alloc (.cells #[.int .u64 1, .int .u64 3, .int .u64 4, .int .u64 5, .int .u64 6] 96)).alloc (.cells #[.int .u64 1] 96)).alloc (.cells #[.int .u64 1] 96)).alloc (.cells #[.int .u64 1] 96)).alloc (.cells #[] 96))
noncomputable def cells_hostler_status_next (n : Nat) : Array Value := #[.slice (some ⟨n + 0, 0, none⟩) 1 1, .slice (some ⟨n + 1, 0, none⟩) 1 1, .slice (some ⟨n + 2, 0, none⟩) 5 5, .slice (some ⟨n + 3, 0, none⟩) 1 1, .slice (some ⟨n + 4, 0, none⟩) 1 1, .slice (some ⟨n + 5, 0, none⟩) 1 1, .slice (some ⟨n + 6, 0, none⟩) 0 0]
/-- A WORLD FOR THE WITNESS. -/
noncomputable def laidWorld (os : Os) : World :=
  World.lay (World.lay (World.lay (World.lay (nextRows (World.holding Tryz.prog os ⟨#[], #[], []⟩)) 1 (cells_hostler_status_next (World.holding Tryz.prog os ⟨#[], #[], []⟩).heap.size)) 2 cells_hostler_event_all) 3 cells_hostler_mach_places) 7 cells_math_bits_deBruijn64tab
end Go.Proofs.YtpclgelilnhjpaaGreatDoor
