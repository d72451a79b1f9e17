/-
  What the row's list gives: the two tables that the code reads; and a world for the witness.
-/
import Derived.Test.YtnkbddebafcjbaaDoorCards
import Derived.Test.YtnkbddebafcjbaaDoorTie
import Derived.WalkKit
import Derived.ProofKit
import Derived.OpenShut
import Derived.Deep.Strs
import Derived.Deep.DeepHandedRow
import Derived.Lib.LaidTab
import Derived.Test.YtnkbddebafcjbaaDoorGlKinds
namespace Go.Proofs.YtnkbddebafcjbaaDoor
open Go Go.ChangeShapes Go.WideShapes Go.ChangeAt Go.RowKit Go.Proofs

theorem own : ownKnob Tryd.prog.godebug = none := by kernel_rfl

theorem laid_at {P : Program} {w : World} {n : String} {d : DataW Unit} : ∀ {l : List (String × DataW Unit)} {ps : List MemPlace}, DataW.LaidVars P w l ps → (n, d) ∈ l →
    ∃ g t cs fuel p, P.globalNamed n = some g ∧ (P.globals[g]?).map (·.type) = some t ∧ w.var? P n = some cs ∧ DataW.trod (fun _ => ()) P w 0 (fun _ => true) false fuel t cs.toList = some (d, p)
  | [], _, _, hm => by cases hm
  | (n', d') :: r, ps, h, hm => by
    obtain ⟨g, t, cs, fuel, p, q, h1, h2, h3, h4, h5, _⟩ := h
    rcases List.mem_cons.1 hm with e | hm
    · injection e with e1 e2
      subst e1 e2
      exact ⟨g, t, cs, fuel, p, h1, h2, h3, h4⟩
    · exact laid_at h5 hm

theorem gPowType : (Tryd.prog.globals[1]?).map (·.type) = some 112 := by kernel_rfl
theorem gAll : Tryd.prog.globalNamed "hostler/event.all" = some 0 := by kernel_rfl
theorem gAllType : (Tryd.prog.globals[0]?).map (·.type) = some 93 := by kernel_rfl

theorem tab_of {W : World} {l : List (String × DataW Unit)} (h : laidMet Tryd.prog l W) (hm : ("internal/strconv.uint64pow10", Rows.laid_internal_strconv_uint64pow10) ∈ l) : TabAt W := by
  obtain ⟨ps, hl, _⟩ := h
  obtain ⟨g, t, cs, fuel, p, hg, ht, hv, hd⟩ := laid_at hl hm
  obtain rfl := Option.some.inj (gPow.symm.trans hg)
  obtain rfl := Option.some.inj (gPowType.symm.trans ht)
  unfold TabAt Lib.TabIs
  rw [hv, ← Lib.cells_of_tab (k := .u64) (zs := Lib.pow10Tab) Tryd.underlying112 Tryd.underlying77 (by kernel_rfl) (by kernel_rfl) hd]

theorem three {r : List Value} {a b c : Value} (h : r.length = 3) (h0 : (r.drop 0).take 1 = [a]) (h1 : (r.drop 1).take 1 = [b]) (h2 : (r.drop 2).take 1 = [c]) : r = [a, b, c] := by
  match r, h with
  | [x, y, z], _ => simp at h0 h1 h2; simp [h0, h1, h2]

theorem kinds_of {W : World} {l : List (String × DataW Unit)} (h : laidMet Tryd.prog l W) (hm : ("hostler/event.all", Rows.laid_hostler_event_all) ∈ l) : KindsAt W := by
  obtain ⟨ps, hl, _⟩ := h
  obtain ⟨g, t, cs, fuel, p, hg, ht, hv, hd⟩ := laid_at hl hm
  obtain rfl := Option.some.inj (gAll.symm.trans hg)
  obtain rfl := Option.some.inj (gAllType.symm.trans ht)
  obtain ⟨xs, m, rfl, _, hlen, hxl, hx⟩ := DataW.trod_array Tryd.underlying93 hd
  have c80 : Tryd.prog.cellsOf 80 = 3 := by kernel_rfl
  have c9 : Tryd.prog.cellsOf 9 = 1 := by kernel_rfl
  have c78 : Tryd.prog.cellsOf 78 = 1 := by kernel_rfl
  have key : ∀ k : Nat, k < 8 → ∃ s x y, (cs.toList.drop (k * 3)).take 3 = [.string s, .int .u64 x, .int .u64 y] := by
    intro k hk
    have hk2 := hx k hk
    rw [c80, List.getElem?_eq_getElem (by omega)] at hk2
    obtain ⟨y0, y1, y2, n, _, hl3, h0, h1, h2⟩ := Deep.trod_struct3 Tryd.underlying80 hk2
    rw [c80] at hl3
    obtain ⟨s, e0, _⟩ := DataW.trod_string Tryd.underlying9 h0
    obtain ⟨x, e1, _⟩ := DataW.trod_int (k := .u64) (by kernel_rfl) h1
    obtain ⟨y, e2, _⟩ := DataW.trod_int (k := .u64) (by kernel_rfl) h2
    dsimp only at e0 e1 e2
    rw [c9] at e0
    rw [c78] at e1 e2
    exact ⟨s, x, y, three hl3 e0 e1 e2⟩
  have hlt : 0 < W.heap.size := by
    unfold World.var? at hv
    rw [gAll] at hv
    simp only [Option.bind_some] at hv
    rcases Nat.lt_or_ge 0 W.heap.size with h' | h'
    · exact h'
    · simp [Array.getElem?_eq_none h'] at hv
  have at3 : ∀ (k j : Nat) (v : Value), (∃ r, (cs.toList.drop (k * 3)).take 3 = r ∧ r[j]? = some v) → W.cell? ⟨0, k * 3 + j, none⟩ = some v := by
    rintro k j v ⟨r, e, hr⟩
    rw [World.var?_cell gAll hv]
    rw [← e, List.getElem?_take] at hr
    split at hr
    · rw [List.getElem?_drop] at hr
      simpa using hr
    · cases hr
  refine ⟨fun k hk => ?_, fun k hk => ?_, fun k hk => ?_, hlt⟩
  · obtain ⟨s, x, y, e⟩ := key k hk
    exact ⟨s, at3 k 0 _ ⟨_, e, rfl⟩⟩
  · obtain ⟨s, x, y, e⟩ := key k hk
    exact ⟨x, at3 k 1 _ ⟨_, e, rfl⟩⟩
  · obtain ⟨s, x, y, e⟩ := key k hk
    exact ⟨y, at3 k 2 _ ⟨_, e, rfl⟩⟩

/-- 'post_of_same' for a row that asks nothing of a second reading: what is frozen above the call's beginning does not matter. -/
theorem post_kept {H : Type} {enc : TypeId × Value → H} {P : Program} {f : Func} {s : ChangeSpec} {apart fresh handsOn : Bool} {W W' : World} {args : Array Value} {v : Value} {ds gs : List (DataW H)} {before pa pv : List MemPlace}
    (hW : DataW.Whole enc P f.params.toList s.vars apart W args.toList ds gs before)
    (hres : ∀ (b : Nat) (sp : Nat → Bool) (hd : Bool), DataW.TrodAll enc P W' b sp hd f.resultTypes.toList (v.resultList f.resultTypes.size) (s.fn H (ds ++ gs)).results [])
    (hargs : ∀ sp : Nat → Bool, (∀ p ∈ before, sp p.block = true) → DataW.TrodAll enc P W' 0 sp true f.params.toList args.toList (s.fn H (ds ++ gs)).args pa)
    (hvars : ∀ sp : Nat → Bool, (∀ p ∈ before, sp p.block = true) → DataW.TrodVars enc P W' sp s.vars (s.fn H (ds ++ gs)).vars pv)
    (hps : before = pa ++ pv) (hk : W.keptBut W' (· ∈ before)) :
    s.post enc P f apart fresh handsOn false W args v W' := by
  have hold : ∀ p ∈ before, (fun b => decide (b < W.heap.size)) p.block = true := fun p hp => by simpa using hW.lt p hp
  refine ⟨ds, gs, before, [], pa, pv, hW, hres _ _ _, hargs _ hold, hvars _ hold, World.keptBut_mono (fun p hp => ⟨hp, ?_⟩) hk, fun h => by cases h⟩
  rw [hps, List.mem_append] at hp
  exact Or.inr hp

/-- A table laid at its block. -/
noncomputable def World.lay (w : World) (g : Nat) (cs : Array Value) : World :=
  { w with heap := w.heap.modify g fun
      | .cells _ t frozen => .cells cs t frozen
      | o => o }
noncomputable def cells_internal_strconv_uint64pow10 : Array Value := #[.int .u64 1, .int .u64 10, .int .u64 100, .int .u64 1000, .int .u64 10000, .int .u64 100000, .int .u64 1000000, .int .u64 10000000, .int .u64 100000000, .int .u64 1000000000, .int .u64 10000000000, .int .u64 100000000000, .int .u64 1000000000000, .int .u64 10000000000000, .int .u64 100000000000000, .int .u64 1000000000000000, .int .u64 10000000000000000, .int .u64 100000000000000000, .int .u64 1000000000000000000, .int .u64 10000000000000000000]
noncomputable def cells_hostler_event_all : Array Value := #[.string ⟨#[115, 112, 97, 119, 110]⟩, .int .u64 0, .int .u64 1, .string ⟨#[114, 101, 97, 100, 121]⟩, .int .u64 0, .int .u64 1, .string ⟨#[100, 105, 115, 112, 97, 116, 99, 104]⟩, .int .u64 1, .int .u64 2, .string ⟨#[121, 105, 101, 108, 100]⟩, .int .u64 2, .int .u64 1, .string ⟨#[98, 108, 111, 99, 107]⟩, .int .u64 2, .int .u64 3, .string ⟨#[115, 108, 101, 101, 112]⟩, .int .u64 2, .int .u64 4, .string ⟨#[119, 97, 105, 116]⟩, .int .u64 2, .int .u64 5, .string ⟨#[101, 120, 105, 116]⟩, .int .u64 2, .int .u64 6]
noncomputable def cells_math_bits_deBruijn32tab : Array Value := #[.int .u8 0, .int .u8 1, .int .u8 28, .int .u8 2, .int .u8 29, .int .u8 14, .int .u8 24, .int .u8 3, .int .u8 30, .int .u8 22, .int .u8 20, .int .u8 15, .int .u8 25, .int .u8 17, .int .u8 4, .int .u8 8, .int .u8 31, .int .u8 27, .int .u8 13, .int .u8 23, .int .u8 21, .int .u8 19, .int .u8 16, .int .u8 7, .int .u8 26, .int .u8 12, .int .u8 18, .int .u8 6, .int .u8 11, .int .u8 5, .int .u8 10, .int .u8 9]
noncomputable def cells_math_bits_deBruijn64tab : Array Value := #[.int .u8 0, .int .u8 1, .int .u8 56, .int .u8 2, .int .u8 57, .int .u8 49, .int .u8 28, .int .u8 3, .int .u8 61, .int .u8 58, .int .u8 42, .int .u8 50, .int .u8 38, .int .u8 29, .int .u8 17, .int .u8 4, .int .u8 62, .int .u8 47, .int .u8 59, .int .u8 36, .int .u8 45, .int .u8 43, .int .u8 51, .int .u8 22, .int .u8 53, .int .u8 39, .int .u8 33, .int .u8 30, .int .u8 24, .int .u8 18, .int .u8 12, .int .u8 5, .int .u8 63, .int .u8 55, .int .u8 48, .int .u8 27, .int .u8 60, .int .u8 41, .int .u8 37, .int .u8 16, .int .u8 46, .int .u8 35, .int .u8 44, .int .u8 21, .int .u8 52, .int .u8 32, .int .u8 23, .int .u8 11, .int .u8 54, .int .u8 26, .int .u8 40, .int .u8 15, .int .u8 34, .int .u8 20, .int .u8 31, .int .u8 10, .int .u8 25, .int .u8 14, .int .u8 19, .int .u8 9, .int .u8 13, .int .u8 8, .int .u8 7, .int .u8 6]
/-- A WORLD FOR THE WITNESS. -/
noncomputable def laidWorld (os : Os) : World := (World.lay (World.lay (World.lay (World.lay (World.holding Tryd.prog os ⟨#[], #[], []⟩) 1 cells_internal_strconv_uint64pow10) 0 cells_hostler_event_all) 5 cells_math_bits_deBruijn32tab) 6 cells_math_bits_deBruijn64tab)
end Go.Proofs.YtnkbddebafcjbaaDoor
