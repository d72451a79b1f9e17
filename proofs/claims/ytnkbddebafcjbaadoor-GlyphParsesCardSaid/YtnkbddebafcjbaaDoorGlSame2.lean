/-
  Two rows that hold the same events are told to be so.
-/
import Derived.Laws.StructEq
import Derived.Deep.RegionHeld3
import Derived.Test.YtnkbddebafcjbaaDoorGlSame
namespace Go.Proofs.YtnkbddebafcjbaaDoor
open Go Go.RowKit Go.Proofs

theorem neq_ref (e : Ev) (w : World) : (binOp .neq 42 (.agg #[.int .i64 e.k, .int .i64 e.g, .int .i64 e.m, .int .i64 e.p, .int .i64 e.v]) (.agg #[.int .i64 e.k, .int .i64 e.g, .int .i64 e.m, .int .i64 e.p, .int .i64 e.v])).run Tryd.prog w = .ok (.bool false) w := by
  rw [run_neq_struct, run_equalIn_struct w 9999 42 _ _ (by kernel_rfl) (by kernel_rfl)]
  simp only [Program.fieldsOf, Tryd.underlying42, Op.eqFields]
  simp [go_sem, Tryd.underlying3, Tryd.underlying2, Result.andThen]

set_option maxHeartbeats 8000000 in
set_option maxRecDepth 100000 in
theorem same_cells (b o c b2 c2 : Nat) (l : List Ev) (hc : l.length ≤ 100000) (w : World) (hE : EvCells w b o l) (hF : EvCells w b2 0 l) :
    Calls Tryd.prog 23 #[.slice (some ⟨b, o, none⟩) l.length c, .slice (some ⟨b2, 0, none⟩) l.length c2] w fun r w' => r = .returned (.bool true) ∧ Below w.heap.size w w' := by
  go_enter Tryd.func23, Tryd.ntmps23
  go_wp2
  go_loopw [13] (fun iv wr => ∃ j : Nat, iv = .int .i64 (j : Int) ∧ j ≤ l.length ∧ Below w.heap.size w wr) (fun iv _ => l.length + 1 - iOf iv)
  case atStart => exact ⟨0, rfl, Nat.zero_le _, Below.refl _ _⟩
  case round =>
    obtain ⟨j, rfl, hj, K⟩ := hrel
    by_cases hp : j < l.length
    · obtain ⟨e, he⟩ : ∃ e, l[j]? = some e := ⟨_, List.getElem?_eq_getElem hp⟩
      have hE2 := hE.below hE.lt K
      have hF2 := hF.below hF.lt K
      have c0 := hE2.ck j e he
      have c1 := hE2.cg j e he
      have c2' := hE2.cm j e he
      have c3 := hE2.cp j e he
      have c4 := hE2.cv j e he
      have d0 := hF2.ck j e he
      have d1 := hF2.cg j e he
      have d2 := hF2.cm j e he
      have d3 := hF2.cp j e he
      have d4 := hF2.cv j e he
      simp only [Nat.zero_add] at d0 d1 d2 d3 d4
      have hr := ref_any e
      simp only [evV] at hr
      have hq := fun w => neq_ref e w
      have hpi : (j : Int) < l.length := by omega
      have hlt := hE2.lt
      have hlt2 := hF2.lt
      have hj0 : 0 ≤ (j : Int) := by omega
      clear he hE2 hF2
      have HR := Lib.hid hr
      clear hr
      go_wp2
      go_region_held3 (fun w' => w'.cell? ⟨b, o + j * 5, none⟩ = some (.int .i64 e.k) ∧ w'.cell? ⟨b, o + j * 5 + 1, none⟩ = some (.int .i64 e.g) ∧ w'.cell? ⟨b, o + j * 5 + 2, none⟩ = some (.int .i64 e.m) ∧ w'.cell? ⟨b, o + j * 5 + 3, none⟩ = some (.int .i64 e.p) ∧ w'.cell? ⟨b, o + j * 5 + 4, none⟩ = some (.int .i64 e.v) ∧
          w'.cell? ⟨b2, j * 5, none⟩ = some (.int .i64 e.k) ∧ w'.cell? ⟨b2, j * 5 + 1, none⟩ = some (.int .i64 e.g) ∧ w'.cell? ⟨b2, j * 5 + 2, none⟩ = some (.int .i64 e.m) ∧ w'.cell? ⟨b2, j * 5 + 3, none⟩ = some (.int .i64 e.p) ∧ w'.cell? ⟨b2, j * 5 + 4, none⟩ = some (.int .i64 e.v))
        (first | go_keep | (refine ⟨?_, ?_, ?_, ?_, ?_, ?_, ?_, ?_, ?_, ?_⟩ <;> (rw [below_cell (by assumption) (by assumption)]; first | assumption | go_keep)))
        ((go_at_call 17; refine (HR.out _).mono ?_; rintro e w' ⟨rfl, hb⟩))
      have K2 := K.drew.trans (hb.mono (by simpa using K.size))
      clear hb c0 c1 c2' c3 c4 d0 d1 d2 d3 d4 hq
      go_wp2
      go_roundw
      case rel => exact ⟨j + 1, by simp, by omega, K2⟩
      case measure => simp only [iOf_int]; omega
    · obtain rfl : j = l.length := by omega
      clear hp
      go_wp2
      go_returns
      exact ⟨rfl, K⟩
set_option maxHeartbeats 8000000 in
set_option maxRecDepth 100000 in
theorem same_none (pa pb : Option Addr) (c c2 : Nat) (w : World) :
    Calls Tryd.prog 23 #[.slice pa 0 c, .slice pb 0 c2] w fun r w' => r = .returned (.bool true) ∧ w' = w := by
  go_enter Tryd.func23, Tryd.ntmps23
  go_wp2
  refine wp_loop_rounds 1 ?_
  rw [rounds_succ]
  go_wp2
  go_returns
  exact ⟨rfl, rfl⟩
theorem evArg_slice {w : World} {v : Value} {l : List Ev} (h : EvArg w v l) : ∃ a c, v = .slice a l.length c ∧ (l = [] ∨ ∃ b o, a = some ⟨b, o, none⟩ ∧ EvCells w b o l) := by
  rcases h with ⟨rfl, rfl⟩ | ⟨a, c, rfl, rfl⟩ | ⟨b, o, c, rfl, hE⟩
  · exact ⟨none, 0, rfl, .inl rfl⟩
  · exact ⟨some a, c, rfl, .inl rfl⟩
  · exact ⟨some ⟨b, o, none⟩, c, rfl, .inr ⟨b, o, rfl, hE⟩⟩
theorem rfArg_slice {w : World} {v : Value} {l : List Ev} (h : RfArg w v l) : ∃ a c, v = .slice a l.length c ∧ (l = [] ∨ ∃ b, a = some ⟨b, 0, none⟩ ∧ EvCells w b 0 l) := by
  rcases h with ⟨rfl, rfl⟩ | ⟨b, c, rfl, hE⟩
  · exact ⟨none, 0, rfl, .inl rfl⟩
  · exact ⟨some ⟨b, 0, none⟩, c, rfl, .inr ⟨b, rfl, hE⟩⟩
theorem same_any {w : World} {u v : Value} {l : List Ev} (hA : EvArg w u l) (hR : RfArg w v l) (hc : l.length ≤ 100000) :
    Calls Tryd.prog 23 #[u, v] w fun r w' => r = .returned (.bool true) ∧ Below w.heap.size w w' := by
  obtain ⟨a, c, rfl, h1⟩ := evArg_slice hA
  obtain ⟨b, c2, rfl, h2⟩ := rfArg_slice hR
  by_cases hl : l = []
  · subst hl
    refine (same_none a b c c2 w).mono ?_
    rintro r w' ⟨rfl, rfl⟩
    exact ⟨rfl, Below.refl _ _⟩
  · obtain ⟨b1, o, rfl, hE⟩ := h1.resolve_left hl
    obtain ⟨b2, rfl, hF⟩ := h2.resolve_left hl
    exact same_cells b1 o c b2 c2 l hc w hE hF
end Go.Proofs.YtnkbddebafcjbaaDoor
