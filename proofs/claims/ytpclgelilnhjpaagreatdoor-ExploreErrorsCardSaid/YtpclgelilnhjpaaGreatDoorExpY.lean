/-
  A config, as it is read; the witness's world of ExploreErrors.
-/
import Derived.Deep.Slices
import Derived.Deep.Fields
import Derived.ReadAgain
import Derived.Test.YtpclgelilnhjpaaGreatDoorLaid
set_option linter.unusedVariables false
set_option linter.unusedSimpArgs false
set_option linter.unusedSectionVars false
namespace Go.Proofs.YtpclgelilnhjpaaGreatDoor
open Go Go.RowKit Hst Go.Proofs Go.WideShapes Go.Deep

structure Cfg where
  p : Int
  m : Int
  g : Int
def cfgC (c : Cfg) : Array Value := #[.int .i64 c.p, .int .i64 c.m, .int .i64 c.g]
theorem kids : Kids Tryz.prog (· < Tryz.prog.types.size) := kids_rows (by kernel_rfl) (by kernel_rfl)
theorem full : ∀ t e, t < Tryz.prog.types.size → Tryz.prog.underlying t = some (.slice e) → 0 < Tryz.prog.cellsOf e := slices_full_of Tryz.prog (by kernel_rfl)

theorem trodAll_carry {H : Type} {enc : TypeId × Value → H} {W W' : World} {base : Nat} {sp : Nat → Bool} {held : Bool} : ∀ {ts : List TypeId} {vs : List Value} {ds : List (DataW H)} {ps : List MemPlace},
    DataW.TrodAll enc Tryz.prog W base sp held ts vs ds ps → (∀ p ∈ ps, W.sameAt W' p) → DataW.TrodAll enc Tryz.prog W' base sp held ts vs ds ps
  | [], [], [], _, h, _ => h
  | _ :: _, _ :: _, _ :: _, _, ⟨p, q, ⟨n, h1⟩, h2, e⟩, hs =>
    ⟨p, q, ⟨n, DataW.trod_carry n _ _ _ h1 (fun x hx => hs x (by rw [e]; exact List.mem_append_left _ hx))⟩, trodAll_carry h2 (fun x hx => hs x (by rw [e]; exact List.mem_append_right _ hx)), e⟩
set_option maxRecDepth 100000 in
theorem open_cfg1 {H : Type} {enc : TypeId × Value → H} {W : World} {fuel : Nat} {cs : List Value} {x : DataW H × List MemPlace} (h : DataW.trod enc Tryz.prog W 0 (fun _ => true) true fuel 29 cs = some x) :
    ∃ c : Cfg, cs = (cfgC c).toList ∧ c.m ≤ 9223372036854775807 := by
  have k1 : Tryz.prog.cellsOf 29 = 3 := by kernel_rfl
  have k4 : Tryz.prog.cellsOf 3 = 1 := by kernel_rfl
  obtain ⟨z0, z1, z2, m, _, hl3, g0, g1, g2⟩ := Deep.trod_struct3 Tryz.underlying29 h
  rw [k1] at hl3
  obtain ⟨p, f0, _⟩ := DataW.trod_int (k := .i64) (by kernel_rfl) g0
  obtain ⟨q, f1, _, hq⟩ := DataW.trod_int (k := .i64) (by kernel_rfl) g1
  obtain ⟨g, f2, _⟩ := DataW.trod_int (k := .i64) (by kernel_rfl) g2
  dsimp only at f0 f1 f2
  rw [k4] at f0 f1 f2
  have hb := i64_of hq
  exact ⟨⟨p, q, g⟩, three hl3 f0 f1 f2, by show q ≤ _; omega⟩
set_option maxRecDepth 100000 in
theorem open_cfg {H : Type} {enc : TypeId × Value → H} {W : World} {base : Nat} {v : Value} {d : DataW H} {p : List MemPlace} (hval : Value.okWide Tryz.prog W .any base 29 v)
    (h : DataW.Trod enc Tryz.prog W 0 (fun _ => true) true 29 v d p) : ∃ c : Cfg, v = .agg (cfgC c) ∧ c.m ≤ 9223372036854775807 := by
  obtain ⟨cs, rfl, _⟩ := WideShapes.okWide_struct Tryz.underlying29 hval
  obtain ⟨fuel, hf⟩ := h
  obtain ⟨r, he, hn⟩ := open_cfg1 hf
  refine ⟨r, ?_, hn⟩
  have : cs.toList = (cfgC r).toList := he
  rw [Array.toList_inj.1 this]

noncomputable def cells_math_bits_deBruijn32tab : Array Value := #[.int .u8 0, .int .u8 1, .int .u8 28, .int .u8 2, .int .u8 29, .int .u8 14, .int .u8 24, .int .u8 3, .int .u8 30, .int .u8 22, .int .u8 20, .int .u8 15, .int .u8 25, .int .u8 17, .int .u8 4, .int .u8 8, .int .u8 31, .int .u8 27, .int .u8 13, .int .u8 23, .int .u8 21, .int .u8 19, .int .u8 16, .int .u8 7, .int .u8 26, .int .u8 12, .int .u8 18, .int .u8 6, .int .u8 11, .int .u8 5, .int .u8 10, .int .u8 9]
noncomputable def cells_internal_strconv_uint64pow10 : Array Value := #[.int .u64 1, .int .u64 10, .int .u64 100, .int .u64 1000, .int .u64 10000, .int .u64 100000, .int .u64 1000000, .int .u64 10000000, .int .u64 100000000, .int .u64 1000000000, .int .u64 10000000000, .int .u64 100000000000, .int .u64 1000000000000, .int .u64 10000000000000, .int .u64 100000000000000, .int .u64 1000000000000000, .int .u64 10000000000000000, .int .u64 100000000000000000, .int .u64 1000000000000000000, .int .u64 10000000000000000000]
noncomputable def laidWorldQ (os : Os) : World :=
  World.lay (World.lay (laidWorld os) 6 cells_math_bits_deBruijn32tab) 4 cells_internal_strconv_uint64pow10
end Go.Proofs.YtpclgelilnhjpaaGreatDoor
