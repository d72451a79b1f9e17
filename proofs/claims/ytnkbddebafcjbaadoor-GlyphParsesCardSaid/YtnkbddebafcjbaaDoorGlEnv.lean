/-
  What the rows of GlyphPrints and GlyphParses list gives; a world for the witness.
-/
import Derived.Lib.LaidU8
import Derived.Stop.LaidErr
import Derived.Test.YtnkbddebafcjbaaDoorGlTabs
import Derived.Test.YtnkbddebafcjbaaDoorGlArg
import Derived.Test.YtnkbddebafcjbaaDoorGlPrints
namespace Go.Proofs.YtnkbddebafcjbaaDoor
open Go Go.ChangeShapes Go.WideShapes Go.ChangeAt Go.RowKit Go.Proofs

theorem starE : "*" ++ "errors.errorString" = "*errors.errorString" := by decide
theorem rowE (u : TypeId) (h : Tryd.prog.typeName? 3 u = some "*errors.errorString") : u = 139 :=
  typeName_ptr_named (nm := "errors.errorString") (by rw [starE]; kernel_rfl) (by kernel_rfl) (by decide) u (by rw [starE]; exact h)
set_option maxRecDepth 1000000 in
theorem env_of {W : World} (h : laidMet Tryd.prog Rows.glyphPrintsRow.laid W) : Env W := by
  have hL : laidMet Tryd.prog [("math/bits.deBruijn32tab", Rows.laid_math_bits_deBruijn32tab), ("math/bits.deBruijn64tab", Rows.laid_math_bits_deBruijn64tab), ("internal/strconv.uint64pow10", Rows.laid_internal_strconv_uint64pow10), ("unicode/utf8.acceptRanges", Rows.laid_unicode_utf8_acceptRanges), ("hostler/event.all", Rows.laid_hostler_event_all), ("strconv.ErrRange", Rows.laid_strconv_ErrRange), ("strconv.ErrSyntax", Rows.laid_strconv_ErrSyntax), ("unicode/utf8.first", Rows.laid_unicode_utf8_first)] W := h
  have h5 := hL.tail.tail.tail.tail.tail
  have h6 := h5.tail
  obtain ⟨a0, t0, hv0, _, _, _⟩ := laid_sentinel (g := 8) (te := 141) (ts := 9) h5 (by kernel_rfl) (by kernel_rfl) Tryd.underlying64 rowE Tryd.underlying139 Tryd.underlying141 rfl rfl Tryd.underlying9 (by kernel_rfl) (by kernel_rfl)
  obtain ⟨a1, t1, hv1, _, _, _⟩ := laid_sentinel (g := 7) (te := 141) (ts := 9) h6 (by kernel_rfl) (by kernel_rfl) Tryd.underlying64 rowE Tryd.underlying139 Tryd.underlying141 rfl rfl Tryd.underlying9 (by kernel_rfl) (by kernel_rfl)
  have hU : U8At W := utf8Tabs_of_reads (ρ := Tryd.lays260_ren) Tryd.lays260 ⟨by kernel_rfl, by kernel_rfl, by kernel_rfl, by kernel_rfl, by kernel_rfl, by kernel_rfl, by kernel_rfl⟩
    (Lib.laidMet.reads hL (.tail _ (.tail _ (.tail _ (.tail _ (.tail _ (.tail _ (.tail _ (.head _))))))))) (Lib.laidMet.reads hL (.tail _ (.tail _ (.tail _ (.head _)))))
  exact ⟨kinds_of hL (.tail _ (.tail _ (.tail _ (.tail _ (.head _))))), tab_of hL (.tail _ (.tail _ (.head _))), ⟨⟨_, _, hv1⟩, ⟨_, _, hv0⟩⟩, hU⟩
theorem max_of {W : World} (h : W.ShapedOpen Tryd.prog) : MaxAt W := Tryd.laysM143.s1_3 W h

noncomputable def low : Nat := (World.holding Tryd.prog default ⟨#[], #[], []⟩).heap.size
noncomputable def numsOf (n : Nat) (f : Nat → Nat) : Array Value := ((List.range n).map fun k => Value.int .u8 (f k : Int)).toArray
noncomputable def cells_first : Array Value := ((List.range 256).map fun k => Value.int .u8 (Lib.firstT k : Int)).toArray
noncomputable def cells_accept : Array Value := ((List.range 16).flatMap fun k => [Value.int .u8 (Lib.accLo k : Int), Value.int .u8 (Lib.accHi k : Int)]).toArray
/-- A WORLD FOR THE WITNESS. -/
noncomputable def laidWorldP (os : Os) : World := World.lay (World.lay (World.lay (World.lay (World.lay (World.lay (World.lay (World.lay (World.holding Tryd.prog os ⟨#[.cells #[.string ⟨#[118, 97, 108, 117, 101, 32, 111, 117, 116, 32, 111, 102, 32, 114, 97, 110, 103, 101]⟩] 141, .cells #[.string ⟨#[105, 110, 118, 97, 108, 105, 100, 32, 115, 121, 110, 116, 97, 120]⟩] 141], #[], []⟩) 1 cells_internal_strconv_uint64pow10) 0 cells_hostler_event_all) 5 cells_math_bits_deBruijn32tab) 6 cells_math_bits_deBruijn64tab)
  2 cells_first) 3 cells_accept) 8 #[.iface 139 (.pointer (some ⟨low, 0, none⟩))]) 7 #[.iface 139 (.pointer (some ⟨low + 1, 0, none⟩))]
end Go.Proofs.YtnkbddebafcjbaaDoor
