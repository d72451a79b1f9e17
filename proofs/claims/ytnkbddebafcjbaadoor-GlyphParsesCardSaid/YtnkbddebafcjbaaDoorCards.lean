/-
  DERIVED. GIVEN WITH THE SEED: THE CARDS: each row of YtnkbddebafcjbaaDoorRows.lean that lists a variable, with what it lists TIED to the program's text (the seventh form; the later family's looks); each row that meets fmt, with fmt's text TOLD by the authors' own Lean function (tested against real Go, not proved from fmt's source: count such statements apart). THE CARD IS WHAT COUNTS. Prove the row's statement (the work); the ties are given (YtnkbddebafcjbaaDoorTie.lean); close each card by the builder's one call (the guide's Derived/Test/ToyasCard.lean, 'card_holds'). Laid BY PROGRAM, IN A SANDBOX (cutbox-door.mjs). By AI agents, Wed Nov 11 2026. No macro, syntax, notation, axiom, sorry.
-/
import Derived.Test.YtnkbddebafcjbaaDoorRows
import GoSem.ClaimSeven
namespace Go.Proofs.YtnkbddebafcjbaaDoor
namespace Rows

/-- THE TIED CARD OF 'hostlerlaw16.GlyphKinds'. -/
def glyphKindsCard : Claim7 := { stood := { row := glyphKindsRow, standIns := [], harness := (true, "4e71b90325c78cec706c1f03fed5c342ad6fe6bd7411229adef58ac0b3e030de"), looks := true }, kinds := [], alts := [], laidByText := true, laidKinds := [.data, .data, .data, .data], laidTests := true, laidLooks := .later }
def GlyphKindsCardSaid : Prop := Claim7.holds Tryd.pinned (.plain (OpenSpec.ofChange glyphKindsSpec)) glyphKindsCard

/-- THE TIED CARD OF 'hostlerlaw16.GlyphRunes'. -/
def glyphRunesCard : Claim7 := { stood := { row := glyphRunesRow, standIns := [], harness := (true, "4e71b90325c78cec706c1f03fed5c342ad6fe6bd7411229adef58ac0b3e030de"), looks := true }, kinds := [], alts := [], laidByText := true, laidKinds := [.data, .data, .data, .data], laidTests := true, laidLooks := .later }
def GlyphRunesCardSaid : Prop := Claim7.holds Tryd.pinned (.plain (OpenSpec.ofChange glyphRunesSpec)) glyphRunesCard

/-- THE TIED CARD OF 'hostlerlaw16.GlyphJoins'. -/
def glyphJoinsCard : Claim7 := { stood := { row := glyphJoinsRow, standIns := [], harness := (true, "4e71b90325c78cec706c1f03fed5c342ad6fe6bd7411229adef58ac0b3e030de"), looks := true }, kinds := [], alts := [], laidByText := true, laidKinds := [.data, .data, .data, .data], laidTests := true, laidLooks := .later }
def GlyphJoinsCardSaid : Prop := Claim7.holds Tryd.pinned (.plain (OpenSpec.ofChange glyphJoinsSpec)) glyphJoinsCard

/-- THE TIED CARD OF 'hostlerlaw16.GlyphPrints'. -/
def glyphPrintsCard : Claim7 := { stood := { row := glyphPrintsRow, standIns := [], harness := (true, "4e71b90325c78cec706c1f03fed5c342ad6fe6bd7411229adef58ac0b3e030de"), looks := true }, kinds := [], alts := [], laidByText := true, laidKinds := [.data, .data, .data, .data, .data, .sentinel, .sentinel, .pinned], laidTests := true, laidLooks := .later }
def GlyphPrintsCardSaid : Prop := Claim7.holds Tryd.pinned (.plain (OpenSpec.ofChange glyphPrintsSpec)) glyphPrintsCard

/-- THE TIED CARD OF 'hostlerlaw16.GlyphParses'. -/
def glyphParsesCard : Claim7 := { stood := { row := glyphParsesRow, standIns := [], harness := (true, "4e71b90325c78cec706c1f03fed5c342ad6fe6bd7411229adef58ac0b3e030de"), looks := true }, kinds := [], alts := [], laidByText := true, laidKinds := [.data, .data, .data, .data, .data, .sentinel, .sentinel, .pinned], laidTests := true, laidLooks := .later }
def GlyphParsesCardSaid : Prop := Claim7.holds Tryd.pinned (.plain (OpenSpec.ofChange glyphParsesSpec)) glyphParsesCard

/-- THE SECOND FORM's CARD OF 'hostlerlaw16.GlyphKinds'. -/
def glyphKindsUptoCard : Claim7 := { stood := { row := glyphKindsUptoRow, standIns := [], harness := (true, "4e71b90325c78cec706c1f03fed5c342ad6fe6bd7411229adef58ac0b3e030de"), looks := true }, kinds := [], alts := [], laidByText := true, laidKinds := [.data, .data, .data, .data], laidTests := true, laidLooks := .later }
def GlyphKindsUptoCardSaid : Prop := Claim7.holds Tryd.pinned (.plain (OpenSpec.upto glyphKindsSpec)) glyphKindsUptoCard

/-- THE SECOND FORM's CARD OF 'hostlerlaw16.GlyphRunes'. -/
def glyphRunesUptoCard : Claim7 := { stood := { row := glyphRunesUptoRow, standIns := [], harness := (true, "4e71b90325c78cec706c1f03fed5c342ad6fe6bd7411229adef58ac0b3e030de"), looks := true }, kinds := [], alts := [], laidByText := true, laidKinds := [.data, .data, .data, .data], laidTests := true, laidLooks := .later }
def GlyphRunesUptoCardSaid : Prop := Claim7.holds Tryd.pinned (.plain (OpenSpec.upto glyphRunesSpec)) glyphRunesUptoCard

/-- THE SECOND FORM's CARD OF 'hostlerlaw16.GlyphJoins'. -/
def glyphJoinsUptoCard : Claim7 := { stood := { row := glyphJoinsUptoRow, standIns := [], harness := (true, "4e71b90325c78cec706c1f03fed5c342ad6fe6bd7411229adef58ac0b3e030de"), looks := true }, kinds := [], alts := [], laidByText := true, laidKinds := [.data, .data, .data, .data], laidTests := true, laidLooks := .later }
def GlyphJoinsUptoCardSaid : Prop := Claim7.holds Tryd.pinned (.plain (OpenSpec.upto glyphJoinsSpec)) glyphJoinsUptoCard

/-- THE SECOND FORM's CARD OF 'hostlerlaw16.GlyphPrints'. -/
def glyphPrintsUptoCard : Claim7 := { stood := { row := glyphPrintsUptoRow, standIns := [], harness := (true, "4e71b90325c78cec706c1f03fed5c342ad6fe6bd7411229adef58ac0b3e030de"), looks := true }, kinds := [], alts := [], laidByText := true, laidKinds := [.data, .data, .data, .data, .data, .sentinel, .sentinel, .pinned], laidTests := true, laidLooks := .later }
def GlyphPrintsUptoCardSaid : Prop := Claim7.holds Tryd.pinned (.plain (OpenSpec.upto glyphPrintsSpec)) glyphPrintsUptoCard

/-- THE SECOND FORM's CARD OF 'hostlerlaw16.GlyphParses'. -/
def glyphParsesUptoCard : Claim7 := { stood := { row := glyphParsesUptoRow, standIns := [], harness := (true, "4e71b90325c78cec706c1f03fed5c342ad6fe6bd7411229adef58ac0b3e030de"), looks := true }, kinds := [], alts := [], laidByText := true, laidKinds := [.data, .data, .data, .data, .data, .sentinel, .sentinel, .pinned], laidTests := true, laidLooks := .later }
def GlyphParsesUptoCardSaid : Prop := Claim7.holds Tryd.pinned (.plain (OpenSpec.upto glyphParsesSpec)) glyphParsesUptoCard
end Rows
end Go.Proofs.YtnkbddebafcjbaaDoor
