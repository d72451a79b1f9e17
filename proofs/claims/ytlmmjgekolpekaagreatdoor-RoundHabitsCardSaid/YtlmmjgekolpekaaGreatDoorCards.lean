/-
  DERIVED. GIVEN WITH THE SEED: THE CARDS: each row of YtlmmjgekolpekaaGreatDoorRows.lean that lists a variable, with what it lists TIED to the program's text (the seventh form; the later family's looks); each row that meets fmt, with fmt's text TOLD by the authors' own Lean function (tested against real Go, not proved from fmt's source: count such statements apart). THE CARD IS WHAT COUNTS. Prove the row's statement (the work); the ties are given (YtlmmjgekolpekaaGreatDoorTie.lean); close each card by the builder's one call (the guide's Derived/Test/ToyasCard.lean, 'card_holds'). Laid BY PROGRAM, IN A SANDBOX (cutbox-door.mjs). By AI agents, Wed Nov 11 2026. No macro, syntax, notation, axiom, sorry.
-/
import Derived.Test.YtlmmjgekolpekaaGreatDoorRows
import GoSem.ClaimSeven
namespace Go.Proofs.YtlmmjgekolpekaaGreatDoor
namespace Rows

/-- THE TIED CARD OF 'hostlerlaw22.RoundUntil'. -/
def roundUntilCard : Claim7 := { stood := { row := roundUntilRow, standIns := [], harness := (true, "e10a68dd15961ea9fa99ad129fd69b497a6a6e0e095361cc0305094c160159d0"), looks := true }, kinds := [], alts := [], laidByText := true, laidKinds := [.data, .widerDeep, .data, .widerDeep], laidTests := true, laidLooks := .later }
def RoundUntilCardSaid : Prop := Claim7.holds Tryz.pinned (.plain (OpenSpec.ofChange roundUntilSpec)) roundUntilCard

/-- THE TIED CARD OF 'hostlerlaw22.RoundHabits'. -/
def roundHabitsCard : Claim7 := { stood := { row := roundHabitsRow, standIns := [], harness := (true, "e10a68dd15961ea9fa99ad129fd69b497a6a6e0e095361cc0305094c160159d0"), looks := true }, kinds := [], alts := [], laidByText := true, laidKinds := [.data, .widerDeep, .data, .widerDeep], laidTests := true, laidLooks := .later }
def RoundHabitsCardSaid : Prop := Claim7.holds Tryz.pinned (.plain (OpenSpec.ofChange roundHabitsSpec)) roundHabitsCard

/-- THE TIED CARD OF 'hostlerlaw22.RoundAll'. -/
def roundAllCard : Claim7 := { stood := { row := roundAllRow, standIns := [], harness := (true, "e10a68dd15961ea9fa99ad129fd69b497a6a6e0e095361cc0305094c160159d0"), looks := true }, kinds := [], alts := [], laidByText := true, laidKinds := [.data, .widerDeep, .data, .widerDeep], laidTests := true, laidLooks := .later }
def RoundAllCardSaid : Prop := Claim7.holds Tryz.pinned (.plain (OpenSpec.ofChange roundAllSpec)) roundAllCard

/-- THE TIED CARD OF 'hostlerlaw25.TraceFrom'. -/
def traceFromCard : Claim7 := { stood := { row := traceFromRow, standIns := [], harness := (true, "e10a68dd15961ea9fa99ad129fd69b497a6a6e0e095361cc0305094c160159d0"), looks := true }, kinds := [], alts := [], laidByText := true, laidKinds := [.data, .widerDeep, .data, .widerDeep], laidTests := true, laidLooks := .later }
def TraceFromCardSaid : Prop := Claim7.holds Tryz.pinned (.plain (OpenSpec.ofChange traceFromSpec)) traceFromCard

/-- THE TIED CARD OF 'hostlerlaw25.TraceOrder'. -/
def traceOrderCard : Claim7 := { stood := { row := traceOrderRow, standIns := [], harness := (true, "e10a68dd15961ea9fa99ad129fd69b497a6a6e0e095361cc0305094c160159d0"), looks := true }, kinds := [], alts := [], laidByText := true, laidKinds := [.data, .widerDeep, .data, .widerDeep], laidTests := true, laidLooks := .later }
def TraceOrderCardSaid : Prop := Claim7.holds Tryz.pinned (.plain (OpenSpec.ofChange traceOrderSpec)) traceOrderCard

/-- THE TIED CARD OF 'hostlerlaw25.TraceNever'. -/
def traceNeverCard : Claim7 := { stood := { row := traceNeverRow, standIns := [], harness := (true, "e10a68dd15961ea9fa99ad129fd69b497a6a6e0e095361cc0305094c160159d0"), looks := true }, kinds := [], alts := [], laidByText := true, laidKinds := [.data, .widerDeep, .data, .widerDeep], laidTests := true, laidLooks := .later }
def TraceNeverCardSaid : Prop := Claim7.holds Tryz.pinned (.plain (OpenSpec.ofChange traceNeverSpec)) traceNeverCard

/-- THE TIED CARD OF 'hostlerlaw20.WorldModel'. -/
def worldModelCard : Claim7 := { stood := { row := worldModelRow, standIns := [], harness := (true, "e10a68dd15961ea9fa99ad129fd69b497a6a6e0e095361cc0305094c160159d0"), looks := true }, kinds := [], alts := [], laidByText := true, laidKinds := [.data, .widerDeep, .data, .widerDeep], laidTests := true, laidLooks := .later }
def WorldModelCardSaid : Prop := Claim7.holds Tryz.pinned (.plain (OpenSpec.ofChange worldModelSpec)) worldModelCard

/-- THE TIED CARD OF 'hostlertop.TopRun'. -/
def topRunCard : Claim7 := { stood := { row := topRunRow, standIns := [], harness := (true, "e10a68dd15961ea9fa99ad129fd69b497a6a6e0e095361cc0305094c160159d0"), looks := true }, kinds := [], alts := [], laidByText := true, laidKinds := [.data, .widerDeep, .data, .widerDeep], laidTests := true, laidLooks := .later }
def TopRunCardSaid : Prop := Claim7.holds Tryz.pinned (.plain (OpenSpec.ofChange topRunSpec)) topRunCard

/-- THE TIED CARD OF 'hostlerlaw24.BoundNone'. -/
def boundNoneCard : Claim7 := { stood := { row := boundNoneRow, standIns := [], harness := (true, "e10a68dd15961ea9fa99ad129fd69b497a6a6e0e095361cc0305094c160159d0"), looks := true }, kinds := [], alts := [], laidByText := true, laidKinds := [.data, .widerDeep, .data, .widerDeep], laidTests := true, laidLooks := .later }
def BoundNoneCardSaid : Prop := Claim7.holds Tryz.pinned (.plain (OpenSpec.ofChange boundNoneSpec)) boundNoneCard

/-- THE TIED CARD OF 'hostlerlaw23.QuietHolds'. -/
def quietHoldsCard : Claim7 := { stood := { row := quietHoldsRow, standIns := [], harness := (true, "e10a68dd15961ea9fa99ad129fd69b497a6a6e0e095361cc0305094c160159d0"), looks := true }, kinds := [], alts := [], laidByText := true, laidKinds := [.data, .widerDeep, .data, .widerDeep], laidTests := true, laidLooks := .later }
def QuietHoldsCardSaid : Prop := Claim7.holds Tryz.pinned (.plain (OpenSpec.ofChange quietHoldsSpec)) quietHoldsCard

/-- THE TIED CARD OF 'hostlerlaw23.QuietAll'. -/
def quietAllCard : Claim7 := { stood := { row := quietAllRow, standIns := [], harness := (true, "e10a68dd15961ea9fa99ad129fd69b497a6a6e0e095361cc0305094c160159d0"), looks := true }, kinds := [], alts := [], laidByText := true, laidKinds := [.data, .widerDeep, .data, .widerDeep], laidTests := true, laidLooks := .later }
def QuietAllCardSaid : Prop := Claim7.holds Tryz.pinned (.plain (OpenSpec.ofChange quietAllSpec)) quietAllCard

/-- THE TIED CARD OF 'hostlerlaw20.WorldConfigs'. -/
def worldConfigsCard : Claim7 := { stood := { row := worldConfigsRow, standIns := [], harness := (true, "e10a68dd15961ea9fa99ad129fd69b497a6a6e0e095361cc0305094c160159d0"), looks := true }, kinds := [], alts := [], laidByText := true, laidKinds := [.data, .widerDeep, .data, .widerDeep], laidTests := true, laidLooks := .later }
def WorldConfigsCardSaid : Prop := Claim7.holds Tryz.pinned (.plain (OpenSpec.ofChange worldConfigsSpec)) worldConfigsCard

/-- THE SECOND FORM's CARD OF 'hostlerlaw22.RoundUntil'. -/
def roundUntilUptoCard : Claim7 := { stood := { row := roundUntilUptoRow, standIns := [], harness := (true, "e10a68dd15961ea9fa99ad129fd69b497a6a6e0e095361cc0305094c160159d0"), looks := true }, kinds := [], alts := [], laidByText := true, laidKinds := [.data, .widerDeep, .data, .widerDeep], laidTests := true, laidLooks := .later }
def RoundUntilUptoCardSaid : Prop := Claim7.holds Tryz.pinned (.plain (OpenSpec.upto roundUntilSpec)) roundUntilUptoCard

/-- THE SECOND FORM's CARD OF 'hostlerlaw22.RoundHabits'. -/
def roundHabitsUptoCard : Claim7 := { stood := { row := roundHabitsUptoRow, standIns := [], harness := (true, "e10a68dd15961ea9fa99ad129fd69b497a6a6e0e095361cc0305094c160159d0"), looks := true }, kinds := [], alts := [], laidByText := true, laidKinds := [.data, .widerDeep, .data, .widerDeep], laidTests := true, laidLooks := .later }
def RoundHabitsUptoCardSaid : Prop := Claim7.holds Tryz.pinned (.plain (OpenSpec.upto roundHabitsSpec)) roundHabitsUptoCard

/-- THE SECOND FORM's CARD OF 'hostlerlaw22.RoundAll'. -/
def roundAllUptoCard : Claim7 := { stood := { row := roundAllUptoRow, standIns := [], harness := (true, "e10a68dd15961ea9fa99ad129fd69b497a6a6e0e095361cc0305094c160159d0"), looks := true }, kinds := [], alts := [], laidByText := true, laidKinds := [.data, .widerDeep, .data, .widerDeep], laidTests := true, laidLooks := .later }
def RoundAllUptoCardSaid : Prop := Claim7.holds Tryz.pinned (.plain (OpenSpec.upto roundAllSpec)) roundAllUptoCard

/-- THE SECOND FORM's CARD OF 'hostlerlaw25.TraceFrom'. -/
def traceFromUptoCard : Claim7 := { stood := { row := traceFromUptoRow, standIns := [], harness := (true, "e10a68dd15961ea9fa99ad129fd69b497a6a6e0e095361cc0305094c160159d0"), looks := true }, kinds := [], alts := [], laidByText := true, laidKinds := [.data, .widerDeep, .data, .widerDeep], laidTests := true, laidLooks := .later }
def TraceFromUptoCardSaid : Prop := Claim7.holds Tryz.pinned (.plain (OpenSpec.upto traceFromSpec)) traceFromUptoCard

/-- THE SECOND FORM's CARD OF 'hostlerlaw25.TraceOrder'. -/
def traceOrderUptoCard : Claim7 := { stood := { row := traceOrderUptoRow, standIns := [], harness := (true, "e10a68dd15961ea9fa99ad129fd69b497a6a6e0e095361cc0305094c160159d0"), looks := true }, kinds := [], alts := [], laidByText := true, laidKinds := [.data, .widerDeep, .data, .widerDeep], laidTests := true, laidLooks := .later }
def TraceOrderUptoCardSaid : Prop := Claim7.holds Tryz.pinned (.plain (OpenSpec.upto traceOrderSpec)) traceOrderUptoCard

/-- THE SECOND FORM's CARD OF 'hostlerlaw25.TraceNever'. -/
def traceNeverUptoCard : Claim7 := { stood := { row := traceNeverUptoRow, standIns := [], harness := (true, "e10a68dd15961ea9fa99ad129fd69b497a6a6e0e095361cc0305094c160159d0"), looks := true }, kinds := [], alts := [], laidByText := true, laidKinds := [.data, .widerDeep, .data, .widerDeep], laidTests := true, laidLooks := .later }
def TraceNeverUptoCardSaid : Prop := Claim7.holds Tryz.pinned (.plain (OpenSpec.upto traceNeverSpec)) traceNeverUptoCard

/-- THE SECOND FORM's CARD OF 'hostlerlaw20.WorldModel'. -/
def worldModelUptoCard : Claim7 := { stood := { row := worldModelUptoRow, standIns := [], harness := (true, "e10a68dd15961ea9fa99ad129fd69b497a6a6e0e095361cc0305094c160159d0"), looks := true }, kinds := [], alts := [], laidByText := true, laidKinds := [.data, .widerDeep, .data, .widerDeep], laidTests := true, laidLooks := .later }
def WorldModelUptoCardSaid : Prop := Claim7.holds Tryz.pinned (.plain (OpenSpec.upto worldModelSpec)) worldModelUptoCard

/-- THE SECOND FORM's CARD OF 'hostlertop.TopRun'. -/
def topRunUptoCard : Claim7 := { stood := { row := topRunUptoRow, standIns := [], harness := (true, "e10a68dd15961ea9fa99ad129fd69b497a6a6e0e095361cc0305094c160159d0"), looks := true }, kinds := [], alts := [], laidByText := true, laidKinds := [.data, .widerDeep, .data, .widerDeep], laidTests := true, laidLooks := .later }
def TopRunUptoCardSaid : Prop := Claim7.holds Tryz.pinned (.plain (OpenSpec.upto topRunSpec)) topRunUptoCard

/-- THE SECOND FORM's CARD OF 'hostlerlaw24.BoundNone'. -/
def boundNoneUptoCard : Claim7 := { stood := { row := boundNoneUptoRow, standIns := [], harness := (true, "e10a68dd15961ea9fa99ad129fd69b497a6a6e0e095361cc0305094c160159d0"), looks := true }, kinds := [], alts := [], laidByText := true, laidKinds := [.data, .widerDeep, .data, .widerDeep], laidTests := true, laidLooks := .later }
def BoundNoneUptoCardSaid : Prop := Claim7.holds Tryz.pinned (.plain (OpenSpec.upto boundNoneSpec)) boundNoneUptoCard

/-- THE SECOND FORM's CARD OF 'hostlerlaw23.QuietHolds'. -/
def quietHoldsUptoCard : Claim7 := { stood := { row := quietHoldsUptoRow, standIns := [], harness := (true, "e10a68dd15961ea9fa99ad129fd69b497a6a6e0e095361cc0305094c160159d0"), looks := true }, kinds := [], alts := [], laidByText := true, laidKinds := [.data, .widerDeep, .data, .widerDeep], laidTests := true, laidLooks := .later }
def QuietHoldsUptoCardSaid : Prop := Claim7.holds Tryz.pinned (.plain (OpenSpec.upto quietHoldsSpec)) quietHoldsUptoCard

/-- THE SECOND FORM's CARD OF 'hostlerlaw23.QuietAll'. -/
def quietAllUptoCard : Claim7 := { stood := { row := quietAllUptoRow, standIns := [], harness := (true, "e10a68dd15961ea9fa99ad129fd69b497a6a6e0e095361cc0305094c160159d0"), looks := true }, kinds := [], alts := [], laidByText := true, laidKinds := [.data, .widerDeep, .data, .widerDeep], laidTests := true, laidLooks := .later }
def QuietAllUptoCardSaid : Prop := Claim7.holds Tryz.pinned (.plain (OpenSpec.upto quietAllSpec)) quietAllUptoCard

/-- THE SECOND FORM's CARD OF 'hostlerlaw20.WorldConfigs'. -/
def worldConfigsUptoCard : Claim7 := { stood := { row := worldConfigsUptoRow, standIns := [], harness := (true, "e10a68dd15961ea9fa99ad129fd69b497a6a6e0e095361cc0305094c160159d0"), looks := true }, kinds := [], alts := [], laidByText := true, laidKinds := [.data, .widerDeep, .data, .widerDeep], laidTests := true, laidLooks := .later }
def WorldConfigsUptoCardSaid : Prop := Claim7.holds Tryz.pinned (.plain (OpenSpec.upto worldConfigsSpec)) worldConfigsUptoCard
end Rows
end Go.Proofs.YtlmmjgekolpekaaGreatDoor
