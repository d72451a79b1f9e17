/-
  DERIVED. GIVEN WITH THE SEED: THE PROGRAM's TIES (one call each: nine closed facts by the kernel) AND EACH ROW's TIE, after the 31st guide's Derived/Test/Toyas{Tie, Card}.lean. No idea stands in it: it is a product of the set-up. Laid BY PROGRAM, IN A SANDBOX (cutbox-door.mjs). By AI agents, Wed Nov 11 2026. No macro, syntax, notation, axiom, sorry.
-/
import Derived.Test.YtlmmjgekolpekaaGreatDoorRows
import Derived.LaidByTextLater
import Derived.SevenTiedAt
import Derived.LaidSub
import Derived.LaidOnce
namespace Go.Proofs.YtlmmjgekolpekaaGreatDoor
open Go
set_option maxRecDepth 100000
theorem seatTie1 : Tryz.prog.laidByTextLater [("math/bits.deBruijn64tab", Rows.laid_math_bits_deBruijn64tab), ("hostler/status.next", Rows.laid_hostler_status_next), ("hostler/event.all", Rows.laid_hostler_event_all), ("hostler/mach.places", Rows.laid_hostler_mach_places)] [.data, .widerDeep, .data, .widerDeep] true :=
  Program.laidByTextLater_by_one 75 8 65 (by kernel_rfl) (by kernel_rfl) (by kernel_rfl) (by kernel_rfl) (by kernel_rfl) (by kernel_rfl) (fun _ _ => by kernel_rfl)
theorem noOwnUnsafe : Tryz.pinned.checked.prog.headLifts.contains "ownunsafe" = false := by kernel_rfl
theorem tie : Tryz.prog.laidByTextLater [("math/bits.deBruijn64tab", Rows.laid_math_bits_deBruijn64tab), ("hostler/status.next", Rows.laid_hostler_status_next), ("hostler/event.all", Rows.laid_hostler_event_all), ("hostler/mach.places", Rows.laid_hostler_mach_places)] [.data, .widerDeep, .data, .widerDeep] true :=
  Program.laidByTextLater.sub seatTie1 ["math/bits.deBruijn64tab", "hostler/status.next", "hostler/event.all", "hostler/mach.places"] (by kernel_rfl) (by kernel_rfl)
theorem roundUntil_row_tie : Rows.roundUntilRow.laidByTextAt .later Tryz.pinned [.data, .widerDeep, .data, .widerDeep] true :=
  OpenClaim.laidByTextAt_later rfl rfl tie noOwnUnsafe
theorem roundHabits_row_tie : Rows.roundHabitsRow.laidByTextAt .later Tryz.pinned [.data, .widerDeep, .data, .widerDeep] true :=
  OpenClaim.laidByTextAt_later rfl rfl tie noOwnUnsafe
theorem roundAll_row_tie : Rows.roundAllRow.laidByTextAt .later Tryz.pinned [.data, .widerDeep, .data, .widerDeep] true :=
  OpenClaim.laidByTextAt_later rfl rfl tie noOwnUnsafe
theorem traceFrom_row_tie : Rows.traceFromRow.laidByTextAt .later Tryz.pinned [.data, .widerDeep, .data, .widerDeep] true :=
  OpenClaim.laidByTextAt_later rfl rfl tie noOwnUnsafe
theorem traceOrder_row_tie : Rows.traceOrderRow.laidByTextAt .later Tryz.pinned [.data, .widerDeep, .data, .widerDeep] true :=
  OpenClaim.laidByTextAt_later rfl rfl tie noOwnUnsafe
theorem traceNever_row_tie : Rows.traceNeverRow.laidByTextAt .later Tryz.pinned [.data, .widerDeep, .data, .widerDeep] true :=
  OpenClaim.laidByTextAt_later rfl rfl tie noOwnUnsafe
theorem worldModel_row_tie : Rows.worldModelRow.laidByTextAt .later Tryz.pinned [.data, .widerDeep, .data, .widerDeep] true :=
  OpenClaim.laidByTextAt_later rfl rfl tie noOwnUnsafe
theorem topRun_row_tie : Rows.topRunRow.laidByTextAt .later Tryz.pinned [.data, .widerDeep, .data, .widerDeep] true :=
  OpenClaim.laidByTextAt_later rfl rfl tie noOwnUnsafe
theorem boundNone_row_tie : Rows.boundNoneRow.laidByTextAt .later Tryz.pinned [.data, .widerDeep, .data, .widerDeep] true :=
  OpenClaim.laidByTextAt_later rfl rfl tie noOwnUnsafe
theorem quietHolds_row_tie : Rows.quietHoldsRow.laidByTextAt .later Tryz.pinned [.data, .widerDeep, .data, .widerDeep] true :=
  OpenClaim.laidByTextAt_later rfl rfl tie noOwnUnsafe
theorem quietAll_row_tie : Rows.quietAllRow.laidByTextAt .later Tryz.pinned [.data, .widerDeep, .data, .widerDeep] true :=
  OpenClaim.laidByTextAt_later rfl rfl tie noOwnUnsafe
theorem worldConfigs_row_tie : Rows.worldConfigsRow.laidByTextAt .later Tryz.pinned [.data, .widerDeep, .data, .widerDeep] true :=
  OpenClaim.laidByTextAt_later rfl rfl tie noOwnUnsafe
theorem roundUntilUpto_row_tie : Rows.roundUntilUptoRow.laidByTextAt .later Tryz.pinned [.data, .widerDeep, .data, .widerDeep] true :=
  OpenClaim.laidByTextAt_later rfl rfl tie noOwnUnsafe
theorem roundHabitsUpto_row_tie : Rows.roundHabitsUptoRow.laidByTextAt .later Tryz.pinned [.data, .widerDeep, .data, .widerDeep] true :=
  OpenClaim.laidByTextAt_later rfl rfl tie noOwnUnsafe
theorem roundAllUpto_row_tie : Rows.roundAllUptoRow.laidByTextAt .later Tryz.pinned [.data, .widerDeep, .data, .widerDeep] true :=
  OpenClaim.laidByTextAt_later rfl rfl tie noOwnUnsafe
theorem traceFromUpto_row_tie : Rows.traceFromUptoRow.laidByTextAt .later Tryz.pinned [.data, .widerDeep, .data, .widerDeep] true :=
  OpenClaim.laidByTextAt_later rfl rfl tie noOwnUnsafe
theorem traceOrderUpto_row_tie : Rows.traceOrderUptoRow.laidByTextAt .later Tryz.pinned [.data, .widerDeep, .data, .widerDeep] true :=
  OpenClaim.laidByTextAt_later rfl rfl tie noOwnUnsafe
theorem traceNeverUpto_row_tie : Rows.traceNeverUptoRow.laidByTextAt .later Tryz.pinned [.data, .widerDeep, .data, .widerDeep] true :=
  OpenClaim.laidByTextAt_later rfl rfl tie noOwnUnsafe
theorem worldModelUpto_row_tie : Rows.worldModelUptoRow.laidByTextAt .later Tryz.pinned [.data, .widerDeep, .data, .widerDeep] true :=
  OpenClaim.laidByTextAt_later rfl rfl tie noOwnUnsafe
theorem topRunUpto_row_tie : Rows.topRunUptoRow.laidByTextAt .later Tryz.pinned [.data, .widerDeep, .data, .widerDeep] true :=
  OpenClaim.laidByTextAt_later rfl rfl tie noOwnUnsafe
theorem boundNoneUpto_row_tie : Rows.boundNoneUptoRow.laidByTextAt .later Tryz.pinned [.data, .widerDeep, .data, .widerDeep] true :=
  OpenClaim.laidByTextAt_later rfl rfl tie noOwnUnsafe
theorem quietHoldsUpto_row_tie : Rows.quietHoldsUptoRow.laidByTextAt .later Tryz.pinned [.data, .widerDeep, .data, .widerDeep] true :=
  OpenClaim.laidByTextAt_later rfl rfl tie noOwnUnsafe
theorem quietAllUpto_row_tie : Rows.quietAllUptoRow.laidByTextAt .later Tryz.pinned [.data, .widerDeep, .data, .widerDeep] true :=
  OpenClaim.laidByTextAt_later rfl rfl tie noOwnUnsafe
theorem worldConfigsUpto_row_tie : Rows.worldConfigsUptoRow.laidByTextAt .later Tryz.pinned [.data, .widerDeep, .data, .widerDeep] true :=
  OpenClaim.laidByTextAt_later rfl rfl tie noOwnUnsafe
end Go.Proofs.YtlmmjgekolpekaaGreatDoor
