/-
  DERIVED. GIVEN WITH THE SEED: THE PROGRAM's TIES (one call each: nine closed facts by the kernel) AND EACH ROW's TIE, after the 31st guide's Derived/Test/Toyas{Tie, Card}.lean. No idea stands in it: it is a product of the set-up. Laid BY PROGRAM, IN A SANDBOX (cutbox-door.mjs). By AI agents, Wed Nov 11 2026. No macro, syntax, notation, axiom, sorry.
-/
import Derived.Test.YtpclgelilnhjpaaGreatDoorRows
import Derived.LaidByTextLater
import Derived.SevenTiedAt
import Derived.LaidSub
import Derived.LaidOnce
namespace Go.Proofs.YtpclgelilnhjpaaGreatDoor
open Go
set_option maxRecDepth 100000
theorem seatTie1 : Tryz.prog.laidByTextLater [("math/bits.deBruijn32tab", Rows.laid_math_bits_deBruijn32tab), ("math/bits.deBruijn64tab", Rows.laid_math_bits_deBruijn64tab), ("internal/strconv.uint64pow10", Rows.laid_internal_strconv_uint64pow10), ("hostler/status.next", Rows.laid_hostler_status_next), ("hostler/event.all", Rows.laid_hostler_event_all), ("hostler/mach.places", Rows.laid_hostler_mach_places), ("hostler/quiet.names", Rows.laid_hostler_quiet_names)] [.data, .data, .data, .widerDeep, .data, .widerDeep, .mapped] true :=
  Program.laidByTextLater_by_one 125 8 65 (by kernel_rfl) (by kernel_rfl) (by kernel_rfl) (by kernel_rfl) (by kernel_rfl) (by kernel_rfl) (fun _ _ => by kernel_rfl)
theorem noOwnUnsafe : Tryz.pinned.checked.prog.headLifts.contains "ownunsafe" = false := by kernel_rfl
theorem tie : Tryz.prog.laidByTextLater [("math/bits.deBruijn64tab", Rows.laid_math_bits_deBruijn64tab), ("hostler/status.next", Rows.laid_hostler_status_next), ("hostler/event.all", Rows.laid_hostler_event_all), ("hostler/mach.places", Rows.laid_hostler_mach_places), ("hostler/quiet.names", Rows.laid_hostler_quiet_names)] [.data, .widerDeep, .data, .widerDeep, .mapped] true :=
  Program.laidByTextLater.sub seatTie1 ["math/bits.deBruijn64tab", "hostler/status.next", "hostler/event.all", "hostler/mach.places", "hostler/quiet.names"] (by kernel_rfl) (by kernel_rfl)
theorem quietNames_row_tie : Rows.quietNamesRow.laidByTextAt .later Tryz.pinned [.data, .widerDeep, .data, .widerDeep, .mapped] true :=
  OpenClaim.laidByTextAt_later rfl rfl tie noOwnUnsafe
theorem tie2 : Tryz.prog.laidByTextLater [("math/bits.deBruijn32tab", Rows.laid_math_bits_deBruijn32tab), ("math/bits.deBruijn64tab", Rows.laid_math_bits_deBruijn64tab), ("internal/strconv.uint64pow10", Rows.laid_internal_strconv_uint64pow10), ("hostler/status.next", Rows.laid_hostler_status_next), ("hostler/event.all", Rows.laid_hostler_event_all), ("hostler/mach.places", Rows.laid_hostler_mach_places)] [.data, .data, .data, .widerDeep, .data, .widerDeep] true :=
  Program.laidByTextLater.sub seatTie1 ["math/bits.deBruijn32tab", "math/bits.deBruijn64tab", "internal/strconv.uint64pow10", "hostler/status.next", "hostler/event.all", "hostler/mach.places"] (by kernel_rfl) (by kernel_rfl)
theorem scriptConfigs_row_tie : Rows.scriptConfigsRow.laidByTextAt .later Tryz.pinned [.data, .data, .data, .widerDeep, .data, .widerDeep] true :=
  OpenClaim.laidByTextAt_later rfl rfl tie2 noOwnUnsafe
theorem scriptParses_row_tie : Rows.scriptParsesRow.laidByTextAt .later Tryz.pinned [.data, .data, .data, .widerDeep, .data, .widerDeep] true :=
  OpenClaim.laidByTextAt_later rfl rfl tie2 noOwnUnsafe
theorem exploreErrors_row_tie : Rows.exploreErrorsRow.laidByTextAt .later Tryz.pinned [.data, .data, .data, .widerDeep, .data, .widerDeep] true :=
  OpenClaim.laidByTextAt_later rfl rfl tie2 noOwnUnsafe
theorem quietNamesUpto_row_tie : Rows.quietNamesUptoRow.laidByTextAt .later Tryz.pinned [.data, .widerDeep, .data, .widerDeep, .mapped] true :=
  OpenClaim.laidByTextAt_later rfl rfl tie noOwnUnsafe
theorem scriptConfigsUpto_row_tie : Rows.scriptConfigsUptoRow.laidByTextAt .later Tryz.pinned [.data, .data, .data, .widerDeep, .data, .widerDeep] true :=
  OpenClaim.laidByTextAt_later rfl rfl tie2 noOwnUnsafe
theorem scriptParsesUpto_row_tie : Rows.scriptParsesUptoRow.laidByTextAt .later Tryz.pinned [.data, .data, .data, .widerDeep, .data, .widerDeep] true :=
  OpenClaim.laidByTextAt_later rfl rfl tie2 noOwnUnsafe
theorem exploreErrorsUpto_row_tie : Rows.exploreErrorsUptoRow.laidByTextAt .later Tryz.pinned [.data, .data, .data, .widerDeep, .data, .widerDeep] true :=
  OpenClaim.laidByTextAt_later rfl rfl tie2 noOwnUnsafe
end Go.Proofs.YtpclgelilnhjpaaGreatDoor
